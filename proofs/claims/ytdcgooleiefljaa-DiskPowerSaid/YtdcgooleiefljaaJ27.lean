/-
  disk's law DiskPower: each change, armed.
-/
import Derived.Test.YtdcgooleiefljaaJ26
namespace Go.Proofs.Ytdcgooleiefljaa
open Go.RowKit Go.ChangeMaps Go.Shelf

def lf (N k : Nat) : Int := ((N - k : Nat) : Int)
def dn (N k : Nat) : Bool := decide (N < k)

theorem spend_at (N k : Nat) : spendZ (lf N k) (dn N k) = (decide (k < N), lf N (k + 1), dn N (k + 1)) := by
  unfold spendZ lf dn
  by_cases h : k < N
  · have h1 : ¬ N < k := by omega
    have h2 : ¬ N < k + 1 := by omega
    have h3 : ¬ ((N - k : Nat) : Int) = 0 := by omega
    simp only [h1, h2, h3, h, decide_false, decide_true, Bool.false_eq_true, or_self, if_false]
    congr 2
    omega
  · have h2 : N < k + 1 := by omega
    have h3 : ((N - k : Nat) : Int) = 0 := by omega
    have h4 : ((N - (k + 1) : Nat) : Int) = 0 := by omega
    simp [h, h2, h3, h4]

/-- what a change answers when the disk is armed so -/
def PW (w : World) (B p m N k : Nat) (F : List Fz) (S : List (List UInt8 × List UInt8 × Nat)) (e : Ending) (w' : World) : Prop :=
  ∃ z : Int, e = .returned (.int .i64 z) ∧ (z = 9 ↔ ¬ k < N) ∧ ∃ F', (¬ k < N → F'.map plain = S) ∧ (usedF F' ≤ 5000 ∧ F'.length ≤ 16) ∧ DkAt w' B p m (lf N (k + 1)) (dn N (k + 1)) 5000 F' ∧ DkStep w w' p m F F'

theorem used_size (F : List Fz) : usedF F = sizeS (F.map plain) := used_plain F

theorem firmS_size (ns : List (List UInt8)) : ∀ S : List (List UInt8 × List UInt8 × Nat), sizeS (firmS S ns) = sizeS S ∧ (firmS S ns).length = S.length := by
  induction ns with
  | nil => intro S; exact ⟨rfl, rfl⟩
  | cons n ns ih =>
    intro S
    obtain ⟨h1, h2⟩ := ih (S.map (firm1 n))
    have e : sizeS (S.map (firm1 n)) = sizeS S := by
      unfold sizeS
      rw [List.map_map]
      congr 1
      refine List.map_congr_left fun s _ => ?_
      simp only [Function.comp, firm1]
      split <;> rfl
    exact ⟨h1.trans e, h2.trans (by simp)⟩

theorem filter_less (frm : List UInt8) : ∀ (S : List (List UInt8 × List UInt8 × Nat)) (s : List UInt8 × List UInt8 × Nat), s ∈ S → s.1 = frm → sizeS (S.filter fun s => decide (s.1 ≠ frm)) + s.2.1.length ≤ sizeS S ∧ (S.filter fun s => decide (s.1 ≠ frm)).length + 1 ≤ S.length := by
  intro S
  induction S with
  | nil => intro s hs; cases hs
  | cons x S ih =>
    intro s hs he
    have hsub := sizeS_sub (T := S.filter fun s => decide (s.1 ≠ frm)) (S := S) List.filter_sublist
    by_cases hx : x.1 = frm
    · have e : (x :: S).filter (fun s => decide (s.1 ≠ frm)) = S.filter fun s => decide (s.1 ≠ frm) := by rw [List.filter_cons, if_neg (by simpa using hx)]
      rw [e]
      rcases List.mem_cons.1 hs with rfl | hs
      · simp only [sizeS, List.map_cons, List.sum_cons, List.length_cons] at hsub ⊢; omega
      · have := ih s hs he
        simp only [sizeS, List.map_cons, List.sum_cons, List.length_cons] at this ⊢; omega
    · have e : (x :: S).filter (fun s => decide (s.1 ≠ frm)) = x :: S.filter fun s => decide (s.1 ≠ frm) := by rw [List.filter_cons, if_pos (by simpa using hx)]
      rw [e]
      rcases List.mem_cons.1 hs with rfl | hs
      · exact absurd he hx
      · have := ih s hs he
        simp only [sizeS, List.map_cons, List.sum_cons, List.length_cons] at this ⊢; omega

theorem putS_size (x : List UInt8 × List UInt8 × Nat) : ∀ L : List (List UInt8 × List UInt8 × Nat), sizeS (putS L x) ≤ sizeS L + x.2.1.length ∧ (putS L x).length ≤ L.length + 1 := by
  intro L
  induction L with
  | nil => simp [putS, sizeS]
  | cons y L ih =>
    unfold putS
    split
    · simp only [sizeS, List.map_cons, List.sum_cons, List.length_cons]; omega
    · simp only [sizeS, List.map_cons, List.sum_cons, List.length_cons] at ih ⊢; omega

theorem swapZ_size {S S' : List (List UInt8 × List UInt8 × Nat)} {frm nto : List UInt8} {z : Int} (h : swapZ S frm nto z S') : z ≠ 9 ∧ sizeS S' ≤ sizeS S ∧ S'.length ≤ S.length := by
  unfold swapZ at h
  split at h
  · obtain ⟨rfl, rfl⟩ := h; exact ⟨by decide, Nat.le_refl _, Nat.le_refl _⟩
  · split at h
    · obtain ⟨rfl, rfl⟩ := h; exact ⟨by decide, Nat.le_refl _, Nat.le_refl _⟩
    · obtain ⟨rfl, s, hs, he, rfl⟩ := h
      have h1 := filter_less frm S s hs he
      have h2 := putS_size (nto, s.2.1.take s.2.2, s.2.2) (S.filter fun s => decide (s.1 ≠ frm))
      have h3 : (s.2.1.take s.2.2).length ≤ s.2.1.length := by simp; omega
      simp only at h2
      exact ⟨by decide, by omega, by omega⟩

section
variable {w0 w : World} {B p m N k : Nat} {F : List Fz} {S : List (List UInt8 × List UInt8 × Nat)}

theorem lf_range (hN : N ≤ 12) : -1 ≤ lf N k ∧ lf N k ≤ 9223372036854775807 := by unfold lf; omega

theorem pwFirm (h : DS w0 w B p m (lf N k) (dn N k) 5000 F S) (hN : N ≤ 12) (hS : sizeS S ≤ 5000 ∧ S.length ≤ 16) (nv : Value) (names : List (List UInt8)) (hn : ∀ W, Mod (fun j => j = p) w W → Strs W nv names) :
    Calls Try.prog 14 #[.pointer (some ⟨p, 0, none⟩), nv] w (PW w B p m N k F S) := by
  refine (dkFirm w B p m _ _ 5000 F h.at_ (lf_range hN) nv names hn).mono ?_
  rw [spend_at, h.pl]
  rintro e w' ⟨rfl, F', hp, hD, hSt⟩
  refine ⟨_, rfl, ?_, F', fun hk => ?_, ?_, hD, hSt⟩
  · by_cases hk : k < N
    · simp only [hk, decide_true, if_true, not_true, iff_false]; split <;> decide
    · simp [hk]
  · rw [hp]; simp [hk]
  · have hl : F'.length = (F'.map plain).length := by simp
    rw [used_size, hl, hp]
    have := firmS_size names S
    split <;> omega

theorem pwDrop (h : DS w0 w B p m (lf N k) (dn N k) 5000 F S) (hN : N ≤ 12) (hS : sizeS S ≤ 5000 ∧ S.length ≤ 16) (nv : Value) (names : List (List UInt8)) (hn : ∀ W, Mod (fun j => j = p) w W → Strs W nv names) :
    Calls Try.prog 12 #[.pointer (some ⟨p, 0, none⟩), nv] w (PW w B p m N k F S) := by
  refine (dkDrop w B p m _ _ 5000 F h.at_ (lf_range hN) nv names hn).mono ?_
  rw [spend_at, h.pl]
  rintro e w' ⟨rfl, F', hp, hD, hSt⟩
  refine ⟨_, rfl, ?_, F', fun hk => ?_, ?_, hD, hSt⟩
  · by_cases hk : k < N
    · simp only [hk, decide_true, if_true, not_true, iff_false]; split <;> decide
    · simp [hk]
  · rw [hp]; simp [hk]
  · have hl : F'.length = (F'.map plain).length := by simp
    rw [used_size, hl, hp]
    have := sizeS_sub (dropS_sub names S)
    split <;> omega

theorem DS.each (h : DS w0 w B p m (lf N k) (dn N k) 5000 F S) (hS : sizeS S ≤ 5000) : ∀ f ∈ F, f.bytes.length ≤ 1000000000 := by
  intro f hf
  have h1 : usedF F = sizeS S := h.used
  have h2 : f.bytes.length ≤ usedF F := by
    obtain ⟨G1, G2, rfl⟩ := List.append_of_mem hf
    rw [usedF_mid]; omega
  omega

theorem pwSwap (h : DS w0 w B p m (lf N k) (dn N k) 5000 F S) (hN : N ≤ 12) (hS : sizeS S ≤ 5000 ∧ S.length ≤ 16) (frm nto : List UInt8) :
    Calls Try.prog 15 #[.pointer (some ⟨p, 0, none⟩), strV frm, strV nto] w (PW w B p m N k F S) := by
  refine (dkSwap w B p m _ _ 5000 F h.at_ (lf_range hN) frm nto (h.each hS.1)).mono ?_
  rw [spend_at, h.pl]
  rintro e w' ⟨z, rfl, F', hq, hD, hSt⟩
  have hl : F'.length = (F'.map plain).length := by simp
  by_cases hk : k < N
  · simp only [hk, decide_true, if_true] at hq
    obtain ⟨h1, h2⟩ := swapZ_size hq
    exact ⟨z, rfl, by simp [hk, h1], F', fun hk' => absurd hk hk', by rw [used_size, hl]; omega, hD, hSt⟩
  · simp only [hk, decide_false, Bool.false_eq_true, if_false] at hq
    exact ⟨z, rfl, by simp [hk, hq.1], F', fun _ => hq.2, by rw [used_size, hl, hq.2]; exact hS, hD, hSt⟩

theorem pwTrim (h : DS w0 w B p m (lf N k) (dn N k) 5000 F S) (hN : N ≤ 12) (hS : sizeS S ≤ 5000 ∧ S.length ≤ 16) (name : List UInt8) (n : Int) :
    Calls Try.prog 21 #[.pointer (some ⟨p, 0, none⟩), strV name, .int .i64 n] w (PW w B p m N k F S) := by
  refine (dkTrim w B p m _ _ 5000 F h.at_ (lf_range hN) name n (h.each hS.1)).mono ?_
  rw [spend_at]
  rintro e w' ⟨z, rfl, hz, F', hp, ⟨hl, hu⟩, hD, hSt⟩
  have hU : usedF F = sizeS S := h.used
  refine ⟨z, rfl, by rw [hz]; simp, F', fun hk => ?_, ⟨by omega, by rw [hl, h.len]; exact hS.2⟩, hD, hSt⟩
  rw [hp (by simp [hk]), h.pl]

theorem pwWrite (h : DS w0 w B p m (lf N k) (dn N k) 5000 F S) (hN : N ≤ 12) (hS : sizeS S ≤ 5000 ∧ S.length ≤ 16) (name : List UInt8) (pv : Value) (ls : List (List UInt8)) (hP : ∀ W, Mod (fun j => j = p) w W → Parts W pv ls) (h1 : Lib.lens ls ≤ 1000000) (h2 : ls.length ≤ 1000000) :
    Calls Try.prog 10 #[.pointer (some ⟨p, 0, none⟩), strV name, pv] w (PW w B p m N k F S) := by
  have hU : usedF F = sizeS S := h.used
  refine (dkWrite w B p m _ _ 5000 F h.at_ (lf_range hN) name pv ls hP h1 h2 (by omega)).mono ?_
  rw [spend_at, h.pl, hU]
  rintro e w' ⟨rfl, F', hp, hD, hSt⟩
  have hl : F'.length = (F'.map plain).length := by simp
  by_cases hk : k < N
  · simp only [hk, decide_true, if_true] at hp ⊢
    rcases writeZ_ways 5000 S name ls.flatten h.names with hw | ⟨hw, -⟩ | ⟨S', hw, h3, h4, h5⟩
    · rw [hw] at hp ⊢
      exact ⟨4, rfl, by simp [hk], F', fun hk' => absurd hk hk', by rw [used_size, hl, hp]; exact hS, hD, hSt⟩
    · rw [hw] at hp ⊢
      exact ⟨8, rfl, by simp [hk], F', fun hk' => absurd hk hk', by rw [used_size, hl, hp]; exact hS, hD, hSt⟩
    · rw [hw] at hp ⊢
      exact ⟨0, rfl, by simp [hk], F', fun hk' => absurd hk hk', by rw [used_size, hl, show F'.map plain = S' from hp]; exact ⟨by omega, h5 hS.2⟩, hD, hSt⟩
  · simp only [hk, decide_false, Bool.false_eq_true, if_false] at hp ⊢
    exact ⟨9, rfl, by simp [hk], F', fun _ => hp, by rw [used_size, hl, hp]; exact hS, hD, hSt⟩
end

theorem crashS_size (ns : List (List UInt8)) (keep : List Int) (S : List (List UInt8 × List UInt8 × Nat)) : ∀ j, sizeS (crashS S ns keep j) ≤ sizeS S ∧ (crashS S ns keep j).length = S.length := by
  intro j
  induction j with
  | zero => exact ⟨Nat.le_refl _, rfl⟩
  | succ j ih =>
    have h : ∀ (n : List UInt8) (kp : Int) (T : List (List UInt8 × List UInt8 × Nat)), sizeS (T.map (crash1 n kp)) ≤ sizeS T := by
      intro n kp T
      induction T with
      | nil => exact Nat.le_refl _
      | cons x T ihT =>
        have hx : (crash1 n kp x).2.1.length ≤ x.2.1.length := by
          unfold crash1
          split
          · simp; omega
          · exact Nat.le_refl _
        simp only [sizeS, List.map_cons, List.sum_cons] at ihT ⊢
        omega
    unfold crashS
    have := h (ns.getD j []) (keep.getD j 0) (crashS S ns keep j)
    exact ⟨by omega, by simp [ih.2]⟩

/-- a Write of nothing to "a" -/
theorem writeZ_a (S : List (List UInt8 × List UInt8 × Nat)) (hn : (S.map (·.1)).Nodup) (hS : sizeS S ≤ 5000 ∧ S.length ≤ 16) : ((writeZ 5000 S (sizeS S) [97] []).1 = 0 ∨ (writeZ 5000 S (sizeS S) [97] []).1 = 8 ∧ (writeZ 5000 S (sizeS S) [97] []).2.length = 16) := by
  unfold writeZ
  rw [right_a, if_neg (by simp)]
  by_cases h : (5000 : Int) < (sizeS S + ([] : List UInt8).length : Nat) ∨ (S.any (fun s => decide (s.1 = [97])) = false ∧ 16 ≤ S.length)
  · rw [if_pos h]
    refine .inr ⟨rfl, ?_⟩
    rcases h with h | h
    · simp at h; omega
    · show S.length = 16; omega
  · rw [if_neg h]; exact .inl rfl

end Go.Proofs.Ytdcgooleiefljaa
