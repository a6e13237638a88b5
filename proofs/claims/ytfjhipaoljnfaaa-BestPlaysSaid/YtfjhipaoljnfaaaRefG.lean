/-
  best's law: BestMerges: one list more.
-/
import Derived.Test.YtfjhipaoljnfaaaRefF
namespace Go.Proofs.Ytfjhipaoljnfaaa
open Go.RowKit

theorem MState.put {wo w3 w5 w7 : World} {B c : Nat} {vl vb vl5 v7 : Value} {ps : List Value} {E FX FX' Ep : Nat → Prop} {ls : List (List Hz)} {l : List Hz} {q : Option Addr} {qc g5 n : Nat} (m : MState wo B c vl vb ps E FX ls) (hm : Mod (fun k => k = c) wo w3)
    (hp : HitsF w3 Ep (.slice q n qc) l) (hEp : ∀ k, Ep k → wo.heap.size ≤ k ∧ k < w3.heap.size) (hr : RefL w3 FX' c 1048576 (addsZ 1048576 [] (ls.flatten ++ l)).2) (hF : ∀ k, FX' k → (FX k ∨ wo.heap.size ≤ k) ∧ k < w3.heap.size)
    (h12 : l.length ≤ 12) (hlen : ls.length < 6) (hv : ∀ h ∈ l, h.vec.length ≤ 1000000) (hB : B ≤ wo.heap.size)
    (ho5 : w5.ownsRow B 22 1 vl5 (ls.length + 1) (ps ++ [.slice q n qc])) (hv5 : vl5.ownBlock = some g5) (hg5 : (w3.alloc (.cells #[.slice q n qc] 22)).grownBy w5 vl.ownBlock) (hat : vl.ownBlock = some g5 ∨ g5 = w3.heap.size + 1)
    (ho7 : w7.ownsRow w5.heap.size 22 1 v7 (1 + ls.length) ([.slice q n qc] ++ ps.reverse)) (hg7 : (w5.alloc (.cells #[.slice q n qc] 22)).grownBy w7 (some w5.heap.size)) :
    MState w7 B c vl5 v7 (ps ++ [.slice q n qc]) (fun k => E k ∨ Ep k) FX' (ls ++ [l]) := by
  obtain rfl : n = l.length := by
    obtain ⟨_, _, e, -⟩ := hp
    exact (Value.slice.inj e).2.1
  have hs3 := hm.size
  have hs5 := hg5.size
  have hs7 := hg7.size
  simp at hs5 hs7
  have hcB := m.cB
  obtain ⟨nl, -, nd⟩ := m.next hm
  have h35 : Mod (fun k => vl.ownBlock = some k) w3 w5 := (Mod.of_below ((Below.refl w3.heap.size w3).alloc (Nat.le_refl _) _)).grown hg5 fun k hk => .inl hk
  have h57 : Below w5.heap.size w5 w7 := ((Below.refl w5.heap.size w5).alloc (Nat.le_refl _) _).grown hg7 (by simp) fun b hb => by cases hb; exact Nat.le_refl _
  have h37 := h35.andBelow h57
  have hlt5 : g5 < w5.heap.size := (ho5.lt g5 hv5).2
  have hvl : ∀ b, vl.ownBlock = some b → b < wo.heap.size := fun b hb => (m.ol.lt b hb).2
  refine ⟨by simpa using own_below ho5 h57, ?_, ?_, ?_, ?_, ?_, ?_, ?_, ?_, ?_, ?_, hcB, by simp; omega, ?_, ?_⟩
  · rw [List.reverse_append, List.length_append]
    have := own_mono ho7 (show B ≤ w5.heap.size by omega)
    simpa [Nat.add_comm] using this
  · intro b hb
    rw [hv5] at hb
    obtain rfl := Option.some.inj hb
    intro h
    have := (ho7.lt g5 h).1
    omega
  · intro i hi
    rw [List.length_append, List.length_singleton] at hi
    have hpl : ps.length = ls.length := by have := m.ol.1; omega
    by_cases e : i = ls.length
    · subst e
      have el : (ls ++ [l])[ls.length] = l := by simp
      refine ⟨q, qc, by rw [el, List.getElem?_append_right (by omega), hpl]; simp, ?_⟩
      rw [el]
      refine (hp.agree (Agree.of_mod h37 (fun k hk => (hEp k hk).2) fun k hk hk' => ?_)).mono fun _ => .inr
      have := hvl k hk'
      have := (hEp k hk).1
      omega
    · have hi' : i < ls.length := by omega
      obtain ⟨q', qc', h1, h2⟩ := nd i hi'
      refine ⟨q', qc', ?_, ?_⟩
      · rw [List.getElem_append_left hi', List.getElem?_append_left (by omega)]; exact h1
      · simp only [List.getElem_append_left hi']
        refine (h2.agree (Agree.of_mod h37 (fun k hk => by have := m.ehi k hk; omega) fun k hk hk' => (m.el k hk').1 hk)).mono fun _ => .inl
  · intro k hk
    rcases hk with hk | hk
    · exact m.elo k hk
    · have := (hEp k hk).1; omega
  · intro k hk
    rcases hk with hk | hk
    · have := m.ehi k hk; omega
    · have := (hEp k hk).2; omega
  · intro b hb
    rw [hv5] at hb
    obtain rfl := Option.some.inj hb
    rcases hat with h | h
    · obtain ⟨h1, h2⟩ := m.el g5 h
      have := hvl g5 h
      refine ⟨fun hk => ?_, fun hk => ?_⟩
      · rcases hk with hk | hk
        · exact h1 hk
        · have := (hEp _ hk).1; omega
      · rcases (hF _ hk).1 with hk | hk
        · exact h2 hk
        · omega
    · refine ⟨fun hk => ?_, fun hk => by have := (hF _ hk).2; omega⟩
      rcases hk with hk | hk
      · have := m.ehi _ hk; omega
      · have := (hEp _ hk).2; omega
  · intro b hb
    have := (ho7.lt b hb).1
    refine ⟨fun hk => ?_, fun hk => by have := (hF _ hk).2; omega⟩
    rcases hk with hk | hk
    · have := m.ehi _ hk; omega
    · have := (hEp _ hk).2; omega
  · rw [List.flatten_append]
    simp only [List.flatten_cons, List.flatten_nil, List.append_nil]
    refine hr.agree (Agree.of_mod h37 (fun k hk => (hF k hk).2) fun k hk hk' => ?_) h37.size
    rcases (hF k hk).1 with h | h
    · exact (m.el k hk').2 h
    · have := hvl k hk'; omega
  · intro k hk
    have := (hF k hk).2
    omega
  · intro k hk
    rcases (hF k hk).1 with h | h
    · exact m.flo k h
    · omega
  · intro ms hms
    rcases List.mem_append.1 hms with h | h
    · exact m.l12 ms h
    · rw [List.mem_singleton.1 h]; exact h12
  · intro ms hms
    rcases List.mem_append.1 hms with h | h
    · exact m.vec ms h
    · rw [List.mem_singleton.1 h]; exact hv

theorem MState.ones {w : World} {B c : Nat} {vl vb : Value} {ps : List Value} {E FX : Nat → Prop} {ls : List (List Hz)} (m : MState w B c vl vb ps E FX ls) : ∀ u ∈ ps, u.oneCell' = true := by
  intro u hu
  have hpl : ps.length = ls.length := by have := m.ol.1; omega
  obtain ⟨i, hi, rfl⟩ := List.mem_iff_getElem.1 hu
  obtain ⟨q, qc, h1, -⟩ := m.dat i (by omega)
  rw [List.getElem?_eq_getElem hi] at h1
  rw [Option.some.inj h1]
  rfl

/-- the lists, as merge reads them -/
theorem MState.lists {w : World} {B c : Nat} {vl vb : Value} {ps : List Value} {E FX : Nat → Prop} {ls : List (List Hz)} (m : MState w B c vl vb ps E FX ls) :
    ListsF w (fun k => B ≤ k ∧ k < w.heap.size) vl ls ∧ ListsF w (fun k => B ≤ k ∧ k < w.heap.size) vb ls.reverse := by
  have hpl : ps.length = ls.length := by have := m.ol.1; omega
  have one : ∀ (v : Value) (qs : List Value) (ms : List (List Hz)), qs.length = ms.length → w.ownsRow B 22 1 v ms.length qs → (∀ i (h : i < ms.length), ∃ q qc, qs[i]? = some (.slice q ms[i].length qc) ∧ HitsF w E (.slice q ms[i].length qc) ms[i]) → ListsF w (fun k => B ≤ k ∧ k < w.heap.size) v ms := by
    intro v qs ms hq h hd
    obtain ⟨h1, ⟨h2, h3⟩ | ⟨g, cap, cur, hvv, hb, hg, hn, hcm, hs, ht⟩⟩ := h
    · have : ms = [] := List.eq_nil_of_length_eq_zero h3
      subst this
      rw [h2]; exact ⟨none, 0, rfl, by simp, by simp, by simp, fun i hi => absurd hi (by simp)⟩
    · refine ⟨_, cap, hvv, hn, by simpa [maxLen] using hcm, by simp, fun i hi => ?_⟩
      obtain ⟨q, qc, e, hh⟩ := hd i hi
      refine ⟨g, 0, _, rfl, ⟨hb, lt_block hg⟩, ?_, hh.mono fun k hk => ⟨m.elo k hk, m.ehi k hk⟩⟩
      rw [← ht, List.getElem?_take] at e
      split at e
      · simp only [World.cell?, hg]; simpa using e
      · cases e
  refine ⟨one vl ps ls hpl m.ol m.dat, one vb ps.reverse ls.reverse (by simp [hpl]) (by simpa using m.ob) fun i hi => ?_⟩
  rw [List.length_reverse] at hi
  obtain ⟨q, qc, h1, h2⟩ := m.dat (ls.length - 1 - i) (by omega)
  refine ⟨q, qc, ?_, ?_⟩
  · rw [List.getElem?_reverse (by omega), hpl, List.getElem_reverse]; exact h1
  · rw [List.getElem_reverse]; exact h2

end Go.Proofs.Ytfjhipaoljnfaaa
