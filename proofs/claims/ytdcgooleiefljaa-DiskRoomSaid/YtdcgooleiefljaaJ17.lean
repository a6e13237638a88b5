/-
  disk: Swap, in one.
  disk: Read.
  disk: r1.Same of the same bytes.
-/
import Derived.Test.YtdcgooleiefljaaJ16
import Derived.Test.YtdcgooleiefljaaJ11
import Derived.Laws.BytesArg
namespace Go.Proofs.Ytdcgooleiefljaa
open Go.RowKit Go.ChangeMaps Go.Shelf

/-- what a Swap answers, and leaves -/
def swapZ (S : List (List UInt8 × List UInt8 × Nat)) (frm nto : List UInt8) (z : Int) (S' : List (List UInt8 × List UInt8 × Nat)) : Prop :=
  if rightZ nto = false then z = 4 ∧ S' = S
  else if S.any (fun s => decide (s.1 = frm)) = false then z = 6 ∧ S' = S
  else z = 0 ∧ ∃ s ∈ S, s.1 = frm ∧ S' = putS (S.filter fun s => decide (s.1 ≠ frm)) (nto, s.2.1.take s.2.2, s.2.2)

theorem dkSwap1 (W : World) (B p m : Nat) (left : Int) (down : Bool) (room : Int) (F : List Fz) (h : DkAt W B p m left down room F) (bd bf bt : Nat) (frm nto : List UInt8) (cd : W.cell? ⟨bd, 0, none⟩ = some (.pointer (some ⟨p, 0, none⟩))) (cf : W.cell? ⟨bf, 0, none⟩ = some (strV frm)) (ct : W.cell? ⟨bt, 0, none⟩ = some (strV nto)) (hlen : ∀ f ∈ F, f.bytes.length ≤ 1000000000) :
    Calls Try.prog 31 #[.pointer (some ⟨bd, 0, none⟩), .pointer (some ⟨bf, 0, none⟩), .pointer (some ⟨bt, 0, none⟩)] W fun e w' => ∃ z, e = .returned (.int .i64 z) ∧ ∃ F', swapZ (F.map plain) frm nto z (F'.map plain) ∧ DkAt w' B p m left down room F' ∧ DkStep W w' p m F F' := by
  unfold swapZ
  rw [any_plain]
  cases hrz : rightZ nto with
  | false =>
    refine (dkSwap_form W B p m left down room F h bd bf bt frm nto cd cf ct hrz).mono ?_
    rintro e w' ⟨rfl, hb⟩
    exact ⟨4, rfl, F, by simp, h.below hb, DkStep.below p m F hb⟩
  | true =>
    cases hin : inF F frm with
    | false =>
      refine (dkSwap_none W B p m left down room F h bd bf bt frm nto cd cf ct hrz hin).mono ?_
      rintro e w' ⟨rfl, hb⟩
      exact ⟨6, rfl, F, by simp, h.below hb, DkStep.below p m F hb⟩
    | true =>
      obtain ⟨F1, f, F2, hF, hnm⟩ := in_split hin
      refine (dkSwap_yes W B p m left down room F F1 F2 f h hF bd bf bt frm nto cd cf ct hrz hnm (hlen f (by rw [hF]; simp))).mono ?_
      rintro e w' ⟨rfl, F', hp, hD, hS⟩
      refine ⟨0, rfl, F', ?_, hD, hS⟩
      rw [if_neg (by simp), if_neg (by simp)]
      exact ⟨rfl, plain f, by rw [hF]; simp, hnm, hp⟩

set_option maxHeartbeats 4000000 in
theorem dkSwap (w : World) (B p m : Nat) (left : Int) (down : Bool) (room : Int) (F : List Fz) (h : DkAt w B p m left down room F) (hl : -1 ≤ left ∧ left ≤ 9223372036854775807) (frm nto : List UInt8) (hlen : ∀ f ∈ F, f.bytes.length ≤ 1000000000) :
    Calls Try.prog 15 #[.pointer (some ⟨p, 0, none⟩), strV frm, strV nto] w fun e w' => ∃ z, e = .returned (.int .i64 z) ∧ ∃ F', (if (spendZ left down).1 = true then swapZ (F.map plain) frm nto z (F'.map plain) else z = 9 ∧ F'.map plain = F.map plain) ∧
      DkAt w' B p m (spendZ left down).2.1 (spendZ left down).2.2 room F' ∧ DkStep w w' p m F F' := by
  obtain ⟨W3, hW3⟩ : ∃ W3, W3 = boxes3 w (.pointer (some ⟨p, 0, none⟩)) (strV frm) (strV nto) 25 9 9 := ⟨_, rfl⟩
  obtain ⟨hb3, cd, cf, ct, hsz⟩ := boxes3_cells w (.pointer (some ⟨p, 0, none⟩)) (strV frm) (strV nto) 25 9 9
  rw [← hW3] at hb3 cd cf ct hsz
  have h3 := h.below hb3
  have hpl : p < w.heap.size := (h.lt p (.inl rfl)).2
  obtain ⟨Q, hQ⟩ : ∃ Q : Int → List Fz → Prop, Q = fun z F' => (if (spendZ left down).1 = true then swapZ (F.map plain) frm nto z (F'.map plain) else z = 9 ∧ F'.map plain = F.map plain) := ⟨_, rfl⟩
  have hc := dkChange W3 B p m left down room F h3 hl 31 (enters_of Try.func31 (by kernel_rfl) rfl) #[.pointer (some ⟨w.heap.size, 0, none⟩), .pointer (some ⟨w.heap.size + 1, 0, none⟩), .pointer (some ⟨w.heap.size + 2, 0, none⟩)] (.slice none 0 0) []
    (fun W _ => ⟨rfl, none, 0, rfl, by simp, by simp, by simp, by simp⟩)
    (fun z w' => ∃ F', Q z F' ∧ DkAt w' B p m (spendZ left down).2.1 (spendZ left down).2.2 room F' ∧ DkStep W3 w' p m F F')
    (fun hs W hD hM => ⟨F, by rw [hQ]; simp [hs], hD, DkStep.power p m F hM⟩)
    (fun hs hx => by simp at hx)
    (fun hs _ W hD hM => by
      refine (dkSwap1 W B p m _ _ room F hD w.heap.size (w.heap.size + 1) (w.heap.size + 2) frm nto (cell_power hM cd (by simp; omega)) (cell_power hM cf (by simp; omega)) (cell_power hM ct (by simp; omega)) hlen).mono ?_
      rintro e w' ⟨z, rfl, F', hz, hD', hS'⟩
      exact ⟨z, rfl, F', by rw [hQ]; simpa [hs] using hz, hD', (DkStep.power p m F hM).trans hS'⟩)
  have HQ := Lib.hid hQ
  have HW := Lib.hid hW3
  have hB := Lib.hid hb3
  unfold boxes3 at HW
  have hgoal : ∀ z F', Q z F' → (if (spendZ left down).1 = true then swapZ (F.map plain) frm nto z (F'.map plain) else z = 9 ∧ F'.map plain = F.map plain) := by rw [hQ]; exact fun _ _ h => h
  have HG := Lib.hid hgoal
  clear hQ hW3 hb3 cd cf ct hsz h3 hpl h hlen hgoal
  refine Calls.mono (R := fun e w' => ∃ z, e = .returned (.int .i64 z) ∧ ∃ F', Q z F' ∧ DkAt w' B p m (spendZ left down).2.1 (spendZ left down).2.2 room F' ∧ DkStep w w' p m F F') ?_ ?_
  · go_enter Try.func15, Try.ntmps15
    go_wp2_with (go_at_call 23; rw [← HW.out]; refine hc.mono ?_; rintro e w' ⟨z, rfl, F', hq, hD, hS⟩; have R := Lib.hid (And.intro hq (And.intro hD hS)); clear hq hD hS)
    go_ret
    exact ⟨z, rfl, F', R.out.1, R.out.2.1, (DkStep.below p m F hB.out).trans R.out.2.2⟩
  · rintro e w' ⟨z, rfl, F', hq, hD, hS⟩
    exact ⟨z, rfl, F', HG.out _ _ hq, hD, hS⟩

end Go.Proofs.Ytdcgooleiefljaa

namespace Go.Proofs.Ytdcgooleiefljaa
open Go.RowKit Go.ChangeMaps Go.Shelf

theorem dkClone (w : World) (B : Nat) (v : Value) (l : List UInt8) (h : w.ownsRow B 5 1 v l.length (l.map encB)) (hl : l.length ≤ 1000000000) :
    Calls Try.prog 32 #[v] w fun e w' => ∃ u, e = .returned u ∧ w'.ownsRow w.heap.size 5 1 u l.length (l.map encB) ∧ Below w.heap.size w w' := by
  obtain ⟨q, n, c, rfl⟩ := own_form h
  obtain rfl : n = l.length := own_len h
  cases q with
  | none =>
    have hl0 : l = [] := by
      rcases h.2 with ⟨-, h0⟩ | ⟨g, cap, cur, he, -⟩
      · exact List.eq_nil_of_length_eq_zero h0
      · cases he
    subst hl0
    refine (show Calls Try.prog 32 _ _ _ from Any.bytes_Clone_nil layClone _ c w).mono ?_
    rintro e w' ⟨rfl, rfl⟩
    exact ⟨_, rfl, World.ownsRow_nil _ _ _ _, Below.refl _ _⟩
  | some a =>
    have hs := SrcAt.of_own h
    refine (show Calls Try.prog 32 _ _ _ from Any.bytes_Clone_at layClone a l.length c (l.map fun b => (b.toNat : Int)) w (by simp) (by omega) (fun i hi => by
      have := hs.cells a rfl i (encB l[i]) (by simp [List.getElem?_eq_getElem hi])
      rw [this]
      simp [encB, List.getD, List.getElem?_eq_getElem hi])).mono ?_
    rintro e w' ⟨u, rfl, hu, -, hb⟩
    rw [List.map_map] at hu
    exact ⟨u, rfl, hu, hb⟩

set_option maxHeartbeats 4000000 in
theorem dkRead (w : World) (B p m : Nat) (left : Int) (room : Int) (F : List Fz) (f : Fz) (h : DkAt w B p m left false room F) (hf : f ∈ F) (hl : f.bytes.length ≤ 1000000000) :
    Calls Try.prog 18 #[.pointer (some ⟨p, 0, none⟩), strV f.name] w fun e w' => ∃ u, e = .returned (.tuple #[u, .int .i64 0]) ∧ w'.ownsRow w.heap.size 5 1 u f.bytes.length (f.bytes.map encB) ∧ Below w.heap.size w w' := by
  have cU := dkUp w B p m left false room F h
  obtain ⟨F1, F2, rfl⟩ := List.append_of_mem hf
  have c3 : w.cell? ⟨p, 3, none⟩ = some (.map (some m)) := by simp [World.cell?, h.cell]
  have L0 := h.look f.name
  rw [h.look_mid] at L0
  have c0 : w.cell? ⟨f.blk, 0, none⟩ = some f.v := by simp [World.cell?, h.file f hf]
  have hrow := h.row f hf
  obtain ⟨q, n, c, hv⟩ := own_form hrow
  rw [hv] at c0 hrow
  have cC := dkClone w B _ f.bytes hrow hl
  obtain ⟨fb, hfb⟩ : ∃ fb, fb = f.blk := ⟨_, rfl⟩
  obtain ⟨xn, hxn⟩ : ∃ xn, xn = f.name := ⟨_, rfl⟩
  rw [← hfb] at c0 L0
  rw [← hxn] at L0 ⊢
  clear h hf hl hrow hv hfb hxn
  go_enter Try.func18, Try.ntmps18
  go_wp2_with (first
    | (go_at_call 22; refine cU.mono ?_; rintro e w' ⟨rfl, rfl⟩)
    | (go_at_call 32; refine cC.mono ?_; rintro e w2 ⟨u, rfl, hu, hb⟩; have R := Lib.hid (And.intro hu hb); clear hu hb))
  go_ret2
  exact ⟨u, rfl, R.out⟩

/-- of no such file -/
theorem dkRead_none (w : World) (B p m : Nat) (left : Int) (room : Int) (F : List Fz) (h : DkAt w B p m left false room F) (x : List UInt8) (hx : inF F x = false) :
    Calls Try.prog 18 #[.pointer (some ⟨p, 0, none⟩), strV x] w fun e w' => e = .returned (.tuple #[.slice none 0 0, .int .i64 6]) ∧ w' = w := by
  have cU := dkUp w B p m left false room F h
  have c3 : w.cell? ⟨p, 3, none⟩ = some (.map (some m)) := by simp [World.cell?, h.cell]
  have L0 := h.look x
  rw [look_out hx] at L0
  clear h hx
  go_enter Try.func18, Try.ntmps18
  go_wp2_with (go_at_call 22; refine cU.mono ?_; rintro e w' ⟨rfl, rfl⟩)
  go_ret2
  exact ⟨rfl, rfl⟩

end Go.Proofs.Ytdcgooleiefljaa

namespace Go.Proofs.Ytdcgooleiefljaa
open Go.RowKit Go.ChangeMaps Go.Shelf

theorem conv_bytes (w : World) (v : Value) (l : List UInt8) (h : BytesAt w v l) : (convert 37 9 v).run Try.prog w = .ok (strV l) w := by
  obtain ⟨p, c, rfl, hs⟩ := h
  cases p with
  | none =>
    have h0 := (hs.nil rfl).1
    obtain rfl := List.eq_nil_of_length_eq_zero h0
    rw [run_convert_bytes_string w 37 9 5 none _ c Try.underlying37 Try.underlying5 Try.underlying9]
    rfl
  | some a =>
    exact run_convert_bytes_back w 37 9 5 a c l Try.underlying37 Try.underlying5 Try.underlying9 fun j hj => hs.cells a rfl j _ (by simp [List.getElem?_eq_getElem hj, encB])

theorem dkSame (w : World) (u v : Value) (l : List UInt8) (hu : BytesAt w u l) (hv : BytesAt w v l) :
    Calls Try.prog 19 #[u, v] w fun e w' => e = .returned (.bool true) ∧ w' = w := by
  have h1 := conv_bytes w u l hu
  have h2 := conv_bytes w v l hv
  obtain ⟨pu, cu, rfl, -⟩ := hu
  obtain ⟨pv, cv, rfl, -⟩ := hv
  unfold strV at h1 h2
  generalize (⟨l.toArray⟩ : ByteArray) = s at h1 h2
  go_enter Try.func19, Try.ntmps19
  go_wp2_with fail
  go_ret
  exact ⟨by simp, rfl⟩

end Go.Proofs.Ytdcgooleiefljaa
