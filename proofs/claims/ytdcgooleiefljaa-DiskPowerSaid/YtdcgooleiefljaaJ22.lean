/-
  disk: the document's example.
-/
import Derived.Test.YtdcgooleiefljaaJ21
namespace Go.Proofs.Ytdcgooleiefljaa
open Go.RowKit Go.ChangeMaps Go.Shelf

theorem plain_one {F : List Fz} {a b : List UInt8} {n : Nat} (h : F.map plain = [(a, b, n)]) : ∃ f, F = [f] ∧ f.name = a ∧ f.bytes = b ∧ f.firm = n := by
  match F, h with
  | [f], h =>
    simp only [List.map_cons, List.map_nil, List.cons.injEq, and_true, plain, Prod.mk.injEq] at h
    exact ⟨f, rfl, h.1, h.2.1, h.2.2⟩

theorem used_plain (F : List Fz) : usedF F = ((F.map plain).map (·.2.1.length)).sum := by
  simp [usedF, plain, Function.comp_def]

set_option maxRecDepth 100000 in
set_option maxHeartbeats 4000000 in
theorem dkAwake (w : World) : Calls Try.prog 6 #[] w fun e w' => e = .returned (.bool true) ∧ Below w.heap.size w w' := by
  go_enter Try.func6, Try.ntmps6
  go_wp2_with (go_at_call 7; refine (dkNew w 100 (by omega)).mono ?_; rintro e w1 ⟨p, m, rfl, hD1, hb1⟩; have D1 := Lib.hid hD1; have B1 := Lib.hid hb1; clear hD1 hb1)
  -- Write
  obtain ⟨W1, hW1⟩ : ∃ W1, W1 = ((w1.alloc (.cells #[.int .u8 1, .int .u8 2] 5)).alloc (.cells #[.int .u8 3] 5)).alloc (.cells #[.slice (some ⟨w1.heap.size, 0, none⟩) 2 2, .slice (some ⟨w1.heap.size + 1, 0, none⟩) 1 1] 37) := ⟨_, rfl⟩
  have hbW : Below w1.heap.size w1 W1 := by rw [hW1]; exact (((Below.refl _ w1).alloc (Nat.le_refl _) _).alloc (by simp) _).alloc (by simp; omega) _
  have hh := heap3 w1 (.cells #[.int .u8 1, .int .u8 2] 5) (.cells #[.int .u8 3] 5) (.cells #[.slice (some ⟨w1.heap.size, 0, none⟩) 2 2, .slice (some ⟨w1.heap.size + 1, 0, none⟩) 1 1] 37)
  rw [← hW1] at hh
  have hpl : p < w1.heap.size := (D1.out.lt p (.inl rfl)).2
  have hPa : ∀ W, Mod (fun j => j = p) W1 W → Parts W (.slice (some ⟨w1.heap.size + 2, 0, none⟩) 2 2) [[1, 2], [3]] := by
    intro W hM
    have k : ∀ j, p ≠ j → ∀ o, W1.heap[j]? = some o → W.heap[j]? = some o := fun j hj o ho => (hM.block j (by rw [Array.getElem?_eq_some_iff] at ho; exact ho.1) (Ne.symm hj)).trans ho
    have k0 := k _ (by omega) _ hh.1
    have k1 := k _ (by omega) _ hh.2.1
    have k2 := k _ (by omega) _ hh.2.2
    refine ⟨[.slice (some ⟨w1.heap.size, 0, none⟩) 2 2, .slice (some ⟨w1.heap.size + 1, 0, none⟩) 1 1], lit_reads k2 (by simp), fun i u l hu hl => ?_⟩
    match i, hu, hl with
    | 0, hu, hl =>
      simp at hu hl
      subst hu; subst hl
      exact lit_bytes (l := [1, 2]) k0
    | 1, hu, hl =>
      simp at hu hl
      subst hu; subst hl
      exact lit_bytes (l := [3]) k1
    | i + 2, hu, _ => simp at hu
  have cW := dkWrite W1 w.heap.size p m (-1) false 100 [] (D1.out.below hbW) (by omega) [97] (.slice (some ⟨w1.heap.size + 2, 0, none⟩) 2 2) [[1, 2], [3]] hPa (by decide) (by decide) (by simp [usedF])
  rw [spend_free] at cW
  have hz : writeZ 100 (([] : List Fz).map plain) (usedF []) [97] [[1, 2], [3]].flatten = (0, [([97], [1, 2, 3], 0)]) := by
    unfold writeZ
    rw [right_a]
    rfl
  rw [hz] at cW
  have BW := Lib.hid hbW
  have HW1 := Lib.hid hW1
  clear hW1 hbW hh hpl hPa hz
  go_wp2_with (go_at_call 10; rw [← HW1.out]; refine cW.mono ?_; rintro e w2 ⟨rfl, F2, hF2, hD2, hS2⟩; have D2 := Lib.hid (And.intro hF2 (And.intro hD2 hS2)); clear hF2 hD2 hS2)
  -- Firm
  have hF2 : F2.map plain = [([97], [1, 2, 3], 0)] := D2.out.1
  obtain ⟨W2, hW2⟩ : ∃ W2, W2 = w2.alloc (.cells #[.string ⟨#[97]⟩] 9) := ⟨_, rfl⟩
  have hbW : Below w2.heap.size w2 W2 := by rw [hW2]; exact (Below.refl _ w2).alloc (Nat.le_refl _) _
  have hh : W2.heap[w2.heap.size]? = some (.cells #[.string ⟨#[97]⟩] 9 (0, 0)) := by rw [hW2]; exact heap_alloc_new _ _
  have hpl : p < w2.heap.size := (D2.out.2.1.lt p (.inl rfl)).2
  have hNa : ∀ W, Mod (fun j => j = p) W2 W → Strs W (.slice (some ⟨w2.heap.size, 0, none⟩) 1 1) [[97]] := by
    intro W hM
    have k0 := (hM.block w2.heap.size (by rw [Array.getElem?_eq_some_iff] at hh; exact hh.1) (by omega)).trans hh
    exact lit_reads (us := [strV [97]]) k0 (by simp)
  have cF := dkFirm W2 w.heap.size p m (-1) false 100 F2 (D2.out.2.1.below hbW) (by omega) (.slice (some ⟨w2.heap.size, 0, none⟩) 1 1) [[97]] hNa
  rw [hF2, spend_free] at cF
  have BW2 := Lib.hid hbW
  have HW2 := Lib.hid hW2
  clear hW2 hbW hh hpl hNa hF2
  go_wp2_with (go_at_call 14; rw [← HW2.out]; refine cF.mono ?_; rintro e w3 ⟨rfl, F3, hF3, hD3, hS3⟩; have D3 := Lib.hid (And.intro hF3 (And.intro hD3 hS3)); clear hF3 hD3 hS3)
  -- Write
  have hF3 : F3.map plain = [([97], [1, 2, 3], 3)] := D3.out.1.trans (by rfl)
  obtain ⟨W3, hW3⟩ : ∃ W3, W3 = (w3.alloc (.cells #[.int .u8 4, .int .u8 5] 5)).alloc (.cells #[.slice (some ⟨w3.heap.size, 0, none⟩) 2 2] 37) := ⟨_, rfl⟩
  have hbW : Below w3.heap.size w3 W3 := by rw [hW3]; exact ((Below.refl _ w3).alloc (Nat.le_refl _) _).alloc (by simp) _
  have hh := heap2 w3 (.cells #[.int .u8 4, .int .u8 5] 5) (.cells #[.slice (some ⟨w3.heap.size, 0, none⟩) 2 2] 37)
  rw [← hW3] at hh
  have hpl : p < w3.heap.size := (D3.out.2.1.lt p (.inl rfl)).2
  have hPa : ∀ W, Mod (fun j => j = p) W3 W → Parts W (.slice (some ⟨w3.heap.size + 1, 0, none⟩) 1 1) [[4, 5]] := by
    intro W hM
    have k : ∀ j, p ≠ j → ∀ o, W3.heap[j]? = some o → W.heap[j]? = some o := fun j hj o ho => (hM.block j (by rw [Array.getElem?_eq_some_iff] at ho; exact ho.1) (Ne.symm hj)).trans ho
    have k0 := k _ (by omega) _ hh.1
    have k1 := k _ (by omega) _ hh.2
    refine ⟨[.slice (some ⟨w3.heap.size, 0, none⟩) 2 2], lit_reads k1 (by simp), fun i u l hu hl => ?_⟩
    match i, hu, hl with
    | 0, hu, hl =>
      simp at hu hl
      subst hu; subst hl
      exact lit_bytes (l := [4, 5]) k0
    | i + 1, hu, _ => simp at hu
  have hu3 : usedF F3 = 3 := by rw [used_plain, hF3]; rfl
  have cW2 := dkWrite W3 w.heap.size p m (-1) false 100 F3 (D3.out.2.1.below hbW) (by omega) [97] (.slice (some ⟨w3.heap.size + 1, 0, none⟩) 1 1) [[4, 5]] hPa (by decide) (by decide) (by omega)
  rw [spend_free, hu3, hF3] at cW2
  have hz : writeZ 100 [([97], [1, 2, 3], 3)] 3 [97] [[4, 5]].flatten = (0, [([97], [1, 2, 3, 4, 5], 3)]) := by
    unfold writeZ
    rw [right_a]
    rfl
  rw [hz] at cW2
  have BW3 := Lib.hid hbW
  have HW3 := Lib.hid hW3
  clear hW3 hbW hh hpl hPa hz hF3 hu3
  go_wp2_with (go_at_call 10; rw [← HW3.out]; refine cW2.mono ?_; rintro e w4 ⟨rfl, F4, hF4, hD4, hS4⟩; have D4 := Lib.hid (And.intro hF4 (And.intro hD4 hS4)); clear hF4 hD4 hS4)
  -- Crash
  have hF4 : F4.map plain = [([97], [1, 2, 3, 4, 5], 3)] := D4.out.1
  have hu4 : usedF F4 = 5 := by rw [used_plain, hF4]; rfl
  have hl4 : F4.length = 1 := by have := congrArg List.length hF4; simpa using this
  obtain ⟨W4, hW4⟩ : ∃ W4, W4 = w4.alloc (.cells #[.int .i64 1] 3) := ⟨_, rfl⟩
  have hbW : Below w4.heap.size w4 W4 := by rw [hW4]; exact (Below.refl _ w4).alloc (Nat.le_refl _) _
  have hh : W4.heap[w4.heap.size]? = some (.cells #[.int .i64 1] 3 (0, 0)) := by rw [hW4]; exact heap_alloc_new _ _
  have hlt4 := D4.out.2.1.lt
  have hKa : ∀ W F', DkStep W4 W p m F4 F' → Nums W .i64 (.slice (some ⟨w4.heap.size, 0, none⟩) 1 1) [1] := by
    intro W F' hM
    have k0 := (hM.1.block w4.heap.size (by rw [Array.getElem?_eq_some_iff] at hh; exact hh.1) (fun hj => by have := (hlt4 _ hj).2; omega)).trans hh
    exact lit_reads (us := [.int .i64 1]) k0 (by simp)
  have cC := dkCrash W4 w.heap.size p m (-1) false 100 F4 (D4.out.2.1.below hbW) (by omega) (by omega) (.slice (some ⟨w4.heap.size, 0, none⟩) 1 1) [1] hKa (by simp)
  have NM := Lib.hid (show F4.map (·.name) = [[97]] from by
    have := congrArg (List.map (·.1)) hF4
    simpa [plain, Function.comp_def] using this)
  rw [hF4] at cC
  have BW4 := Lib.hid hbW
  have HW4 := Lib.hid hW4
  clear hW4 hbW hh hlt4 hKa hF4 hu4 hl4
  go_wp2_with (go_at_call 16; rw [← HW4.out]; refine cC.mono ?_; rintro e w5 ⟨rfl, ns, F5, hns, hF5, hD5, hS5⟩; have D5 := Lib.hid (And.intro (And.intro hns hF5) (And.intro hD5 hS5)); clear hns hF5 hD5 hS5)
  -- Read
  have hns : ns = [[97]] := by
    have := D5.out.1.1
    rw [NM.out] at this
    exact List.perm_singleton.1 this
  have hF5 : F5.map plain = [([97], [1, 2, 3, 4], 4)] := by
    have := D5.out.1.2
    rw [hns] at this
    exact this.trans (by rfl)
  obtain ⟨f5, rfl, hn5, hb5, -⟩ := plain_one hF5
  have cR := dkRead w5 w.heap.size p m (-1) 100 [f5] f5 D5.out.2.1 (by simp) (by rw [hb5]; simp)
  rw [hn5, hb5] at cR
  clear hF5
  go_wp2_with (go_at_call 18; refine cR.mono ?_; rintro e w6 ⟨u, rfl, hu, hb6⟩; obtain ⟨qu, nu, cu, rfl⟩ := own_form hu; obtain rfl : nu = 4 := own_len hu; have R6 := Lib.hid (And.intro hu hb6); clear hu hb6)
  -- Same
  obtain ⟨W6, hW6⟩ : ∃ W6, W6 = w6.alloc (.cells #[.int .u8 1, .int .u8 2, .int .u8 3, .int .u8 4] 5) := ⟨_, rfl⟩
  have hbW : Below w6.heap.size w6 W6 := by rw [hW6]; exact (Below.refl _ w6).alloc (Nat.le_refl _) _
  have hh : W6.heap[w6.heap.size]? = some (.cells #[.int .u8 1, .int .u8 2, .int .u8 3, .int .u8 4] 5 (0, 0)) := by rw [hW6]; exact heap_alloc_new _ _
  have cS := dkSame W6 (.slice qu 4 cu) (.slice (some ⟨w6.heap.size, 0, none⟩) 4 4) [1, 2, 3, 4] ⟨_, _, rfl, SrcAt.of_own (own_below R6.out.1 hbW)⟩ ⟨_, _, rfl, by simp, by simp, fun a ha j x hj => by
    cases ha
    rw [Addr.add_lit]
    simp only [World.cell?, hh, Nat.zero_add]
    have e : (#[.int .u8 1, .int .u8 2, .int .u8 3, .int .u8 4] : Array Value)[j]? = ([1, 2, 3, 4].map encB)[j]? := by
      have : (#[.int .u8 1, .int .u8 2, .int .u8 3, .int .u8 4] : Array Value) = ([1, 2, 3, 4].map encB).toArray := rfl
      rw [this]
      simp
    simp only [Option.isSome_none, Bool.false_eq_true, if_false]
    rw [e]
    exact hj⟩
  have BW6 := Lib.hid hbW
  have HW6 := Lib.hid hW6
  clear hW6 hbW hh
  go_wp2_with (go_at_call 19; rw [← HW6.out]; refine cS.mono ?_; rintro e w7 ⟨rfl, rfl⟩)
  go_ret
  refine ⟨rfl, ?_⟩
  have s1 := D1.out.big
  have s2 := D2.out.2.1.big
  have s3 := D3.out.2.1.big
  have s4 := D4.out.2.1.big
  have s5 := D5.out.2.1.big
  have b1 := B1.out.trans (BW.out.mono s1)
  have b2 := b1.trans (D2.out.2.2.base (D1.out.below BW.out))
  have b3 := (b2.trans (BW2.out.mono s2)).trans (D3.out.2.2.base (D2.out.2.1.below BW2.out))
  have b4 := (b3.trans (BW3.out.mono s3)).trans (D4.out.2.2.base (D3.out.2.1.below BW3.out))
  have b5 := (b4.trans (BW4.out.mono s4)).trans (D5.out.2.2.base (D4.out.2.1.below BW4.out))
  have b6 := b5.trans (R6.out.2.mono s5)
  exact b6.trans (BW6.out.mono b6.size)

end Go.Proofs.Ytdcgooleiefljaa
