/-
  disk: a change.
-/
import Derived.Test.YtdcgooleiefljaaJ06
import Derived.Test.YtdcgooleiefljaaJ07
import Derived.Shelf.Abstract
namespace Go.Proofs.Ytdcgooleiefljaa
open Go.RowKit Go.ChangeMaps

theorem Reads.one {w : World} {p : Option Addr} {n n' cap : Nat} {xs : List Value} (h : Reads w (.slice p n cap) 1 n' xs) {j : Nat} (hj : j < xs.length) : ∃ b off, p = some ⟨b, off, none⟩ ∧ w.cell? ⟨b, off + j, none⟩ = some xs[j] := by
  obtain ⟨_, p', cap', hv, _, _, _, h4⟩ := h
  obtain ⟨rfl, rfl, rfl⟩ := Value.slice.inj hv
  exact h4 j _ (List.getElem?_eq_getElem hj)

theorem Reads.form {w : World} {v : Value} {n : Nat} {xs : List Value} (h : Reads w v 1 n xs) : ∃ p cap, v = .slice p n cap ∧ n ≤ 9223372036854775807 := by
  obtain ⟨_, p', cap', hv, h1, h2, _, h4⟩ := h
  exact ⟨p', cap', hv, by omega⟩

/-- a slice of strings -/
def Strs (w : World) (v : Value) (l : List (List UInt8)) : Prop := Reads w v 1 l.length (l.map strV)

def inF (F : List Fz) (n : List UInt8) : Bool := F.any fun f => decide (f.name = n)

theorem getK_files (F : List Fz) (n : List UInt8) : getK (filesL F) n = (F.find? fun f => decide (f.name = n)).map fun f => .pointer (some ⟨f.blk, 0, none⟩) := by
  unfold getK filesL
  rw [List.find?_map]
  simp [Function.comp_def, Option.map_map]

theorem zeroF (w : World) : (zeroValue 57).run Try.prog w = .ok (.pointer none) w := by kernel_rfl

/-- what the map has at a name -/
theorem look_in {F : List Fz} {n : List UInt8} (h : inF F n = true) : ∃ f ∈ F, f.name = n ∧ (getK (filesL F) n).getD (.pointer none) = .pointer (some ⟨f.blk, 0, none⟩) := by
  rw [getK_files]
  cases hf : F.find? (fun f => decide (f.name = n)) with
  | none =>
    rw [List.find?_eq_none] at hf
    simp only [inF, List.any_eq_true] at h
    obtain ⟨f, hm, he⟩ := h
    exact absurd he (hf f hm)
  | some f =>
    have h1 := List.mem_of_find?_eq_some hf
    have h2 := List.find?_some hf
    exact ⟨f, h1, by simpa using h2, rfl⟩

theorem look_out {F : List Fz} {n : List UInt8} (h : inF F n = false) : (getK (filesL F) n).getD (.pointer none) = .pointer none := by
  rw [getK_files, List.find?_eq_none.2]
  · rfl
  · intro f hf
    simp only [inF, List.any_eq_false] at h
    exact h f hf

theorem spend_range {left : Int} {down : Bool} (h : -1 ≤ left ∧ left ≤ 9223372036854775807) : -1 ≤ (spendZ left down).2.1 ∧ (spendZ left down).2.1 ≤ 9223372036854775807 := by
  unfold spendZ
  split
  · exact h
  · simp only; omega

set_option maxHeartbeats 4000000 in
theorem dkChange (w : World) (B p m : Nat) (left : Int) (down : Bool) (room : Int) (F : List Fz) (h : DkAt w B p m left down room F) (hl : -1 ≤ left ∧ left ≤ 9223372036854775807)
    (g : FuncId) (eg : ∀ args w, (callFunc g args).run Try.prog w = .ok (.enter g args) w) (caps : Array Value) (nv : Value) (names : List (List UInt8)) (hn : ∀ W, Mod (fun j => j = p) w W → Strs W nv names) (Q : Int → World → Prop)
    (h9 : (spendZ left down).1 = false → ∀ W, DkAt W B p m (spendZ left down).2.1 (spendZ left down).2.2 room F → Mod (fun j => j = p) w W → Q 9 W)
    (h6 : (spendZ left down).1 = true → names.all (inF F) = false → ∀ W, DkAt W B p m (spendZ left down).2.1 (spendZ left down).2.2 room F → Mod (fun j => j = p) w W → Q 6 W)
    (hf : (spendZ left down).1 = true → names.all (inF F) = true → ∀ W, DkAt W B p m (spendZ left down).2.1 (spendZ left down).2.2 room F → Mod (fun j => j = p) w W → Calls Try.prog g caps W fun e w' => ∃ z, e = .returned (.int .i64 z) ∧ Q z w') :
    Calls Try.prog 23 #[.pointer (some ⟨p, 0, none⟩), .func (.func g) #[] caps, nv] w fun e w' => ∃ z, e = .returned (.int .i64 z) ∧ Q z w' := by
  have cS := dkSpend w B p m left down room F h hl
  obtain ⟨np, ncap, rfl, hN⟩ := (hn w (Mod.refl _ w)).form
  have HN := Lib.hid hn
  generalize hs1 : (spendZ left down).1 = s1 at *
  generalize hs2 : (spendZ left down).2.1 = s2 at *
  generalize hs3 : (spendZ left down).2.2 = s3 at *
  clear h hn
  cases s1 with
  | false =>
    have H9 := Lib.hid (h9 rfl)
    clear h9 h6 hf hs1 hs2 hs3
    go_enter Try.func23, Try.ntmps23
    go_wp2_with (go_at_call 35; refine cS.mono ?_; rintro e W ⟨rfl, hD, hM⟩; have HD := Lib.hid (H9.out W hD hM); clear hD hM)
    go_ret
    exact ⟨_, rfl, HD.out⟩
  | true =>
    have H6 := Lib.hid (h6 rfl)
    have HF := Lib.hid (hf rfl)
    clear h9 h6 hf hs1 hs2 hs3
    go_enter Try.func23, Try.ntmps23
    go_wp2_with (go_at_call 35; refine cS.mono ?_; rintro e W ⟨rfl, hD, hM⟩; have HD := Lib.hid (And.intro hD hM); clear hD hM)
    obtain ⟨k, hk⟩ : ∃ k, k = names.length := ⟨_, rfl⟩
    rw [← hk]
    rw [← hk] at hN
    have HK := Lib.hid hk
    clear hk
    go_loopg [8, 20] k (fun q _ i wr => ∃ j : Nat, q = k - j ∧ j ≤ k ∧ i = .int .i64 j ∧ (∀ x ∈ names.take j, inF F x = true) ∧ wr = W)
    case atStart => exact ⟨0, rfl, by omega, rfl, by simp, rfl⟩
    case round =>
      obtain ⟨j, rfl, hj, rfl, hall, rfl⟩ := hrel
      by_cases hlt : j < k
      · have hlt' : j < names.length := by have := HK.out; omega
        have hsl := HN.out wr HD.out.2
        unfold Strs at hsl
        rw [← HK.out] at hsl
        obtain ⟨b, off, rfl, hcell⟩ := hsl.one (j := j) (by simpa using hlt')
        rw [List.getElem_map] at hcell
        have c3 : wr.cell? ⟨p, 3, none⟩ = some (.map (some m)) := by simp [World.cell?, HD.out.1.cell]
        have hlk := run_look KOS Try.underlying54 HD.out.1.files (zeroF wr) names[j] false
        simp only [Bool.false_eq_true, if_false] at hlk
        obtain ⟨x, hx⟩ : ∃ x, x = names[j] := ⟨_, rfl⟩
        rw [← hx] at hlk hcell
        have HX := Lib.hid hx
        have HA := Lib.hid hall
        clear hx hsl hall
        cases hin : inF F x with
        | true =>
          obtain ⟨f, hfm, -, hfe⟩ := look_in hin
          rw [hfe] at hlk
          have HI := Lib.hid hin
          clear hfe hin hfm
          go_wp2_with fail
          go_roundg (k - (j + 1))
          case measure => omega
          case rel =>
            refine ⟨j + 1, rfl, by omega, by go_num, fun y hy => ?_, rfl⟩
            rw [List.take_succ_eq_append_getElem hlt'] at hy
            rcases List.mem_append.1 hy with hy | hy
            · exact HA.out y hy
            · rw [List.mem_singleton.1 hy, ← HX.out]; exact HI.out
        | false =>
          rw [look_out hin] at hlk
          have HI := Lib.hid (show names.all (inF F) = false from by
            rw [List.all_eq_false]
            exact ⟨x, by rw [HX.out]; exact List.getElem_mem _, by simp [hin]⟩)
          clear hin
          go_wp2_with fail
          go_ret
          exact ⟨_, rfl, H6.out HI.out wr HD.out.1 HD.out.2⟩
      · obtain rfl : j = k := by omega
        have cF := HF.out (by
          rw [List.all_eq_true]
          intro x hx
          exact hall x (by rw [List.take_of_length_le (by have := HK.out; omega)]; exact hx)) wr HD.out.1 HD.out.2
        clear hall
        go_wp2_with (go_at_fn g; refine cF.mono ?_; rintro e w' ⟨z, rfl, hQ⟩; have HQ := Lib.hid hQ; clear hQ)
        go_ret
        exact ⟨z, rfl, HQ.out⟩

end Go.Proofs.Ytdcgooleiefljaa
