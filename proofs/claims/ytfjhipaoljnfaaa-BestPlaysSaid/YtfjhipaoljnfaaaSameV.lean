/-
  Are two vectors the same (ref): for seats without vec.Right.
-/
import Derived.Test.YtfjhipaoljnfaaaBase
namespace Go.Proofs.Ytfjhipaoljnfaaa
open Go.RowKit

theorem sameVecQ (xs ys : List Int) (v u : Value) (w : World) (h : Nums w .i32 v xs) (g : Nums w .i32 u ys) :
    Calls Try.prog 25 #[v, u] w fun e w' => e = .returned (.bool (decide (xs = ys))) ∧ Drawn w w' := by
  obtain ⟨p, cap, rfl, hcap, hbig, -, hc⟩ := h.slice
  have hl : xs.length ≤ 9223372036854775807 := by omega
  clear hcap hbig
  obtain ⟨q, cap', rfl, hcap', hbig', -, hc'⟩ := g.slice
  have hl' : ys.length ≤ 9223372036854775807 := by omega
  clear hcap' hbig'
  have H := Lib.hid h
  have G := Lib.hid g
  clear h g hc hc'
  by_cases h3 : xs.length = ys.length
  · have h4 : ((xs.length : Int) != ys.length) = false := by simp [h3]
    have H3 := Lib.hid h3
    clear h3
    go_enter Try.func25, Try.ntmps25
    go_wp2
    go_loopw [5, 13] (fun _ i wr => ∃ k : Nat, k ≤ xs.length ∧ i = .int .i64 k ∧ xs.take k = ys.take k ∧ Drawn w wr) (fun _ i _ => xs.length - (intOf i).toNat)
    case atStart => exact ⟨0, by omega, rfl, rfl, Drawn.refl _⟩
    case round =>
      obtain ⟨k, hk, rfl, hall, hb⟩ := hrel
      have A := Lib.hid (And.intro hall hb)
      clear hall hb
      by_cases hlt : k < xs.length
      · have hlt' : k < ys.length := by have := H3.out; omega
        obtain ⟨b, off, rfl, hcell⟩ := (H.out.below A.out.2.below).elem hlt
        obtain ⟨b', off', rfl, hcell'⟩ := (G.out.below A.out.2.below).elem hlt'
        have hl8 : ys.length ≤ 9223372036854775807 := by omega
        by_cases hx : xs[k] = ys[k]
        · have hne : (xs[k] != ys[k]) = false := by simp [hx]
          have E := Lib.hid hx
          clear hx
          go_wp2
          go_quiet (fail)
          go_wp2
          go_roundw
          case rel => exact ⟨k + 1, by omega, by go_num, by rw [List.take_succ_eq_append_getElem hlt, List.take_succ_eq_append_getElem hlt', A.out.1, E.out], A.out.2.drewN _⟩
          case measure => simp [intOf]; omega
        · have hne : (xs[k] != ys[k]) = true := by simp [hx]
          have E := Lib.hid hx
          clear hx
          go_wp2
          go_quiet (fail)
          go_wp2
          go_ret
          exact ⟨ret_bool (by simp; intro e; subst e; exact E.out rfl), A.out.2.drewN _⟩
      · go_wp2
        go_ret
        have h3 := H3.out
        have h4 := A.out.1
        rw [List.take_of_length_le (by omega), List.take_of_length_le (by omega)] at h4
        exact ⟨ret_bool (by simp [h4]), A.out.2⟩
  · have h4 : ((xs.length : Int) != ys.length) = true := by simp; omega
    go_enter Try.func25, Try.ntmps25
    go_wp2
    go_ret
    exact ⟨ret_bool (by simp; intro e; exact h3 (by rw [e])), Drawn.refl _⟩

theorem sameVec (xs ys : List Int) (v u : Value) (w : World) (h : Nums w .i32 v xs) (g : Nums w .i32 u ys) :
    Calls Try.prog 25 #[v, u] w fun e w' => e = .returned (.bool (decide (xs = ys))) ∧ Below w.heap.size w w' :=
  (sameVecQ xs ys v u w h g).mono fun _ _ ⟨a, b⟩ => ⟨a, b.below⟩

end Go.Proofs.Ytfjhipaoljnfaaa
