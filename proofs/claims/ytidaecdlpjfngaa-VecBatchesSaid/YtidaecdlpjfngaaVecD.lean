import Derived.Test.YtidaecdlpjfngaaVecC
namespace Go.Proofs.Ytidaecdlpjfngaa
open Go.RowKit

theorem refDist_no (xs ys : List Int) (v u : Value) (w : World) (h : Nums w .i32 v xs) (g : Nums w .i32 u ys) (hn : ¬ (rightB xs = true ∧ rightB ys = true ∧ xs.length = ys.length)) :
    Calls Try.prog 18 #[v, u] w fun e w' => e = .returned (.tuple #[.int .u64 0, .int .i64 4]) ∧ w = w' := by
  obtain ⟨p, cap, rfl, hcap, hbig, -, hc⟩ := h.slice
  have hl : xs.length ≤ 9223372036854775807 := by omega
  clear hcap hbig
  obtain ⟨q, cap', rfl, hcap', hbig', -, hc'⟩ := g.slice
  have hl' : ys.length ≤ 9223372036854775807 := by omega
  clear hcap' hbig'
  clear hc hc'
  have H := Lib.hid h
  have G := Lib.hid g
  clear h g
  have N := Lib.hid hn
  clear hn
  cases h1 : rightB xs
  · go_enter Try.func18, Try.ntmps18
    go_wp2_with (go_at_call 19; refine (refRight xs _ _ H.out).mono ?_; rintro e w' ⟨rfl, rfl⟩)
    go_ret2
    exact ⟨rfl, rfl⟩
  cases h2 : rightB ys
  · go_enter Try.func18, Try.ntmps18
    go_wp2_with (go_at_call 19; first | ((with_reducible refine (refRight xs _ _ H.out).mono ?_); rintro e w' ⟨rfl, rfl⟩) | ((with_reducible refine (refRight ys _ _ G.out).mono ?_); rintro e w' ⟨rfl, rfl⟩))
    go_ret2
    exact ⟨rfl, rfl⟩
  · have h4 : ((xs.length : Int) != ys.length) = true := by
      have h3 : xs.length ≠ ys.length := fun h3 => N.out ⟨h1, h2, h3⟩
      simp; omega
    go_enter Try.func18, Try.ntmps18
    go_wp2_with (go_at_call 19; first | ((with_reducible refine (refRight xs _ _ H.out).mono ?_); rintro e w' ⟨rfl, rfl⟩) | ((with_reducible refine (refRight ys _ _ G.out).mono ?_); rintro e w' ⟨rfl, rfl⟩))
    go_ret2
    exact ⟨rfl, rfl⟩

theorem refDist_yes (xs ys : List Int) (v u : Value) (w : World) (h : Nums w .i32 v xs) (g : Nums w .i32 u ys) (h1 : rightB xs = true) (h2 : rightB ys = true) (h3 : xs.length = ys.length) :
    Calls Try.prog 18 #[v, u] w fun e w' => e = .returned (.tuple #[.int .u64 (distZ xs ys), .int .i64 0]) ∧ Below w.heap.size w w' := by
  obtain ⟨p, cap, rfl, hcap, hbig, -, hc⟩ := h.slice
  have hl : xs.length ≤ 9223372036854775807 := by omega
  clear hcap hbig
  obtain ⟨q, cap', rfl, hcap', hbig', -, hc'⟩ := g.slice
  have hl' : ys.length ≤ 9223372036854775807 := by omega
  clear hcap' hbig'
  have h4 : ((xs.length : Int) != ys.length) = false := by simp [h3]
  have hx := inB_of_right h1
  have hy := inB_of_right h2
  have X := Lib.hid (And.intro hx.1 hy.1)
  have H := Lib.hid h
  have G := Lib.hid g
  have H3 := Lib.hid h3
  clear h g hx hy hc hc' h3
  go_enter Try.func18, Try.ntmps18
  go_wp2_with (go_at_call 19; first | ((with_reducible refine (refRight xs _ _ H.out).mono ?_); rintro e w' ⟨rfl, rfl⟩) | ((with_reducible refine (refRight ys _ _ G.out).mono ?_); rintro e w' ⟨rfl, rfl⟩))
  go_loopw [6, 27] (fun s i wr => ∃ k : Nat, k ≤ xs.length ∧ i = .int .i64 k ∧ s = .int .u64 (distZ (xs.take k) (ys.take k)) ∧ Below w.heap.size w wr) (fun _ i _ => xs.length - (intOf i).toNat)
  case atStart => exact ⟨0, by omega, rfl, rfl, Below.refl _ _⟩
  case round =>
    obtain ⟨k, hk, rfl, rfl, hb⟩ := hrel
    have A := Lib.hid hb
    clear hb
    by_cases hlt : k < xs.length
    · have hlt' : k < ys.length := by have := H3.out; omega
      obtain ⟨b, off, rfl, hcell⟩ := (H.out.below A.out).elem hlt
      obtain ⟨b', off', rfl, hcell'⟩ := (G.out.below A.out).elem hlt'
      have hs := sq_in X.out.1 X.out.2 k hlt hlt'
      have hd := distZ_in X.out.1 X.out.2 H3.out k hk
      have hi := X.out.1 k hlt
      have hi' := X.out.2 k hlt'
      have hsn := Lib.hid (distZ_snoc xs ys k hlt hlt')
      have l8 : xs.length ≤ 8 := (inB_of_right h1).2.2
      have l8' : ys.length ≤ 8 := (inB_of_right h2).2.2
      have hm := mul64 (if xs[k] < ys[k] then ys[k] - xs[k] else xs[k] - ys[k]) (if xs[k] < ys[k] then ys[k] - xs[k] else xs[k] - ys[k])
      rw [gap_in _ _ hi hi'] at hm
      have M := Lib.hid hm
      clear hm
      go_wp2_with fail
      go_quiet ((first | (go_at_call 29; exact Calls.quiet_of_same (sw (gap xs[k] ys[k] _ hi hi'))) | (go_at_call 28; exact Calls.quiet_of_same (sw (M.out _)))))
      go_wp2
      go_roundw
      case rel => exact ⟨k + 1, by omega, by go_num, by rw [hsn.out], below_drewN A.out _⟩
      case measure => simp [intOf]; omega
    · go_wp2
      go_ret2
      have h3 := H3.out
      exact ⟨ret_ii (by rw [List.take_of_length_le (by omega), List.take_of_length_le (by omega)]) rfl, A.out⟩

theorem refDist (xs ys : List Int) (v u : Value) (w : World) (h : Nums w .i32 v xs) (g : Nums w .i32 u ys) :
    Calls Try.prog 18 #[v, u] w fun e w' => e = .returned (.tuple #[.int .u64 (distR xs ys).1, .int .i64 (distR xs ys).2]) ∧ Below w.heap.size w w' := by
  unfold distR
  split
  · rename_i hn
    exact refDist_yes xs ys v u w h g hn.1 hn.2.1 hn.2.2
  · rename_i hn
    refine (refDist_no xs ys v u w h g hn).mono ?_
    rintro e w' ⟨he, rfl⟩
    exact ⟨he, Below.refl _ _⟩

end Go.Proofs.Ytidaecdlpjfngaa
