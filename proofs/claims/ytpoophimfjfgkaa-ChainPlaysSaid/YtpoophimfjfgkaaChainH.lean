/-
  chain's document: are two lists alike.
-/
import Derived.Test.YtpoophimfjfgkaaChainG
namespace Go.Proofs.Ytpoophimfjfgkaa
open Go.RowKit

theorem sameVers (l m : List (Int × List Int)) (v u : Value) (w : World) (h : Recs w v l) (g : Recs w u m) :
    Calls Try.prog 19 #[v, u] w fun e w' => e = .returned (.bool (decide (l = m))) ∧ Drawn w w' := by
  obtain ⟨p, cap, rfl, hcap, hbig, -, -⟩ := id h
  have hl : l.length ≤ 9223372036854775807 := by omega
  clear hcap hbig
  obtain ⟨q, cap', rfl, hcap', hbig', -, -⟩ := id g
  have hl' : m.length ≤ 9223372036854775807 := by omega
  clear hcap' hbig'
  have H := Lib.hid h
  have G := Lib.hid g
  clear h g
  by_cases h3 : l.length = m.length
  · have h4 : ((l.length : Int) != m.length) = false := by simp [h3]
    have H3 := Lib.hid h3
    clear h3
    go_enter Try.func19, Try.ntmps19
    go_wp2_with fail
    go_loopg [5, 13] l.length (fun q _ i wr => ∃ k : Nat, q = l.length - k ∧ k ≤ l.length ∧ i = .int .i64 k ∧ l.take k = m.take k ∧ Drawn w wr)
    case atStart => exact ⟨0, rfl, by omega, rfl, rfl, Drawn.refl _⟩
    case round =>
      obtain ⟨k, rfl, hk, rfl, hall, hb⟩ := hrel
      have A := Lib.hid (And.intro hall hb)
      clear hall hb
      by_cases hlt : k < l.length
      · have hlt' : k < m.length := by have := H3.out; omega
        obtain ⟨b, off, u1, rfl, c0, c1, hu1⟩ := (H.out.below A.out.2.below).elem hlt
        obtain ⟨b', off', u2, rfl, c0', c1', hu2⟩ := (G.out.below A.out.2.below).elem hlt'
        have U1 := Lib.hid hu1
        have U2 := Lib.hid hu2
        clear hu1 hu2
        have k0 : (0 : Int) ≤ (k : Int) := by omega
        have k1 : (k : Int) < (l.length : Int) := by omega
        have k2 : (k : Int) < (m.length : Int) := by omega
        by_cases hx : l[k].1 = m[k].1
        · have hne : (l[k].1 != m[k].1) = false := by simp [hx]
          have E := Lib.hid hx
          clear hx
          by_cases hv : l[k].2 = m[k].2
          · have hd : decide (l[k].2 = m[k].2) = true := by simp [hv]
            have V := Lib.hid hv
            clear hv
            have S := fun n => sameVecQ l[k].2 m[k].2 u1 u2 (wr.drewN n) (U1.out.below (Drawn.below ⟨n, rfl⟩)) (U2.out.below (Drawn.below ⟨n, rfl⟩))
            rw [hd] at S
            have SS := Lib.hid S
            clear S hd
            go_wp2_with fail
            go_quiet ((go_at_call 16; exact Calls.quiet_of (SS.out _)))
            go_wp2_with fail
            go_roundg (l.length - (k + 1))
            case measure => omega
            case rel => exact ⟨k + 1, rfl, by omega, by go_num, by rw [List.take_succ_eq_append_getElem hlt, List.take_succ_eq_append_getElem hlt', A.out.1, Prod.ext E.out V.out], A.out.2.drewN _⟩
          · have hd : decide (l[k].2 = m[k].2) = false := by simp [hv]
            have V := Lib.hid hv
            clear hv
            have S := fun n => sameVecQ l[k].2 m[k].2 u1 u2 (wr.drewN n) (U1.out.below (Drawn.below ⟨n, rfl⟩)) (U2.out.below (Drawn.below ⟨n, rfl⟩))
            rw [hd] at S
            have SS := Lib.hid S
            clear S hd
            go_wp2_with fail
            go_quiet ((go_at_call 16; exact Calls.quiet_of (SS.out _)))
            go_wp2_with fail
            go_ret
            exact ⟨ret_bool (by simp; intro e; subst e; exact V.out rfl), A.out.2.drewN _⟩
        · have hne : (l[k].1 != m[k].1) = true := by simp [hx]
          have E := Lib.hid hx
          clear hx
          go_wp2_with fail
          go_quiet (fail)
          go_wp2_with fail
          go_ret
          exact ⟨ret_bool (by simp; intro e; subst e; exact E.out rfl), A.out.2.drewN _⟩
      · go_wp2_with fail
        go_ret
        have h3 := H3.out
        have h4 := A.out.1
        rw [List.take_of_length_le (by omega), List.take_of_length_le (by omega)] at h4
        exact ⟨ret_bool (by simp [h4]), A.out.2⟩
  · have h4 : ((l.length : Int) != m.length) = true := by simp; omega
    go_enter Try.func19, Try.ntmps19
    go_wp2_with fail
    go_ret
    exact ⟨ret_bool (by simp; intro e; exact h3 (by rw [e])), Drawn.refl _⟩

theorem sameNums (xs ys : List Int) (v u : Value) (w : World) (h : Nums w .u64 v xs) (g : Nums w .u64 u ys) :
    Calls Try.prog 11 #[v, u] w fun e w' => e = .returned (.bool (decide (xs = ys))) ∧ Drawn w w' := by
  obtain ⟨p, cap, rfl, hcap, hbig, -, hc⟩ := h.slice
  have hl : xs.length ≤ 9223372036854775807 := by omega
  clear hcap hbig
  obtain ⟨q, cap', rfl, hcap', hbig', -, hc'⟩ := g.slice
  have hl' : ys.length ≤ 9223372036854775807 := by omega
  clear hcap' hbig'
  have H := Lib.hid h
  have G := Lib.hid g
  clear h g hc hc'
  by_cases h3 : xs.length = ys.length
  · have h4 : ((xs.length : Int) != ys.length) = false := by simp [h3]
    have H3 := Lib.hid h3
    clear h3
    go_enter Try.func11, Try.ntmps11
    go_wp2
    go_loopw [5, 13] (fun _ i wr => ∃ k : Nat, k ≤ xs.length ∧ i = .int .i64 k ∧ xs.take k = ys.take k ∧ Drawn w wr) (fun _ i _ => xs.length - (intOf i).toNat)
    case atStart => exact ⟨0, by omega, rfl, rfl, Drawn.refl _⟩
    case round =>
      obtain ⟨k, hk, rfl, hall, hb⟩ := hrel
      have A := Lib.hid (And.intro hall hb)
      clear hall hb
      by_cases hlt : k < xs.length
      · have hlt' : k < ys.length := by have := H3.out; omega
        obtain ⟨b, off, rfl, hcell⟩ := (H.out.below A.out.2.below).elem hlt
        obtain ⟨b', off', rfl, hcell'⟩ := (G.out.below A.out.2.below).elem hlt'
        have hl8 : ys.length ≤ 9223372036854775807 := by omega
        by_cases hx : xs[k] = ys[k]
        · have hne : (xs[k] != ys[k]) = false := by simp [hx]
          have E := Lib.hid hx
          clear hx
          go_wp2
          go_quiet (fail)
          go_wp2
          go_roundw
          case rel => exact ⟨k + 1, by omega, by go_num, by rw [List.take_succ_eq_append_getElem hlt, List.take_succ_eq_append_getElem hlt', A.out.1, E.out], A.out.2.drewN _⟩
          case measure => simp [intOf]; omega
        · have hne : (xs[k] != ys[k]) = true := by simp [hx]
          have E := Lib.hid hx
          clear hx
          go_wp2
          go_quiet (fail)
          go_wp2
          go_ret
          exact ⟨ret_bool (by simp; intro e; subst e; exact E.out rfl), A.out.2.drewN _⟩
      · go_wp2
        go_ret
        have h3 := H3.out
        have h4 := A.out.1
        rw [List.take_of_length_le (by omega), List.take_of_length_le (by omega)] at h4
        exact ⟨ret_bool (by simp [h4]), A.out.2⟩
  · have h4 : ((xs.length : Int) != ys.length) = true := by simp; omega
    go_enter Try.func11, Try.ntmps11
    go_wp2
    go_ret
    exact ⟨ret_bool (by simp; intro e; exact h3 (by rw [e])), Drawn.refl _⟩

end Go.Proofs.Ytpoophimfjfgkaa
