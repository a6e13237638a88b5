import Derived.Test.YtidaecdlpjfngaaCheckB
import Derived.Test.YtidaecdlpjfngaaFew
import Derived.Test.YtidaecdlpjfngaaSameOps
import Derived.Test.YtidaecdlpjfngaaVecG
namespace Go.Proofs.Ytidaecdlpjfngaa
open Go.RowKit

theorem check (dim : Int) (l : List (Int × List Int)) (v : Value) (w : World) (h : Recs w v l) :
    Calls Try.prog 23 #[.int .i64 dim, v] w (AnsInt (checkZ dim l) w) := by
  unfold checkZ
  by_cases h1 : dim < 1 ∨ 8 < dim
  · rw [if_pos h1]; exact check_arg dim l v w h h1
  · rw [if_neg h1]
    by_cases h0 : l.length = 0
    · rw [if_pos h0]
      have := check_len dim l v w h (by omega) (by omega) (.inl h0)
      rw [if_pos h0] at this
      exact this
    · rw [if_neg h0]
      by_cases h16 : 16 < l.length
      · rw [if_pos h16]
        have := check_len dim l v w h (by omega) (by omega) (.inr h16)
        rw [if_neg h0] at this
        exact this
      · rw [if_neg h16]
        exact check_body dim l v w h (by omega) (by omega) (by omega) (by omega)

theorem refCheck (dim : Int) (l : List (Int × List Int)) (v : Value) (w : World) (h : Recs w v l) :
    Calls Try.prog 24 #[.int .i64 dim, v] w (AnsInt (checkZ dim l) w) := by
  unfold checkZ
  by_cases h1 : dim < 1 ∨ 8 < dim
  · rw [if_pos h1]; exact refCheck_arg dim l v w h h1
  · rw [if_neg h1]
    by_cases h0 : l.length = 0
    · rw [if_pos h0]
      have := refCheck_len dim l v w h (by omega) (by omega) (.inl h0)
      rw [if_pos h0] at this
      exact this
    · rw [if_neg h0]
      by_cases h16 : 16 < l.length
      · rw [if_pos h16]
        have := refCheck_len dim l v w h (by omega) (by omega) (.inr h16)
        rw [if_neg h0] at this
        exact this
      · rw [if_neg h16]
        exact refCheck_body dim l v w h (by omega) (by omega) (by omega) (by omega)

theorem vecChecks (dim : Int) (l : List (Int × List Int)) (v : Value) (w : World) (h : Recs w v l) :
    Calls Try.prog 9 #[.int .i64 dim, v] w fun e w' => e = .returned (.bool true) ∧ Below w.heap.size w w' := by
  have H := Lib.hid h
  clear h
  go_enter Try.func9, Try.ntmps9
  go_wp2_with fail
  refine (awake_true _).mono ?_
  rintro e w1 ⟨rfl, hb1⟩
  have B1 := Lib.hid hb1
  clear hb1
  go_wp2_with fail
  refine (few l _ w1 (H.out.below B1.out)).mono ?_
  rintro e w2 ⟨a, rs, rfl, ho1, hh1, hb2⟩
  have A1 := Lib.hid (Recs.of_own ho1 hh1)
  have B2 := Lib.hid (B1.out.trans (hb2.mono B1.out.size))
  have H2 := Lib.hid ((H.out.below B1.out).below hb2)
  clear ho1 hh1 hb2
  go_wp2_with fail
  refine (few l _ w2 H2.out).mono ?_
  rintro e w3 ⟨b, rs', rfl, ho2, hh2, hb3⟩
  have A2 := Lib.hid (Recs.of_own ho2 hh2)
  have A3 := Lib.hid (A1.out.below hb3)
  have B3 := Lib.hid (B2.out.trans (hb3.mono B2.out.size))
  clear ho2 hh2 hb3
  generalize fewZ 20 l = m at *
  go_wp2_with fail
  refine (check dim m _ w3 A2.out).mono ?_
  rintro e w4 ⟨rfl, hb4⟩
  have A4 := Lib.hid (A3.out.below hb4)
  have C4 := Lib.hid (A2.out.below hb4)
  have B4 := Lib.hid (B3.out.trans (hb4.mono B3.out.size))
  clear hb4
  go_wp2_with fail
  refine (refCheck dim m _ w4 A4.out).mono ?_
  rintro e w5 ⟨rfl, hb5⟩
  have A5 := Lib.hid (A4.out.below hb5)
  have C5 := Lib.hid (C4.out.below hb5)
  have B5 := Lib.hid (B4.out.trans (hb5.mono B4.out.size))
  clear hb5
  go_wp2_with fail
  refine (sameOps m m _ _ w5 A5.out C5.out).mono ?_
  rintro e w6 ⟨rfl, hb6⟩
  have B6 := Lib.hid (B5.out.trans (hb6.below.mono B5.out.size))
  clear hb6
  go_wp2_with fail
  go_ret
  exact ⟨ret_bool (by simp), B6.out⟩

end Go.Proofs.Ytidaecdlpjfngaa
