import Derived.Test.YtidaecdlpjfngaaVecF
namespace Go.Proofs.Ytidaecdlpjfngaa
open Go.RowKit

theorem two_nums (w : World) (b : Nat) (x y : Int) (cap : Nat) (hcap : 2 ≤ cap) (hm : cap ≤ 9223372036854775807) (h0 : w.cell? ⟨b, 0, none⟩ = some (.int .i32 x)) (h1 : w.cell? ⟨b, 1, none⟩ = some (.int .i32 y)) :
    Nums w .i32 (.slice (some ⟨b, 0, none⟩) 2 cap) [x, y] := by
  refine Nums.mk (xs := [x, y]) hcap hm (by simp) fun i hi => ⟨b, 0, rfl, ?_⟩
  match i, hi with
  | 0, _ => exact h0
  | 1, _ => exact h1

theorem awake_true (w : World) : Calls Try.prog 11 #[] w fun e w' => e = .returned (.bool true) ∧ Below w.heap.size w w' := by
  have hd : distR [1, 2] [4, 6] = (25, 0) := by decide
  have hh := home_yes 1 4
  rw [show homeZ 1 4 = 1 from by decide] at hh
  have D := Lib.hid hd
  have HH := Lib.hid hh
  clear hd hh
  go_enter Try.func11, Try.ntmps11
  go_wp2_with fail
  have hc := dist [1, 2] [4, 6] _ _ _ (two_nums ((w.alloc (Obj.cells #[Value.int IntKind.i32 1, Value.int IntKind.i32 2] 21)).alloc (Obj.cells #[Value.int IntKind.i32 4, Value.int IntKind.i32 6] 21)) w.heap.size 1 2 2 (by decide) (by decide) (by go_simp) (by go_simp))
    (two_nums ((w.alloc (Obj.cells #[Value.int IntKind.i32 1, Value.int IntKind.i32 2] 21)).alloc (Obj.cells #[Value.int IntKind.i32 4, Value.int IntKind.i32 6] 21)) (w.heap.size + 1) 4 6 2 (by decide) (by decide) (by go_simp) (by go_simp))
  rw [D.out] at hc
  refine hc.mono ?_
  rintro e w' ⟨rfl, rfl⟩
  clear hc
  go_wp2_with (go_at_call 14; refine (HH.out _ (by decide) (by decide)).mono ?_; rintro e w' ⟨rfl, rfl⟩)
  go_ret
  exact ⟨rfl, by go_grown⟩

end Go.Proofs.Ytidaecdlpjfngaa
