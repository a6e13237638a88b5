/-
  graph's document: Near.
  A call through an interface value whose dynamic type's method is known.
-/
import Derived.Test.YtpjbkaibgajpcaaJ18
import Derived.Test.YtpjbkaibgajpcaaJ01
import Derived.Shelf.Abstract
namespace Go.Proofs.Ytpjbkaibgajpcaa
open Go.RowKit

def nearStep (k : Int) (soft : Bool) (out : List Int) (e : Int × Int × Bool) : List Int :=
  if (soft && e.2.2) = true then out else if e.1 = k then putZ out e.2.1 else if e.2.1 = k then putZ out e.1 else out

/-- to which there are edges -/
def nearD (E : Eg) (k : Int) (soft : Bool) : List Int := E.foldl (nearStep k soft) []

end Go.Proofs.Ytpjbkaibgajpcaa

namespace Go.Proofs.Ytpjbkaibgajpcaa
open Go.RowKit

section
variable {P : Program}

theorem run_invoke {w : World} {o : Oper} {a : Act} {name : String} {T : TypeId} {rv r vy : Value} {f : FuncId} (hM : (method (P.types.size + 100) T rv name).run P w = .ok (f, r) w) (hE : ∀ args w, (callFunc f args).run P w = .ok (.enter f args) w)
    (x y : Operand) (tys : Array TypeId) (hop : o.op = Op.call { callee := Callee.invoke x name, args := #[y], argTypes := tys }) (hx : a.eval x = .iface T rv) (hy : a.eval y = vy) : (execOp a.eval o).run P w = .ok (.enter f #[r, vy]) w := by
  have hM' : (method (P.types.size + Made.depth) T rv name).run P w = .ok (f, r) w := hM
  unfold execOp
  simp only [hop, resolve, invoke, callMethod, Sem.run_bind, Sem.run_pure, Result.andThen_ok, List.map_toArray, List.map_cons, List.map_nil, hx, hy]
  simp [Sem.run_bind, hM', hE]

/-- at the operation itself -/
theorem wp_invoke {w : World} {o : Oper} {a : Act} {K : Act → World → Prop} {Q : Exit → Act → World → Prop} {name : String} {T : TypeId} {rv r vy : Value} {f : FuncId} (hM : (method (P.types.size + 100) T rv name).run P w = .ok (f, r) w) (hE : ∀ args w, (callFunc f args).run P w = .ok (.enter f args) w)
    (x y : Operand) (tys : Array TypeId) (hop : o.op = Op.call { callee := Callee.invoke x name, args := #[y], argTypes := tys }) (hx : a.eval x = .iface T rv) (hy : a.eval y = vy) {R : Value → World → Prop} (hc : Calls P f #[r, vy] w fun e w' => ∃ v, e = .returned v ∧ R v w')
    (h : ∀ v w', R v w' → K (a.put o.dst v) w') : o.wp P a w K Q := by
  unfold Oper.wp
  rw [run_invoke hM hE x y tys hop hx hy, Oper.upon_enter]
  refine hc.mono ?_
  rintro e w' ⟨v, rfl, hR⟩
  exact h v w' hR

/-- in a list of operations -/
theorem wpList_invoke {w : World} {ops : Array Oper} {rest : List Oper} {o : Oper} {a : Act} {Q : Exit → Act → World → Prop} {name : String} {T : TypeId} {rv r vy : Value} {f : FuncId} (hM : (method (P.types.size + 100) T rv name).run P w = .ok (f, r) w) (hE : ∀ args w, (callFunc f args).run P w = .ok (.enter f args) w)
    (hg : o.guard = none) (x y : Operand) (tys : Array TypeId) (hop : o.op = Op.call { callee := Callee.invoke x name, args := #[y], argTypes := tys }) (hx : a.eval x = .iface T rv) (hy : a.eval y = vy) {R : Value → World → Prop} (hc : Calls P f #[r, vy] w fun e w' => ∃ v, e = .returned v ∧ R v w')
    (h : ∀ v w', R v w' → wpList P ops Q rest (a.put o.dst v) w') : wpList P ops Q (o :: rest) a w :=
  wpList_plain hg fun _ hK => wp_invoke hM hE x y tys hop hx hy hc fun v w' hR => hK _ _ (h v w' hR)

end

end Go.Proofs.Ytpjbkaibgajpcaa
