/-
  A region in the order of its text, its frame behind a name: guarded operations are passed over or carried out; ways join.
-/
import Derived.Test.YtfmlhdikagogcaaDoorJ18
namespace Go.Proofs.YtfmlhdikagogcaaDoor
open Go.RowKit
set_option maxRecDepth 20000

/-- temporary j of the frame -/
def tmpOf (a : Act) (j : Nat) : Value := a.tmps.getD j undef

theorem eval_tmpOf (a : Act) (j : Nat) : a.eval (.tmp j) = tmpOf a j := rfl

theorem eval_const (a : Act) (v : Value) : a.eval (.const v) = v := rfl

theorem tmps_get (a : Act) (j : Nat) : a.tmps[j]?.getD undef = tmpOf a j := by simp [tmpOf, Array.getD_eq_getD_getElem?]

theorem tmpOf_put_same (a : Act) (d : Nat) (v : Value) (h : d < a.tmps.size) : tmpOf (a.put (some d) v) d = v := by
  simp [tmpOf, Act.put, Array.getD, h]

theorem tmpOf_put_other (a : Act) (d j : Nat) (v : Value) (h : d ≠ j) : tmpOf (a.put (some d) v) j = tmpOf a j := by
  simp [tmpOf, Act.put, Array.getD_eq_getD_getElem?, Array.getElem?_setIfInBounds_ne h]

theorem size_put (a : Act) (d : Option Nat) (v : Value) : (a.put d v).tmps.size = a.tmps.size := by
  cases d <;> simp [Act.put]

/-- a is a0 but for these slots -/
structure Fr (a0 a : Act) (scr : List Nat) : Prop where
  size : a.tmps.size = a0.tmps.size
  defers : a.defers = a0.defers
  agree : ∀ j, j ∉ scr → tmpOf a j = tmpOf a0 j

theorem Fr.refl (a0 : Act) (scr : List Nat) : Fr a0 a0 scr := ⟨rfl, rfl, fun _ _ => rfl⟩

theorem Fr.put {a0 a : Act} {scr : List Nat} (h : Fr a0 a scr) (d : Nat) (v : Value) (hd : scr.contains d = true) : Fr a0 (a.put (some d) v) scr :=
  ⟨(size_put a _ v).trans h.size, h.defers, fun j hj => by
    rw [tmpOf_put_other a d j v (fun e => hj (by rw [← e]; simpa using hd))]
    exact h.agree j hj⟩

section
variable {P : Program} {ops O : Array Oper} {Q : Exit → Act → World → Prop}

/-- from operation i on -/
def wpFrom (P : Program) (O : Array Oper) (Q : Exit → Act → World → Prop) (i : Nat) (a : Act) (w : World) : Prop := wpList P O Q (O.toList.drop i) a w

theorem region_goP {id : Nat} {a : Act} {w : World} (h : ∀ O, OpsAre O ops → wpFrom P O Q 0 a w) : (Code.region id ops false).wp P Q a w := by
  have := h ops ⟨rfl⟩
  exact wp_region_list this

theorem drop_at {i : Nat} {oi : Oper} (hi : ops.toList[i]? = some oi) : ops.toList.drop i = oi :: ops.toList.drop (i + 1) := by
  obtain ⟨h, rfl⟩ := List.getElem?_eq_some_iff.1 hi
  exact List.drop_eq_getElem_cons h

/-- passed over -/
theorem pSkip (i : Nat) {oi : Oper} {a : Act} {w : World} (hO : OpsAre O ops) (hi : ops.toList[i]? = some oi) (hw : Region.wanted oi (yielded ops a.tmps) = false) (h : wpFrom P O Q (i + 1) (a.put oi.dst undef) w) : wpFrom P O Q i a w := by
  obtain ⟨rfl⟩ := hO
  unfold wpFrom
  rw [drop_at hi, wpList, if_neg (by rw [hw]; simp)]
  exact h

/-- it yields a value -/
theorem pVal (i : Nat) {oi : Oper} {a : Act} {w : World} (v : Value) (hO : OpsAre O ops) (hi : ops.toList[i]? = some oi) (hw : Region.wanted oi (yielded ops a.tmps) = true) (hr : (execOp a.eval oi).run P w = .ok (.value v) w)
    (h : wpFrom P O Q (i + 1) (a.put oi.dst v) w) : wpFrom P O Q i a w := by
  obtain ⟨rfl⟩ := hO
  unfold wpFrom
  rw [drop_at hi, wpList, if_pos hw]
  refine .inl ?_
  unfold Oper.wp
  rw [hr, Oper.upon_value]
  exact h

/-- a call that changes nothing -/
theorem pCall (i : Nat) {oi : Oper} {a : Act} {w : World} (v : Value) {f : FuncId} {args : Array Value} (hO : OpsAre O ops) (hi : ops.toList[i]? = some oi) (hw : Region.wanted oi (yielded ops a.tmps) = true) (hr : (execOp a.eval oi).run P w = .ok (.enter f args) w)
    (hc : Calls P f args w fun e w' => e = .returned v ∧ w = w') (h : wpFrom P O Q (i + 1) (a.put oi.dst v) w) : wpFrom P O Q i a w := by
  obtain ⟨rfl⟩ := hO
  unfold wpFrom
  rw [drop_at hi, wpList, if_pos hw]
  refine .inl ?_
  unfold Oper.wp
  rw [hr, Oper.upon_enter]
  refine hc.mono ?_
  rintro e w' ⟨rfl, rfl⟩
  exact h

theorem pEnd (i : Nat) {a : Act} {w : World} (hO : OpsAre O ops) (hi : ops.toList.drop i = []) (h : Q .normal a w) : wpFrom P O Q i a w := by
  obtain ⟨rfl⟩ := hO
  unfold wpFrom
  rw [hi]
  exact h

/-- the region's own proof knows of the frame what F0 says, of what follows what R says -/
theorem region_goQ {id : Nat} {a : Act} {w : World} (F0 : Act → Prop) (R : Act → Prop) (hF : F0 a)
    (h : ∀ (a0 : Act) (O : Array Oper) (Q' : Exit → Act → World → Prop), F0 a0 → OpsAre O ops → (∀ a', R a' → Q' .normal a' w) → wpFrom P O Q' 0 a0 w)
    (hq : ∀ a', R a' → Q .normal a' w) : (Code.region id ops false).wp P Q a w :=
  region_goP fun O hO => h a O Q hF hO hq

theorem wanted_none {o : Oper} {a : Act} (hg : o.guard = none) : Region.wanted o (yielded ops a.tmps) = true := by simp [Region.wanted, hg]

theorem wanted_if {o : Oper} {a : Act} {g m : Nat} {b c : Bool} (hg : o.guard = some (g, b)) (hd : (ops[g]?).bind (·.dst) = some m) (hm : m < a.tmps.size) (ha : tmpOf a m = .bool c) : Region.wanted o (yielded ops a.tmps) = (c == b) := by
  have h1 : a.tmps[m]? = some (.bool c) := by
    rw [Array.getElem?_eq_getElem hm]
    congr 1
    simpa [tmpOf, Array.getD, hm] using ha
  have h2 : yielded ops a.tmps g = some c := by
    unfold yielded
    rw [hd]
    simp [h1]
  unfold Region.wanted
  rw [hg]
  simp only [h2]
  cases c <;> cases b <;> rfl

end

theorem list_tmp (t : Array Value) (n : Nat) (h : t.size = n) : t = ((List.range n).map fun j => t.getD j undef).toArray := by
  apply Array.ext
  · simp [h]
  · intro i h1 h2
    simp [Array.getD, h1]

end Go.Proofs.YtfmlhdikagogcaaDoor
