/-
  A region that draws its order, its operations behind a name: each step's goal is small.
  A region in the order of its text, its frame behind a name: guarded operations are passed over or carried out; ways join.
-/
import Derived.Test.YtfmlhdikagogcaaDoorJ02
namespace Go.Proofs.YtfmlhdikagogcaaDoor
open Go.RowKit
set_option maxRecDepth 20000

section
variable {P : Program} {ops O : Array Oper} {Q : Exit → Act → World → Prop} {md : Region.Mode} {S : World → Prop}

/-- an equation that no tactic opens -/
structure OpsAre (O ops : Array Oper) : Prop where
  eq : O = ops

theorem tkNH (i : Nat) {oi : Oper} {fuel : Nat} {listed : Array Bool} {a : Act} {w : World} (hO : OpsAre O ops) (hS : S w) (hi : ops.toList[i]? = some oi) (hQ : ∀ c a w, Q (.panic c) (a.put oi.dst undef) w → Q (.panic c) a w)
    (hc : canTake md ops listed i = true) (hw : Region.wanted oi (yielded ops a.tmps) = false)
    (h : wpAnyH P md O Q S fuel (listed.setIfInBounds i true) (a.put oi.dst undef) w) : wpAnyH P md O Q S (fuel + 1) listed a w := by
  obtain ⟨rfl⟩ := hO
  exact tkN i hS hi hQ hc hw h

theorem kNH (i : Nat) {oi : Oper} {fuel : Nat} {listed : Array Bool} {a : Act} {w : World} (hO : OpsAre O ops) (hS : S w) (h : wpAnyH P md O Q S fuel (listed.setIfInBounds i true) (a.put oi.dst undef) w)
    (hi : ops.toList[i]? = some oi := by exact rfl) (hQ : ∀ c a w, Q (.panic c) (a.put oi.dst undef) w → Q (.panic c) a w := by exact fun _ _ _ h => h) (hc : canTake md ops listed i = true := by decide +kernel) (hw : Region.wanted oi (yielded ops a.tmps) = false := by rfl) : wpAnyH P md O Q S (fuel + 1) listed a w :=
  tkNH i hO hS hi hQ hc hw h

theorem tkYH (i : Nat) {oi : Oper} {v : Value} {fuel : Nat} {listed : Array Bool} {a : Act} {w : World} (hO : OpsAre O ops) (hS : S w) (hi : ops.toList[i]? = some oi) (hQ : ∀ c a w, Q (.panic c) (a.put oi.dst v) w → Q (.panic c) a w)
    (hc : canTake md ops listed i = true) (hw : Region.wanted oi (yielded ops a.tmps) = true) (hy : ∀ w, S w → (execOp a.eval oi).run P w = .ok (.value v) w)
    (h : wpAnyH P md O Q S fuel (listed.setIfInBounds i true) (a.put oi.dst v) w) : wpAnyH P md O Q S (fuel + 1) listed a w := by
  obtain ⟨rfl⟩ := hO
  exact tkY i hS hi hQ hc hw hy h

theorem kYH (i : Nat) {oi : Oper} {v : Value} {fuel : Nat} {listed : Array Bool} {a : Act} {w : World} (hO : OpsAre O ops) (hS : S w) (h : wpAnyH P md O Q S fuel (listed.setIfInBounds i true) (a.put oi.dst v) w)
    (hi : ops.toList[i]? = some oi := by exact rfl) (hQ : ∀ c a w, Q (.panic c) (a.put oi.dst v) w → Q (.panic c) a w := by exact fun _ _ _ h => h) (hc : canTake md ops listed i = true := by decide +kernel) (hw : Region.wanted oi (yielded ops a.tmps) = true := by rfl) (hy : ∀ w, S w → (execOp a.eval oi).run P w = .ok (.value v) w := by intro w hS; (try dsimp only at hS); go_simp; try with_reducible rfl) : wpAnyH P md O Q S (fuel + 1) listed a w :=
  tkYH i hO hS hi hQ hc hw hy h

theorem spkH (i : Nat) {oi : Oper} {fuel : Nat} {listed : Array Bool} {a : Act} {w : World} (hO : OpsAre O ops) (hi : ops.toList[i]? = some oi)
    (hr : Region.ready md ops listed = [i]) (hw : Region.wanted oi (yielded ops a.tmps) = true)
    (h : ∀ K' : Act → World → Prop, Shut (∀ a w, S w → (S w → wpAnyH P md O Q S fuel (listed.setIfInBounds i true) a w) → K' a w) → oi.wp P a w K' Q) : wpAnyH P md O Q S (fuel + 1) listed a w := by
  obtain ⟨rfl⟩ := hO
  exact spk i hi hr hw h

theorem spBH (i j : Nat) {oi oj : Oper} {fuel : Nat} {listed : Array Bool} {a : Act} {w : World} (hO : OpsAre O ops) (hi : ops.toList[i]? = some oi) (hj : ops.toList[j]? = some oj)
    (hr : Region.ready md ops listed = [i, j]) (hwi : Region.wanted oi (yielded ops a.tmps) = true) (hwj : Region.wanted oj (yielded ops a.tmps) = true)
    (h : ∀ K' : Act → World → Prop, Shut (∀ a w, S w → (S w → wpAnyH P md O Q S fuel (listed.setIfInBounds i true) a w) → K' a w) → oi.wp P a w K' Q)
    (h' : ∀ K' : Act → World → Prop, Shut (∀ a w, S w → (S w → wpAnyH P md O Q S fuel (listed.setIfInBounds j true) a w) → K' a w) → oj.wp P a w K' Q) : wpAnyH P md O Q S (fuel + 1) listed a w := by
  obtain ⟨rfl⟩ := hO
  exact spB i j hi hj hr hwi hwj h h'

theorem doneH {fuel : Nat} {listed : Array Bool} {a : Act} {w : World} (hO : OpsAre O ops) (hr : Region.ready md ops listed = []) (h : Q .normal a w) : wpAnyH P md O Q S fuel listed a w := by
  obtain ⟨rfl⟩ := hO
  exact wpAnyH_done hr h _

theorem region_goH {id : Nat} {a : Act} {w : World} (S : World → Prop) (n : Nat) (hm : P.follows .mixedOrders = true) (hn : ops.size = n) (hS : S w.drew)
    (h : ∀ O, OpsAre O ops → S w.drew → wpAnyH P .any O Q S n (Array.replicate n false) a w.drew) : (Code.region id ops true).wp P Q a w := by
  subst hn
  exact region_go S hm hS (h ops ⟨rfl⟩)
end

end Go.Proofs.YtfmlhdikagogcaaDoor

namespace Go.Proofs.YtfmlhdikagogcaaDoor
open Go.RowKit
set_option maxRecDepth 20000

/-- temporary j of the frame -/
def tmpOf (a : Act) (j : Nat) : Value := a.tmps.getD j undef

theorem eval_tmpOf (a : Act) (j : Nat) : a.eval (.tmp j) = tmpOf a j := rfl

theorem eval_const (a : Act) (v : Value) : a.eval (.const v) = v := rfl

theorem tmps_get (a : Act) (j : Nat) : a.tmps[j]?.getD undef = tmpOf a j := by simp [tmpOf, Array.getD_eq_getD_getElem?]

theorem tmpOf_put_same (a : Act) (d : Nat) (v : Value) (h : d < a.tmps.size) : tmpOf (a.put (some d) v) d = v := by
  simp [tmpOf, Act.put, Array.getD, h]

theorem tmpOf_put_other (a : Act) (d j : Nat) (v : Value) (h : d ≠ j) : tmpOf (a.put (some d) v) j = tmpOf a j := by
  simp [tmpOf, Act.put, Array.getD_eq_getD_getElem?, Array.getElem?_setIfInBounds_ne h]

theorem size_put (a : Act) (d : Option Nat) (v : Value) : (a.put d v).tmps.size = a.tmps.size := by
  cases d <;> simp [Act.put]

/-- a is a0 but for these slots -/
structure Fr (a0 a : Act) (scr : List Nat) : Prop where
  size : a.tmps.size = a0.tmps.size
  defers : a.defers = a0.defers
  agree : ∀ j, j ∉ scr → tmpOf a j = tmpOf a0 j

theorem Fr.refl (a0 : Act) (scr : List Nat) : Fr a0 a0 scr := ⟨rfl, rfl, fun _ _ => rfl⟩

theorem Fr.put {a0 a : Act} {scr : List Nat} (h : Fr a0 a scr) (d : Nat) (v : Value) (hd : scr.contains d = true) : Fr a0 (a.put (some d) v) scr :=
  ⟨(size_put a _ v).trans h.size, h.defers, fun j hj => by
    rw [tmpOf_put_other a d j v (fun e => hj (by rw [← e]; simpa using hd))]
    exact h.agree j hj⟩

section
variable {P : Program} {ops O : Array Oper} {Q : Exit → Act → World → Prop}

/-- from operation i on -/
def wpFrom (P : Program) (O : Array Oper) (Q : Exit → Act → World → Prop) (i : Nat) (a : Act) (w : World) : Prop := wpList P O Q (O.toList.drop i) a w

theorem region_goP {id : Nat} {a : Act} {w : World} (h : ∀ O, OpsAre O ops → wpFrom P O Q 0 a w) : (Code.region id ops false).wp P Q a w := by
  have := h ops ⟨rfl⟩
  exact wp_region_list this

theorem drop_at {i : Nat} {oi : Oper} (hi : ops.toList[i]? = some oi) : ops.toList.drop i = oi :: ops.toList.drop (i + 1) := by
  obtain ⟨h, rfl⟩ := List.getElem?_eq_some_iff.1 hi
  exact List.drop_eq_getElem_cons h

/-- passed over -/
theorem pSkip (i : Nat) {oi : Oper} {a : Act} {w : World} (hO : OpsAre O ops) (hi : ops.toList[i]? = some oi) (hw : Region.wanted oi (yielded ops a.tmps) = false) (h : wpFrom P O Q (i + 1) (a.put oi.dst undef) w) : wpFrom P O Q i a w := by
  obtain ⟨rfl⟩ := hO
  unfold wpFrom
  rw [drop_at hi, wpList, if_neg (by rw [hw]; simp)]
  exact h

/-- it yields a value -/
theorem pVal (i : Nat) {oi : Oper} {a : Act} {w : World} (v : Value) (hO : OpsAre O ops) (hi : ops.toList[i]? = some oi) (hw : Region.wanted oi (yielded ops a.tmps) = true) (hr : (execOp a.eval oi).run P w = .ok (.value v) w)
    (h : wpFrom P O Q (i + 1) (a.put oi.dst v) w) : wpFrom P O Q i a w := by
  obtain ⟨rfl⟩ := hO
  unfold wpFrom
  rw [drop_at hi, wpList, if_pos hw]
  refine .inl ?_
  unfold Oper.wp
  rw [hr, Oper.upon_value]
  exact h

/-- a call that changes nothing -/
theorem pCall (i : Nat) {oi : Oper} {a : Act} {w : World} (v : Value) {f : FuncId} {args : Array Value} (hO : OpsAre O ops) (hi : ops.toList[i]? = some oi) (hw : Region.wanted oi (yielded ops a.tmps) = true) (hr : (execOp a.eval oi).run P w = .ok (.enter f args) w)
    (hc : Calls P f args w fun e w' => e = .returned v ∧ w = w') (h : wpFrom P O Q (i + 1) (a.put oi.dst v) w) : wpFrom P O Q i a w := by
  obtain ⟨rfl⟩ := hO
  unfold wpFrom
  rw [drop_at hi, wpList, if_pos hw]
  refine .inl ?_
  unfold Oper.wp
  rw [hr, Oper.upon_enter]
  refine hc.mono ?_
  rintro e w' ⟨rfl, rfl⟩
  exact h

theorem pEnd (i : Nat) {a : Act} {w : World} (hO : OpsAre O ops) (hi : ops.toList.drop i = []) (h : Q .normal a w) : wpFrom P O Q i a w := by
  obtain ⟨rfl⟩ := hO
  unfold wpFrom
  rw [hi]
  exact h

/-- the region's own proof knows of the frame what F0 says, of what follows what R says -/
theorem region_goQ {id : Nat} {a : Act} {w : World} (F0 : Act → Prop) (R : Act → Prop) (hF : F0 a)
    (h : ∀ (a0 : Act) (O : Array Oper) (Q' : Exit → Act → World → Prop), F0 a0 → OpsAre O ops → (∀ a', R a' → Q' .normal a' w) → wpFrom P O Q' 0 a0 w)
    (hq : ∀ a', R a' → Q .normal a' w) : (Code.region id ops false).wp P Q a w :=
  region_goP fun O hO => h a O Q hF hO hq

theorem wanted_none {o : Oper} {a : Act} (hg : o.guard = none) : Region.wanted o (yielded ops a.tmps) = true := by simp [Region.wanted, hg]

theorem wanted_if {o : Oper} {a : Act} {g m : Nat} {b c : Bool} (hg : o.guard = some (g, b)) (hd : (ops[g]?).bind (·.dst) = some m) (hm : m < a.tmps.size) (ha : tmpOf a m = .bool c) : Region.wanted o (yielded ops a.tmps) = (c == b) := by
  have h1 : a.tmps[m]? = some (.bool c) := by
    rw [Array.getElem?_eq_getElem hm]
    congr 1
    simpa [tmpOf, Array.getD, hm] using ha
  have h2 : yielded ops a.tmps g = some c := by
    unfold yielded
    rw [hd]
    simp [h1]
  unfold Region.wanted
  rw [hg]
  simp only [h2]
  cases c <;> cases b <;> rfl

end

theorem list_tmp (t : Array Value) (n : Nat) (h : t.size = n) : t = ((List.range n).map fun j => t.getD j undef).toArray := by
  apply Array.ext
  · simp [h]
  · intro i h1 h2
    simp [Array.getD, h1]

end Go.Proofs.YtfmlhdikagogcaaDoor
