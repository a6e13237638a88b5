/-
  graph's document: Near.
  A call through an interface value whose dynamic type's method is known.
-/
import Derived.Test.YtjnkiloomdeljaaJ22
import Derived.Test.YtjnkiloomdeljaaJ01
import Derived.Shelf.Abstract
namespace Go.Proofs.Ytjnkiloomdeljaa
open Go.RowKit

def nearStep (k : Int) (soft : Bool) (out : List Int) (e : Int × Int × Bool) : List Int :=
  if (soft && e.2.2) = true then out else if e.1 = k then putZ out e.2.1 else if e.2.1 = k then putZ out e.1 else out

/-- to which there are edges -/
def nearD (E : Eg) (k : Int) (soft : Bool) : List Int := E.foldl (nearStep k soft) []

theorem nearStep_len (k : Int) (soft : Bool) (out : List Int) (e : Int × Int × Bool) : (nearStep k soft out e).length ≤ out.length + 1 := by
  unfold nearStep
  split
  · omega
  · split
    · rw [putZ_length]; exact Nat.le_refl _
    · split
      · rw [putZ_length]; exact Nat.le_refl _
      · omega

theorem nearD_snoc (E : Eg) (k : Int) (soft : Bool) (j : Nat) (hj : j < E.length) : nearD (E.take (j + 1)) k soft = nearStep k soft (nearD (E.take j) k soft) E[j] := by
  unfold nearD
  rw [List.take_add_one, List.getElem?_eq_getElem hj, Option.toList_some, List.foldl_append]
  rfl

theorem nearD_len (E : Eg) (k : Int) (soft : Bool) : (nearD E k soft).length ≤ E.length := by
  have : ∀ (E : Eg) (out : List Int), (E.foldl (nearStep k soft) out).length ≤ out.length + E.length := by
    intro E
    induction E with
    | nil => intro out; simp
    | cons e E ih =>
      intro out
      rw [List.foldl_cons, List.length_cons]
      have := ih (nearStep k soft out e)
      have := nearStep_len k soft out e
      omega
  have := this E []
  simpa [nearD] using this

theorem dNear_nil (w : World) (k : Int) (soft : Bool) :
    Calls Try.prog 31 #[.pointer none, .int .u64 k, .bool soft] w fun e w' => e = .returned (.slice none 0 0) ∧ w' = w := by
  go_enter Try.func31, Try.ntmps31
  go_wp2_with fail
  go_ret
  exact ⟨rfl, rfl⟩


set_option maxRecDepth 100000 in
set_option maxHeartbeats 4000000 in
theorem dNear (w : World) (B c : Nat) (N : List Int) (E : Eg) (vn ve : Value) (k : Int) (soft : Bool) (h : DGr w B c N E vn ve) (hl : E.length ≤ 400000) :
    Calls Try.prog 31 #[.pointer (some ⟨c, 0, none⟩), .int .u64 k, .bool soft] w (NewL w (nearD E k soft)) := by
  cases soft with
  | false =>
    have c1 := h.get1
    have HE := Lib.hid h.edges
    obtain ⟨pe, me, ce, rfl⟩ := own_form h.edges
    obtain rfl : me = E.length := own_len h.edges
    have hlE : E.length ≤ 9223372036854775807 := by omega
    clear h
    go_enter Try.func31, Try.ntmps31
    go_wp2_with fail
    go_loopg [7, 17] E.length (fun q s i wr => ∃ (j : Nat) (p : Option Addr) (n cap : Nat), q = E.length - j ∧ j ≤ E.length ∧ i = .int .i64 j ∧ s = .slice p n cap ∧ wr.ownsRow w.heap.size 37 1 (.slice p n cap) (nearD (E.take j) k false).length ((nearD (E.take j) k false).map (Value.int .u64)) ∧ Below w.heap.size w wr)
    case atStart => exact ⟨0, none, 0, 0, rfl, by omega, rfl, rfl, ⟨rfl, .inl ⟨rfl, rfl⟩⟩, Below.refl _ _⟩
    case round =>
      obtain ⟨j, p, n, cap, rfl, hj, rfl, rfl, hrow, hbl⟩ := hrel
      obtain rfl : n = _ := own_len hrow
      have hs := hbl.size
      have HA := Lib.hid (And.intro hrow hbl)
      by_cases hlt : j < E.length
      · obtain ⟨g, cap', hve, -, hgl⟩ := HE.out.form (by omega)
        obtain ⟨rfl, -, rfl⟩ := Value.slice.inj hve
        have row := own_below HE.out hbl
        have e3 := flatE_get E j hlt
        have sn := nearD_snoc E k false j hlt
        obtain ⟨⟨x, y, z⟩, he⟩ : ∃ e, e = E[j] := ⟨_, rfl⟩
        rw [← he] at e3 sn
        have d0 : wr.cell? ⟨g, j * 3, none⟩ = some (.int .u64 x) := by rw [World.ownsRow.cellAt row _ (by omega)]; exact e3.1
        have d1 : wr.cell? ⟨g, j * 3 + 1, none⟩ = some (.int .u64 y) := by rw [World.ownsRow.cellAt row _ (by omega)]; exact e3.2.1
        have d2 : wr.cell? ⟨g, j * 3 + 2, none⟩ = some (.bool z) := by rw [World.ownsRow.cellAt row _ (by omega)]; exact e3.2.2
        have hln : (nearD (E.take j) k false).length ≤ 1000000 := by have := nearD_len (E.take j) k false; rw [List.length_take] at this; omega
        clear row e3 hve he
        cases z with
        | true =>
          have hbw := hbl.alloc hs (.cells #[.int .u64 x, .int .u64 y, .bool true] 96)
          have hrw := hrow.alloc (.cells #[.int .u64 x, .int .u64 y, .bool true] 96)
          have cA := dPut _ _ _ (nearD (E.take j) k false) y hrw hln
          have cB := dPut _ _ _ (nearD (E.take j) k false) x hrw hln
          have HB := Lib.hid (And.intro hrw hbw)
          clear hbl hrow hrw hbw
          by_cases h1 : x = k
          · have b1 : (x == k) = true := by simp [h1]
            have h1' := Lib.hid h1
            clear h1
            have sn2 := Lib.hid (show nearD (E.take (j + 1)) k false = putZ (nearD (E.take j) k false) y from by rw [sn]; simp [nearStep, h1'.out])
            clear sn
            go_wp2_with (go_at_call 37; refine cA.mono ?_; rintro e w3 ⟨v, rfl, hr, hb3⟩; obtain ⟨q3, n3, c3, rfl⟩ := own_form hr; have R3 := Lib.hid (And.intro hr hb3); clear hr hb3)
            go_roundg (E.length - (j + 1))
            case measure => omega
            case rel => exact ⟨j + 1, q3, n3, c3, rfl, by omega, by go_num, rfl, by rw [sn2.out]; exact own_mono R3.out.1 HB.out.2.size, HB.out.2.trans (R3.out.2.mono HB.out.2.size)⟩
          · have b1 : (x == k) = false := by simp [h1]
            have h1' := Lib.hid h1
            clear h1
            by_cases h2 : y = k
            · have b2 : (y == k) = true := by simp [h2]
              have h2' := Lib.hid h2
              clear h2
              have sn2 := Lib.hid (show nearD (E.take (j + 1)) k false = putZ (nearD (E.take j) k false) x from by rw [sn]; simp [nearStep, h1'.out, h2'.out])
              clear sn
              go_wp2_with (go_at_call 37; refine cB.mono ?_; rintro e w3 ⟨v, rfl, hr, hb3⟩; obtain ⟨q3, n3, c3, rfl⟩ := own_form hr; have R3 := Lib.hid (And.intro hr hb3); clear hr hb3)
              go_roundg (E.length - (j + 1))
              case measure => omega
              case rel => exact ⟨j + 1, q3, n3, c3, rfl, by omega, by go_num, rfl, by rw [sn2.out]; exact own_mono R3.out.1 HB.out.2.size, HB.out.2.trans (R3.out.2.mono HB.out.2.size)⟩
            · have b2 : (y == k) = false := by simp [h2]
              have h2' := Lib.hid h2
              clear h2
              have sn2 := Lib.hid (show nearD (E.take (j + 1)) k false = nearD (E.take j) k false from by rw [sn]; simp [nearStep, h1'.out, h2'.out])
              clear sn
              go_wp2_with fail
              go_roundg (E.length - (j + 1))
              case measure => omega
              case rel => exact ⟨j + 1, p, _, cap, rfl, by omega, by go_num, rfl, by rw [sn2.out]; exact HB.out.1, HB.out.2⟩
        | false =>
          have hbw := hbl.alloc hs (.cells #[.int .u64 x, .int .u64 y, .bool false] 96)
          have hrw := hrow.alloc (.cells #[.int .u64 x, .int .u64 y, .bool false] 96)
          have cA := dPut _ _ _ (nearD (E.take j) k false) y hrw hln
          have cB := dPut _ _ _ (nearD (E.take j) k false) x hrw hln
          have HB := Lib.hid (And.intro hrw hbw)
          clear hbl hrow hrw hbw
          by_cases h1 : x = k
          · have b1 : (x == k) = true := by simp [h1]
            have h1' := Lib.hid h1
            clear h1
            have sn2 := Lib.hid (show nearD (E.take (j + 1)) k false = putZ (nearD (E.take j) k false) y from by rw [sn]; simp [nearStep, h1'.out])
            clear sn
            go_wp2_with (go_at_call 37; refine cA.mono ?_; rintro e w3 ⟨v, rfl, hr, hb3⟩; obtain ⟨q3, n3, c3, rfl⟩ := own_form hr; have R3 := Lib.hid (And.intro hr hb3); clear hr hb3)
            go_roundg (E.length - (j + 1))
            case measure => omega
            case rel => exact ⟨j + 1, q3, n3, c3, rfl, by omega, by go_num, rfl, by rw [sn2.out]; exact own_mono R3.out.1 HB.out.2.size, HB.out.2.trans (R3.out.2.mono HB.out.2.size)⟩
          · have b1 : (x == k) = false := by simp [h1]
            have h1' := Lib.hid h1
            clear h1
            by_cases h2 : y = k
            · have b2 : (y == k) = true := by simp [h2]
              have h2' := Lib.hid h2
              clear h2
              have sn2 := Lib.hid (show nearD (E.take (j + 1)) k false = putZ (nearD (E.take j) k false) x from by rw [sn]; simp [nearStep, h1'.out, h2'.out])
              clear sn
              go_wp2_with (go_at_call 37; refine cB.mono ?_; rintro e w3 ⟨v, rfl, hr, hb3⟩; obtain ⟨q3, n3, c3, rfl⟩ := own_form hr; have R3 := Lib.hid (And.intro hr hb3); clear hr hb3)
              go_roundg (E.length - (j + 1))
              case measure => omega
              case rel => exact ⟨j + 1, q3, n3, c3, rfl, by omega, by go_num, rfl, by rw [sn2.out]; exact own_mono R3.out.1 HB.out.2.size, HB.out.2.trans (R3.out.2.mono HB.out.2.size)⟩
            · have b2 : (y == k) = false := by simp [h2]
              have h2' := Lib.hid h2
              clear h2
              have sn2 := Lib.hid (show nearD (E.take (j + 1)) k false = nearD (E.take j) k false from by rw [sn]; simp [nearStep, h1'.out, h2'.out])
              clear sn
              go_wp2_with fail
              go_roundg (E.length - (j + 1))
              case measure => omega
              case rel => exact ⟨j + 1, p, _, cap, rfl, by omega, by go_num, rfl, by rw [sn2.out]; exact HB.out.1, HB.out.2⟩
      · go_wp2_with fail
        go_ret
        exact ⟨_, rfl, by rw [show nearD E k false = nearD (E.take j) k false from by rw [List.take_of_length_le (by omega)]]; exact HA.out.1, HA.out.2⟩
  | true =>
    have c1 := h.get1
    have HE := Lib.hid h.edges
    obtain ⟨pe, me, ce, rfl⟩ := own_form h.edges
    obtain rfl : me = E.length := own_len h.edges
    have hlE : E.length ≤ 9223372036854775807 := by omega
    clear h
    go_enter Try.func31, Try.ntmps31
    go_wp2_with fail
    go_loopg [7, 17] E.length (fun q s i wr => ∃ (j : Nat) (p : Option Addr) (n cap : Nat), q = E.length - j ∧ j ≤ E.length ∧ i = .int .i64 j ∧ s = .slice p n cap ∧ wr.ownsRow w.heap.size 37 1 (.slice p n cap) (nearD (E.take j) k true).length ((nearD (E.take j) k true).map (Value.int .u64)) ∧ Below w.heap.size w wr)
    case atStart => exact ⟨0, none, 0, 0, rfl, by omega, rfl, rfl, ⟨rfl, .inl ⟨rfl, rfl⟩⟩, Below.refl _ _⟩
    case round =>
      obtain ⟨j, p, n, cap, rfl, hj, rfl, rfl, hrow, hbl⟩ := hrel
      obtain rfl : n = _ := own_len hrow
      have hs := hbl.size
      have HA := Lib.hid (And.intro hrow hbl)
      by_cases hlt : j < E.length
      · obtain ⟨g, cap', hve, -, hgl⟩ := HE.out.form (by omega)
        obtain ⟨rfl, -, rfl⟩ := Value.slice.inj hve
        have row := own_below HE.out hbl
        have e3 := flatE_get E j hlt
        have sn := nearD_snoc E k true j hlt
        obtain ⟨⟨x, y, z⟩, he⟩ : ∃ e, e = E[j] := ⟨_, rfl⟩
        rw [← he] at e3 sn
        have d0 : wr.cell? ⟨g, j * 3, none⟩ = some (.int .u64 x) := by rw [World.ownsRow.cellAt row _ (by omega)]; exact e3.1
        have d1 : wr.cell? ⟨g, j * 3 + 1, none⟩ = some (.int .u64 y) := by rw [World.ownsRow.cellAt row _ (by omega)]; exact e3.2.1
        have d2 : wr.cell? ⟨g, j * 3 + 2, none⟩ = some (.bool z) := by rw [World.ownsRow.cellAt row _ (by omega)]; exact e3.2.2
        have hln : (nearD (E.take j) k true).length ≤ 1000000 := by have := nearD_len (E.take j) k true; rw [List.length_take] at this; omega
        clear row e3 hve he
        cases z with
        | true =>
          have hbw := hbl.alloc hs (.cells #[.int .u64 x, .int .u64 y, .bool true] 96)
          have hrw := hrow.alloc (.cells #[.int .u64 x, .int .u64 y, .bool true] 96)
          have HB := Lib.hid (And.intro hrw hbw)
          clear hbl hrow hrw hbw
          have sn2 := Lib.hid (show nearD (E.take (j + 1)) k true = nearD (E.take j) k true from by rw [sn]; simp [nearStep, Bool.and_self])
          clear sn
          go_wp2_with fail
          go_roundg (E.length - (j + 1))
          case measure => omega
          case rel => exact ⟨j + 1, p, _, cap, rfl, by omega, by go_num, rfl, by rw [sn2.out]; exact HB.out.1, HB.out.2⟩
        | false =>
          have hbw := hbl.alloc hs (.cells #[.int .u64 x, .int .u64 y, .bool false] 96)
          have hrw := hrow.alloc (.cells #[.int .u64 x, .int .u64 y, .bool false] 96)
          have cA := dPut _ _ _ (nearD (E.take j) k true) y hrw hln
          have cB := dPut _ _ _ (nearD (E.take j) k true) x hrw hln
          have HB := Lib.hid (And.intro hrw hbw)
          clear hbl hrow hrw hbw
          by_cases h1 : x = k
          · have b1 : (x == k) = true := by simp [h1]
            have h1' := Lib.hid h1
            clear h1
            have sn2 := Lib.hid (show nearD (E.take (j + 1)) k true = putZ (nearD (E.take j) k true) y from by rw [sn]; simp [nearStep, h1'.out])
            clear sn
            go_wp2_with (go_at_call 37; refine cA.mono ?_; rintro e w3 ⟨v, rfl, hr, hb3⟩; obtain ⟨q3, n3, c3, rfl⟩ := own_form hr; have R3 := Lib.hid (And.intro hr hb3); clear hr hb3)
            go_roundg (E.length - (j + 1))
            case measure => omega
            case rel => exact ⟨j + 1, q3, n3, c3, rfl, by omega, by go_num, rfl, by rw [sn2.out]; exact own_mono R3.out.1 HB.out.2.size, HB.out.2.trans (R3.out.2.mono HB.out.2.size)⟩
          · have b1 : (x == k) = false := by simp [h1]
            have h1' := Lib.hid h1
            clear h1
            by_cases h2 : y = k
            · have b2 : (y == k) = true := by simp [h2]
              have h2' := Lib.hid h2
              clear h2
              have sn2 := Lib.hid (show nearD (E.take (j + 1)) k true = putZ (nearD (E.take j) k true) x from by rw [sn]; simp [nearStep, h1'.out, h2'.out])
              clear sn
              go_wp2_with (go_at_call 37; refine cB.mono ?_; rintro e w3 ⟨v, rfl, hr, hb3⟩; obtain ⟨q3, n3, c3, rfl⟩ := own_form hr; have R3 := Lib.hid (And.intro hr hb3); clear hr hb3)
              go_roundg (E.length - (j + 1))
              case measure => omega
              case rel => exact ⟨j + 1, q3, n3, c3, rfl, by omega, by go_num, rfl, by rw [sn2.out]; exact own_mono R3.out.1 HB.out.2.size, HB.out.2.trans (R3.out.2.mono HB.out.2.size)⟩
            · have b2 : (y == k) = false := by simp [h2]
              have h2' := Lib.hid h2
              clear h2
              have sn2 := Lib.hid (show nearD (E.take (j + 1)) k true = nearD (E.take j) k true from by rw [sn]; simp [nearStep, h1'.out, h2'.out])
              clear sn
              go_wp2_with fail
              go_roundg (E.length - (j + 1))
              case measure => omega
              case rel => exact ⟨j + 1, p, _, cap, rfl, by omega, by go_num, rfl, by rw [sn2.out]; exact HB.out.1, HB.out.2⟩
      · go_wp2_with fail
        go_ret
        exact ⟨_, rfl, by rw [show nearD E k true = nearD (E.take j) k true from by rw [List.take_of_length_le (by omega)]]; exact HA.out.1, HA.out.2⟩

end Go.Proofs.Ytjnkiloomdeljaa

namespace Go.Proofs.Ytjnkiloomdeljaa
open Go.RowKit

section
variable {P : Program}

theorem run_invoke {w : World} {o : Oper} {a : Act} {name : String} {T : TypeId} {rv r vy : Value} {f : FuncId} (hM : (method (P.types.size + 100) T rv name).run P w = .ok (f, r) w) (hE : ∀ args w, (callFunc f args).run P w = .ok (.enter f args) w)
    (x y : Operand) (tys : Array TypeId) (hop : o.op = Op.call { callee := Callee.invoke x name, args := #[y], argTypes := tys }) (hx : a.eval x = .iface T rv) (hy : a.eval y = vy) : (execOp a.eval o).run P w = .ok (.enter f #[r, vy]) w := by
  have hM' : (method (P.types.size + Made.depth) T rv name).run P w = .ok (f, r) w := hM
  unfold execOp
  simp only [hop, resolve, invoke, callMethod, Sem.run_bind, Sem.run_pure, Result.andThen_ok, List.map_toArray, List.map_cons, List.map_nil, hx, hy]
  simp [Sem.run_bind, hM', hE]

/-- at the operation itself -/
theorem wp_invoke {w : World} {o : Oper} {a : Act} {K : Act → World → Prop} {Q : Exit → Act → World → Prop} {name : String} {T : TypeId} {rv r vy : Value} {f : FuncId} (hM : (method (P.types.size + 100) T rv name).run P w = .ok (f, r) w) (hE : ∀ args w, (callFunc f args).run P w = .ok (.enter f args) w)
    (x y : Operand) (tys : Array TypeId) (hop : o.op = Op.call { callee := Callee.invoke x name, args := #[y], argTypes := tys }) (hx : a.eval x = .iface T rv) (hy : a.eval y = vy) {R : Value → World → Prop} (hc : Calls P f #[r, vy] w fun e w' => ∃ v, e = .returned v ∧ R v w')
    (h : ∀ v w', R v w' → K (a.put o.dst v) w') : o.wp P a w K Q := by
  unfold Oper.wp
  rw [run_invoke hM hE x y tys hop hx hy, Oper.upon_enter]
  refine hc.mono ?_
  rintro e w' ⟨v, rfl, hR⟩
  exact h v w' hR

/-- in a list of operations -/
theorem wpList_invoke {w : World} {ops : Array Oper} {rest : List Oper} {o : Oper} {a : Act} {Q : Exit → Act → World → Prop} {name : String} {T : TypeId} {rv r vy : Value} {f : FuncId} (hM : (method (P.types.size + 100) T rv name).run P w = .ok (f, r) w) (hE : ∀ args w, (callFunc f args).run P w = .ok (.enter f args) w)
    (hg : o.guard = none) (x y : Operand) (tys : Array TypeId) (hop : o.op = Op.call { callee := Callee.invoke x name, args := #[y], argTypes := tys }) (hx : a.eval x = .iface T rv) (hy : a.eval y = vy) {R : Value → World → Prop} (hc : Calls P f #[r, vy] w fun e w' => ∃ v, e = .returned v ∧ R v w')
    (h : ∀ v w', R v w' → wpList P ops Q rest (a.put o.dst v) w') : wpList P ops Q (o :: rest) a w :=
  wpList_plain hg fun _ hK => wp_invoke hM hE x y tys hop hx hy hc fun v w' hR => hK _ _ (h v w' hR)

end

end Go.Proofs.Ytjnkiloomdeljaa
