/-
  best: which of two goes ahead; a vector, a hit are copied.
-/
import Derived.Test.YtpjbkaibgajpcaaJ01
namespace Go.Proofs.Ytpjbkaibgajpcaa
open Go.RowKit

/-- a hit, but its vector: its ID and how far it is -/
def nearB (i d j e : Int) : Bool := decide (d < e) || (decide (d = e) && decide (i < j))

theorem nearer (i d j e : Int) (v u : Value) (w : World) :
    Calls Try.prog 45 #[.agg #[.int .u64 i, .int .u64 d, v], .agg #[.int .u64 j, .int .u64 e, u]] w fun r w' => r = .returned (.bool (nearB i d j e)) ∧ Below w.heap.size w w' := by
  by_cases h1 : d < e
  · go_enter Try.func45, Try.ntmps45
    go_wp2
    go_ret
    exact ⟨ret_bool (by simp [nearB, h1]), by go_grown⟩
  · have hd : decide (d < e) = false := by simp; omega
    by_cases h2 : d = e
    · have hde : (d == e) = true := by simp [h2]
      have E := Lib.hid h2
      clear h2
      go_enter Try.func45, Try.ntmps45
      go_wp2
      go_ret
      exact ⟨ret_bool (by have := E.out; simp [nearB, this]), by go_grown⟩
    · have hde : (d == e) = false := by simp [h2]
      go_enter Try.func45, Try.ntmps45
      go_wp2
      go_ret
      exact ⟨ret_bool (by simp [nearB, h1, h2]), by go_grown⟩

theorem cells_same {W w1 : World} (hb : Below W.heap.size W w1) : (∀ b o, b < W.heap.size → w1.cell? ⟨b, o, none⟩ = W.cell? ⟨b, o, none⟩) ∧ (∀ b o, b < W.heap.size → w1.frozen? ⟨b, o, none⟩ = W.frozen? ⟨b, o, none⟩) :=
  ⟨fun _ _ h => hb.cell h, fun _ _ h => hb.frozen h⟩

/-- of two: the one ahead -/
def orderZ (i d j e : Int) : Int := if nearB i d j e = true then -1 else if nearB j e i d = true then 1 else 0

theorem order (i d j e : Int) (v u : Value) (w : World) :
    Calls Try.prog 92 #[.agg #[.int .u64 i, .int .u64 d, v], .agg #[.int .u64 j, .int .u64 e, u]] w fun r w' => r = .returned (.int .i64 (orderZ i d j e)) ∧ Below w.heap.size w w' := by
  have N1 := Lib.hid (fun W => nearer i d j e v u W)
  have N2 := Lib.hid (fun W => nearer j e i d u v W)
  have E := Lib.hid (show orderZ i d j e = if nearB i d j e = true then -1 else if nearB j e i d = true then 1 else 0 from rfl)
  generalize orderZ i d j e = x at *
  generalize nearB i d j e = p at *
  generalize nearB j e i d = q at *
  go_enter Try.func92, Try.ntmps92
  go_wp2_with fail
  have hb0 : Below w.heap.size w ((w.alloc (.cells #[.int .u64 i, .int .u64 d, v] 45)).alloc (.cells #[.int .u64 j, .int .u64 e, u] 45)) := ((Below.refl _ _).alloc (Nat.le_refl _) _).alloc (by simp) _
  have B0 := Lib.hid hb0
  clear hb0
  refine (N1.out _).mono ?_
  rintro r w1 ⟨rfl, hb1⟩
  obtain ⟨hc, hf⟩ := cells_same hb1
  have B1 := Lib.hid (B0.out.trans (hb1.mono B0.out.size))
  clear hb1
  cases p
  · go_wp2_with fail
    refine (N2.out _).mono ?_
    rintro r w2 ⟨rfl, hb2⟩
    have B2 := Lib.hid (B1.out.trans (hb2.mono B1.out.size))
    clear hb2
    cases q
    all_goals
      go_wp2_with fail
      go_ret
      exact ⟨ret_int (by rw [E.out]; rfl), B2.out⟩
  · go_wp2_with fail
    go_ret
    exact ⟨ret_int (by rw [E.out]; rfl), B1.out⟩

theorem clone (xs : List Int) (v : Value) (w : World) (h : Nums w .i32 v xs) (hr : xs.length ≤ 1000000) :
    Calls Try.prog 17 #[v] w (NewNums w .i32 21 xs) := by
  obtain ⟨p, cap, rfl, h1, h2, h3, h4⟩ := h.slice
  obtain ⟨i0, hi, hz0, hz1, hz2⟩ := info_parts infoI32
  have H := Lib.hid h
  have R := Lib.hid hr
  clear h4 hr h
  have qN : ∀ (w : World) (a : Option Addr) (n c : Nat), (binOp .eql 23 (.slice a n c) (.slice none 0 0)).run Try.prog w = .ok (.bool a.isNone) w := fun w a n c => Lib.run_eql_slice_nil w _ _ a n c 0 0 Try.underlying23
  cases p with
  | none =>
    obtain rfl := h3 rfl
    have hl : xs = [] := List.eq_nil_of_length_eq_zero (by omega)
    subst hl
    clear h1 h2 h3
    go_enter Try.func17, Try.ntmps17
    go_wp2_with fail
    go_ret
    exact ⟨_, rfl, World.ownsRow_nil _ _ _ _, Below.refl _ _⟩
  | some a =>
    have key : ∀ w1 : World, Below w.heap.size w w1 → ∀ j u, (xs.map (Value.int .i32))[j]? = some u → w1.cell? (a.add j) = some u := by
      intro w1 hb j u hj
      rw [List.getElem?_map, Option.map_eq_some_iff] at hj
      obtain ⟨x, hx, rfl⟩ := hj
      obtain ⟨hj', rfl⟩ := List.getElem?_eq_some_iff.1 hx
      obtain ⟨b, off, hp, hc⟩ := (H.out.below hb).elem hj'
      simp only [Option.some.injEq] at hp
      subst hp
      rw [Addr.add_lit]; exact hc
    have K := Lib.hid key
    clear key h3
    go_enter Try.func17, Try.ntmps17
    go_wp2_with (at_builtin; refine wpList_append_own _ rfl _ _ 23 rfl w.heap.size 21 i0 (.int .i32 0) 1 4 Try.underlying23 hi hz0 hz1 hz2 rfl (by decide) _ 0 [] rfl (by exact ⟨rfl, .inr ⟨_, _, #[], rfl, Nat.le_refl _, heap_alloc_new _ _, Nat.le_refl _, by simp [maxLen], rfl, rfl⟩⟩) a xs.length cap (xs.map (Value.int .i32)) rfl (by simp <;> omega) (by exact K.out _ ((Below.refl _ _).alloc (Nat.le_refl _) _)) ints_one (by simp [maxLen]; have := R.out; omega) (by have := R.out; omega) (by simp) ?_)
    intro v' w1 hown hg _
    go_wp2
    go_ret
    exact ⟨v', rfl, by simpa using hown, ((Below.refl _ _).alloc (Nat.le_refl _) _).grown hg (by simp) (by simp [Value.ownBlock])⟩

theorem results_cell_mid {P : Program} {fn : Func} {p : Tmp} {ty : TypeId} (h : fn.results = #[.cell p ty]) (tmps : Array Value) (w : World) (g o : Nat) (cs : List Value) (d : TypeDesc)
    (hp : tmps.getD p undef = .pointer (some ⟨g, o, none⟩)) (hc : w.rangeAt g o cs) (hu : P.underlying ty = some d) (hd : d.isRow = true) (hi : (P.info? ty).map (·.size) = some cs.length) :
    (results fn tmps).run P w = .ok (.agg cs.toArray) w := by
  have hp' : tmps[p]?.getD undef = .pointer (some ⟨g, o, none⟩) := by simpa using hp
  simp [results, h, hp', asAddr, run_loadVar_mid w g o ty cs d hc hu hd hi]

theorem below_frozen {w w' : World} (hb : Below w.heap.size w w') {a : Addr} (ha : a.block < w.heap.size) (h : w.frozen? a = false) : w'.frozen? a = false := by
  rw [World.frozen?_of_block (hb.block _ ha)]; exact h

/-- a hit that is new: its vector is the call's own -/
def NewHit (w : World) (e : Nat) (h : Hz) (r : Ending) (w' : World) : Prop :=
  ∃ u, r = .returned (.agg #[.int .u64 h.id, .int .u64 h.dist, u]) ∧ w'.ownsRow w.heap.size e 1 u h.vec.length (h.vec.map (Value.int .i32)) ∧ Below w.heap.size w w'

def NewHitAt (w : World) (e : Nat) (h : Hz) (u : Value) (w' : World) : Prop :=
  w'.ownsRow w.heap.size e 1 u h.vec.length (h.vec.map (Value.int .i32)) ∧ Below w.heap.size w w' ∧ w'.rangeAt (w.heap.size + 1) 0 [.int .u64 h.id, .int .u64 h.dist, u]

theorem copyOf (h : Hz) (v : Value) (w : World) (hv : Nums w .i32 v h.vec) (hr : h.vec.length ≤ 1000000) :
    Calls Try.prog 61 #[.agg #[.int .u64 h.id, .int .u64 h.dist, v]] w (NewHit w 21 h) := by
  obtain ⟨p, cap, rfl, -, -, -, -⟩ := hv.slice
  have H := Lib.hid hv
  clear hv
  go_enter Try.func61, Try.ntmps61
  go_wp2_with fail
  have G := Lib.hid (((Below.refl w.heap.size w).alloc (Nat.le_refl _) (Obj.cells #[Value.int IntKind.u64 h.id, Value.int IntKind.u64 h.dist, Value.slice p h.vec.length cap] 45)).alloc (by simp) (Obj.cells #[Value.int IntKind.u64 0, Value.int IntKind.u64 0, Value.slice none 0 0] 45))
  refine (clone h.vec _ _ (H.out.below G.out) hr).mono ?_
  rintro e w' ⟨u, rfl, hown, hb⟩
  have c0 := below_cells hb (a := ⟨w.heap.size, 0, none⟩) (v := .int .u64 h.id) (by go_simp)
  have c1 := below_cells hb (a := ⟨w.heap.size, 1, none⟩) (v := .int .u64 h.dist) (by go_simp)
  have c2 := below_cells hb (a := ⟨w.heap.size, 2, none⟩) (v := .slice p h.vec.length cap) (by go_simp)
  have d0 := below_cells hb (a := ⟨w.heap.size + 1, 0, none⟩) (v := .int .u64 0) (by go_simp)
  have d1 := below_cells hb (a := ⟨w.heap.size + 1, 1, none⟩) (v := .int .u64 0) (by go_simp)
  have d2 := below_cells hb (a := ⟨w.heap.size + 1, 2, none⟩) (v := .slice none 0 0) (by go_simp)
  have f2 := below_frozen hb (a := ⟨w.heap.size, 2, none⟩) (by simp; omega) (by go_simp)
  have e0 := below_frozen hb (a := ⟨w.heap.size + 1, 0, none⟩) (by simp) (by go_simp)
  have e1 := below_frozen hb (a := ⟨w.heap.size + 1, 1, none⟩) (by simp) (by go_simp)
  have e2 := below_frozen hb (a := ⟨w.heap.size + 1, 2, none⟩) (by simp) (by go_simp)
  obtain ⟨q, m, k, rfl⟩ := own_form hown
  have O := Lib.hid (And.intro hown hb)
  clear hown hb
  go_wp2_with fail
  have F : NewHitAt w 21 h (.slice q m k) ((((w'.setCell ⟨w.heap.size, 2, none⟩ (.slice q m k)).setCell ⟨w.heap.size + 1, 0, none⟩ (.int .u64 h.id)).setCell ⟨w.heap.size + 1, 1, none⟩ (.int .u64 h.dist)).setCell ⟨w.heap.size + 1, 2, none⟩ (.slice q m k)) := by
    have hlt : ∀ b, (Value.slice q m k).ownBlock = some b → w.heap.size + 2 ≤ b := fun b hb => by have := (O.out.1.lt b hb).1; simpa using this
    refine ⟨?_, ?_, ?_⟩
    · have h1 := own_mono O.out.1 (base' := w.heap.size) (by simp; omega)
      refine ownsRow_setCell_other (ownsRow_setCell_other (ownsRow_setCell_other (ownsRow_setCell_other h1 ?_ _) ?_ _) ?_ _) ?_ _
      all_goals exact fun e => by have := hlt _ e; dsimp only at this; omega
    · exact (((((G.out.trans (O.out.2.mono G.out.size)).setCell (by simp) _).setCell (by simp) _).setCell (by simp) _).setCell (by simp) _)
    · have x0 : (w'.setCell ⟨w.heap.size, 2, none⟩ (.slice q m k)).cell? ⟨w.heap.size + 1, 0, none⟩ = some (.int .u64 0) := by rw [World.cell?_setCell_other _ _ _ _ (by simp)]; exact d0
      have x1 : ((w'.setCell ⟨w.heap.size, 2, none⟩ (.slice q m k)).setCell ⟨w.heap.size + 1, 0, none⟩ (.int .u64 h.id)).cell? ⟨w.heap.size + 1, 1, none⟩ = some (.int .u64 0) := by
        rw [World.cell?_setCell_other _ _ _ _ (by simp), World.cell?_setCell_other _ _ _ _ (by simp)]; exact d1
      have x2 : (((w'.setCell ⟨w.heap.size, 2, none⟩ (.slice q m k)).setCell ⟨w.heap.size + 1, 0, none⟩ (.int .u64 h.id)).setCell ⟨w.heap.size + 1, 1, none⟩ (.int .u64 h.dist)).cell? ⟨w.heap.size + 1, 2, none⟩ = some (.slice none 0 0) := by
        rw [World.cell?_setCell_other _ _ _ _ (by simp), World.cell?_setCell_other _ _ _ _ (by simp), World.cell?_setCell_other _ _ _ _ (by simp)]; exact d2
      intro j v hj
      match j, hj with
      | 0, hj => rw [World.cell?_setCell_other _ _ _ _ (by simp), World.cell?_setCell_other _ _ _ _ (by simp), World.cell?_setCell_same _ _ _ x0]; simpa using hj
      | 1, hj => rw [World.cell?_setCell_other _ _ _ _ (by simp), World.cell?_setCell_same _ _ _ x1]; simpa using hj
      | 2, hj => rw [World.cell?_setCell_same _ _ _ x2]; simpa using hj
      | (n + 3), hj => simp at hj
  clear c0 c1 c2 d0 d1 d2 f2 e0 e1 e2
  generalize (((w'.setCell ⟨w.heap.size, 2, none⟩ (.slice q m k)).setCell ⟨w.heap.size + 1, 0, none⟩ (.int .u64 h.id)).setCell ⟨w.heap.size + 1, 1, none⟩ (.int .u64 h.dist)).setCell ⟨w.heap.size + 1, 2, none⟩ (.slice q m k) = W3 at *
  refine bodyPost_ret (results_cell_mid (p := 2) (by kernel_rfl) _ W3 (w.heap.size + 1) 0 [.int .u64 h.id, .int .u64 h.dist, .slice q m k] _ (by rfl) F.2.2 Try.underlying45 rfl (by kernel_rfl)) rfl ?_
  exact ⟨_, rfl, F.1, F.2.1⟩

end Go.Proofs.Ytpjbkaibgajpcaa
