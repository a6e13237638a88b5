/-
  best: which of two goes ahead; a vector, a hit are copied.
  gather: a question; the looks to those that have not told.
-/
import Derived.Test.YtfmlhdikagogcaaDoorJ02
import Derived.Test.YtfmlhdikagogcaaDoorJ11
namespace Go.Proofs.YtfmlhdikagogcaaDoor
open Go.RowKit
set_option maxRecDepth 20000

/-- a hit, but its vector: its ID and how far it is -/
def nearB (i d j e : Int) : Bool := decide (d < e) || (decide (d = e) && decide (i < j))

theorem nearer (i d j e : Int) (v u : Value) (w : World) :
    Calls Tryd.prog 80 #[.agg #[.int .u64 i, .int .u64 d, v], .agg #[.int .u64 j, .int .u64 e, u]] w fun r w' => r = .returned (.bool (nearB i d j e)) ∧ Below w.heap.size w w' := by
  by_cases h1 : d < e
  · go_enter Tryd.func80, Tryd.ntmps80
    go_wp2
    go_ret
    exact ⟨ret_bool (by simp [nearB, h1]), by go_grown⟩
  · have hd : decide (d < e) = false := by simp; omega
    by_cases h2 : d = e
    · have hde : (d == e) = true := by simp [h2]
      have E := Lib.hid h2
      clear h2
      go_enter Tryd.func80, Tryd.ntmps80
      go_wp2
      go_ret
      exact ⟨ret_bool (by have := E.out; simp [nearB, this]), by go_grown⟩
    · have hde : (d == e) = false := by simp [h2]
      go_enter Tryd.func80, Tryd.ntmps80
      go_wp2
      go_ret
      exact ⟨ret_bool (by simp [nearB, h1, h2]), by go_grown⟩

theorem refNearer (i d j e : Int) (v u : Value) (w : World) :
    Calls Tryd.prog 36 #[.agg #[.int .u64 i, .int .u64 d, v], .agg #[.int .u64 j, .int .u64 e, u]] w fun r w' => r = .returned (.bool (nearB i d j e)) ∧ Below w.heap.size w w' := by
  by_cases h2 : d = e
  · have hde : (d != e) = false := by simp [h2]
    have E := Lib.hid h2
    clear h2
    go_enter Tryd.func36, Tryd.ntmps36
    go_wp2
    go_ret
    exact ⟨ret_bool (by have := E.out; simp [nearB, this]), by go_grown⟩
  · have hde : (d != e) = true := by simp [h2]
    go_enter Tryd.func36, Tryd.ntmps36
    go_wp2
    go_ret
    exact ⟨ret_bool (by simp [nearB, h2]), by go_grown⟩

theorem cells_same {W w1 : World} (hb : Below W.heap.size W w1) : (∀ b o, b < W.heap.size → w1.cell? ⟨b, o, none⟩ = W.cell? ⟨b, o, none⟩) ∧ (∀ b o, b < W.heap.size → w1.frozen? ⟨b, o, none⟩ = W.frozen? ⟨b, o, none⟩) :=
  ⟨fun _ _ h => hb.cell h, fun _ _ h => hb.frozen h⟩

/-- of two: the one ahead -/
def orderZ (i d j e : Int) : Int := if nearB i d j e = true then -1 else if nearB j e i d = true then 1 else 0

theorem order (i d j e : Int) (v u : Value) (w : World) :
    Calls Tryd.prog 82 #[.agg #[.int .u64 i, .int .u64 d, v], .agg #[.int .u64 j, .int .u64 e, u]] w fun r w' => r = .returned (.int .i64 (orderZ i d j e)) ∧ Below w.heap.size w w' := by
  have N1 := Lib.hid (fun W => nearer i d j e v u W)
  have N2 := Lib.hid (fun W => nearer j e i d u v W)
  have E := Lib.hid (show orderZ i d j e = if nearB i d j e = true then -1 else if nearB j e i d = true then 1 else 0 from rfl)
  generalize orderZ i d j e = x at *
  generalize nearB i d j e = p at *
  generalize nearB j e i d = q at *
  go_enter Tryd.func82, Tryd.ntmps82
  go_wp2_with fail
  have hb0 : Below w.heap.size w ((w.alloc (.cells #[.int .u64 i, .int .u64 d, v] 40)).alloc (.cells #[.int .u64 j, .int .u64 e, u] 40)) := ((Below.refl _ _).alloc (Nat.le_refl _) _).alloc (by simp) _
  have B0 := Lib.hid hb0
  clear hb0
  refine (N1.out _).mono ?_
  rintro r w1 ⟨rfl, hb1⟩
  obtain ⟨hc, hf⟩ := cells_same hb1
  have B1 := Lib.hid (B0.out.trans (hb1.mono B0.out.size))
  clear hb1
  cases p
  · go_wp2_with fail
    refine (N2.out _).mono ?_
    rintro r w2 ⟨rfl, hb2⟩
    have B2 := Lib.hid (B1.out.trans (hb2.mono B1.out.size))
    clear hb2
    cases q
    all_goals
      go_wp2_with fail
      go_ret
      exact ⟨ret_int (by rw [E.out]; rfl), B2.out⟩
  · go_wp2_with fail
    go_ret
    exact ⟨ret_int (by rw [E.out]; rfl), B1.out⟩

theorem clone (xs : List Int) (v : Value) (w : World) (h : Nums w .i32 v xs) (hr : xs.length ≤ 1000000) :
    Calls Tryd.prog 33 #[v] w (NewNums w .i32 21 xs) := by
  obtain ⟨p, cap, rfl, h1, h2, h3, h4⟩ := h.slice
  obtain ⟨i0, hi, hz0, hz1, hz2⟩ := info_parts infoI32
  have H := Lib.hid h
  have R := Lib.hid hr
  clear h4 hr h
  have qN : ∀ (w : World) (a : Option Addr) (n c : Nat), (binOp .eql 32 (.slice a n c) (.slice none 0 0)).run Tryd.prog w = .ok (.bool a.isNone) w := fun w a n c => Lib.run_eql_slice_nil w _ _ a n c 0 0 Tryd.underlying32
  cases p with
  | none =>
    obtain rfl := h3 rfl
    have hl : xs = [] := List.eq_nil_of_length_eq_zero (by omega)
    subst hl
    clear h1 h2 h3
    go_enter Tryd.func33, Tryd.ntmps33
    go_wp2_with fail
    go_ret
    exact ⟨_, rfl, World.ownsRow_nil _ _ _ _, Below.refl _ _⟩
  | some a =>
    have key : ∀ w1 : World, Below w.heap.size w w1 → ∀ j u, (xs.map (Value.int .i32))[j]? = some u → w1.cell? (a.add j) = some u := by
      intro w1 hb j u hj
      rw [List.getElem?_map, Option.map_eq_some_iff] at hj
      obtain ⟨x, hx, rfl⟩ := hj
      obtain ⟨hj', rfl⟩ := List.getElem?_eq_some_iff.1 hx
      obtain ⟨b, off, hp, hc⟩ := (H.out.below hb).elem hj'
      simp only [Option.some.injEq] at hp
      subst hp
      rw [Addr.add_lit]; exact hc
    have K := Lib.hid key
    clear key h3
    go_enter Tryd.func33, Tryd.ntmps33
    go_wp2_with (at_builtin; refine wpList_append_own _ rfl _ _ 32 rfl w.heap.size 21 i0 (.int .i32 0) 1 4 Tryd.underlying32 hi hz0 hz1 hz2 rfl (by decide) _ 0 [] rfl (by exact ⟨rfl, .inr ⟨_, _, #[], rfl, Nat.le_refl _, heap_alloc_new _ _, Nat.le_refl _, by simp [maxLen], rfl, rfl⟩⟩) a xs.length cap (xs.map (Value.int .i32)) rfl (by simp <;> omega) (by exact K.out _ ((Below.refl _ _).alloc (Nat.le_refl _) _)) ints_one (by simp [maxLen]; have := R.out; omega) (by have := R.out; omega) (by simp) ?_)
    intro v' w1 hown hg _
    go_wp2
    go_ret
    exact ⟨v', rfl, by simpa using hown, ((Below.refl _ _).alloc (Nat.le_refl _) _).grown hg (by simp) (by simp [Value.ownBlock])⟩

theorem results_cell_mid {P : Program} {fn : Func} {p : Tmp} {ty : TypeId} (h : fn.results = #[.cell p ty]) (tmps : Array Value) (w : World) (g o : Nat) (cs : List Value) (d : TypeDesc)
    (hp : tmps.getD p undef = .pointer (some ⟨g, o, none⟩)) (hc : w.rangeAt g o cs) (hu : P.underlying ty = some d) (hd : d.isRow = true) (hi : (P.info? ty).map (·.size) = some cs.length) :
    (results fn tmps).run P w = .ok (.agg cs.toArray) w := by
  have hp' : tmps[p]?.getD undef = .pointer (some ⟨g, o, none⟩) := by simpa using hp
  simp [results, h, hp', asAddr, run_loadVar_mid w g o ty cs d hc hu hd hi]

theorem below_frozen {w w' : World} (hb : Below w.heap.size w w') {a : Addr} (ha : a.block < w.heap.size) (h : w.frozen? a = false) : w'.frozen? a = false := by
  rw [World.frozen?_of_block (hb.block _ ha)]; exact h

/-- a hit that is new: its vector is the call's own -/
def NewHit (w : World) (e : Nat) (h : Hz) (r : Ending) (w' : World) : Prop :=
  ∃ u, r = .returned (.agg #[.int .u64 h.id, .int .u64 h.dist, u]) ∧ w'.ownsRow w.heap.size e 1 u h.vec.length (h.vec.map (Value.int .i32)) ∧ Below w.heap.size w w'

def NewHitAt (w : World) (e : Nat) (h : Hz) (u : Value) (w' : World) : Prop :=
  w'.ownsRow w.heap.size e 1 u h.vec.length (h.vec.map (Value.int .i32)) ∧ Below w.heap.size w w' ∧ w'.rangeAt (w.heap.size + 1) 0 [.int .u64 h.id, .int .u64 h.dist, u]

theorem copyOf (h : Hz) (v : Value) (w : World) (hv : Nums w .i32 v h.vec) (hr : h.vec.length ≤ 1000000) :
    Calls Tryd.prog 70 #[.agg #[.int .u64 h.id, .int .u64 h.dist, v]] w (NewHit w 21 h) := by
  obtain ⟨p, cap, rfl, -, -, -, -⟩ := hv.slice
  have H := Lib.hid hv
  clear hv
  go_enter Tryd.func70, Tryd.ntmps70
  go_wp2_with fail
  have G := Lib.hid (((Below.refl w.heap.size w).alloc (Nat.le_refl _) (Obj.cells #[Value.int IntKind.u64 h.id, Value.int IntKind.u64 h.dist, Value.slice p h.vec.length cap] 40)).alloc (by simp) (Obj.cells #[Value.int IntKind.u64 0, Value.int IntKind.u64 0, Value.slice none 0 0] 40))
  refine (clone h.vec _ _ (H.out.below G.out) hr).mono ?_
  rintro e w' ⟨u, rfl, hown, hb⟩
  have c0 := below_cells hb (a := ⟨w.heap.size, 0, none⟩) (v := .int .u64 h.id) (by go_simp)
  have c1 := below_cells hb (a := ⟨w.heap.size, 1, none⟩) (v := .int .u64 h.dist) (by go_simp)
  have c2 := below_cells hb (a := ⟨w.heap.size, 2, none⟩) (v := .slice p h.vec.length cap) (by go_simp)
  have d0 := below_cells hb (a := ⟨w.heap.size + 1, 0, none⟩) (v := .int .u64 0) (by go_simp)
  have d1 := below_cells hb (a := ⟨w.heap.size + 1, 1, none⟩) (v := .int .u64 0) (by go_simp)
  have d2 := below_cells hb (a := ⟨w.heap.size + 1, 2, none⟩) (v := .slice none 0 0) (by go_simp)
  have f2 := below_frozen hb (a := ⟨w.heap.size, 2, none⟩) (by simp; omega) (by go_simp)
  have e0 := below_frozen hb (a := ⟨w.heap.size + 1, 0, none⟩) (by simp) (by go_simp)
  have e1 := below_frozen hb (a := ⟨w.heap.size + 1, 1, none⟩) (by simp) (by go_simp)
  have e2 := below_frozen hb (a := ⟨w.heap.size + 1, 2, none⟩) (by simp) (by go_simp)
  obtain ⟨q, m, k, rfl⟩ := own_form hown
  have O := Lib.hid (And.intro hown hb)
  clear hown hb
  go_wp2_with fail
  have F : NewHitAt w 21 h (.slice q m k) ((((w'.setCell ⟨w.heap.size, 2, none⟩ (.slice q m k)).setCell ⟨w.heap.size + 1, 0, none⟩ (.int .u64 h.id)).setCell ⟨w.heap.size + 1, 1, none⟩ (.int .u64 h.dist)).setCell ⟨w.heap.size + 1, 2, none⟩ (.slice q m k)) := by
    have hlt : ∀ b, (Value.slice q m k).ownBlock = some b → w.heap.size + 2 ≤ b := fun b hb => by have := (O.out.1.lt b hb).1; simpa using this
    refine ⟨?_, ?_, ?_⟩
    · have h1 := own_mono O.out.1 (base' := w.heap.size) (by simp; omega)
      refine ownsRow_setCell_other (ownsRow_setCell_other (ownsRow_setCell_other (ownsRow_setCell_other h1 ?_ _) ?_ _) ?_ _) ?_ _
      all_goals exact fun e => by have := hlt _ e; dsimp only at this; omega
    · exact (((((G.out.trans (O.out.2.mono G.out.size)).setCell (by simp) _).setCell (by simp) _).setCell (by simp) _).setCell (by simp) _)
    · have x0 : (w'.setCell ⟨w.heap.size, 2, none⟩ (.slice q m k)).cell? ⟨w.heap.size + 1, 0, none⟩ = some (.int .u64 0) := by rw [World.cell?_setCell_other _ _ _ _ (by simp)]; exact d0
      have x1 : ((w'.setCell ⟨w.heap.size, 2, none⟩ (.slice q m k)).setCell ⟨w.heap.size + 1, 0, none⟩ (.int .u64 h.id)).cell? ⟨w.heap.size + 1, 1, none⟩ = some (.int .u64 0) := by
        rw [World.cell?_setCell_other _ _ _ _ (by simp), World.cell?_setCell_other _ _ _ _ (by simp)]; exact d1
      have x2 : (((w'.setCell ⟨w.heap.size, 2, none⟩ (.slice q m k)).setCell ⟨w.heap.size + 1, 0, none⟩ (.int .u64 h.id)).setCell ⟨w.heap.size + 1, 1, none⟩ (.int .u64 h.dist)).cell? ⟨w.heap.size + 1, 2, none⟩ = some (.slice none 0 0) := by
        rw [World.cell?_setCell_other _ _ _ _ (by simp), World.cell?_setCell_other _ _ _ _ (by simp), World.cell?_setCell_other _ _ _ _ (by simp)]; exact d2
      intro j v hj
      match j, hj with
      | 0, hj => rw [World.cell?_setCell_other _ _ _ _ (by simp), World.cell?_setCell_other _ _ _ _ (by simp), World.cell?_setCell_same _ _ _ x0]; simpa using hj
      | 1, hj => rw [World.cell?_setCell_other _ _ _ _ (by simp), World.cell?_setCell_same _ _ _ x1]; simpa using hj
      | 2, hj => rw [World.cell?_setCell_same _ _ _ x2]; simpa using hj
      | (n + 3), hj => simp at hj
  clear c0 c1 c2 d0 d1 d2 f2 e0 e1 e2
  generalize (((w'.setCell ⟨w.heap.size, 2, none⟩ (.slice q m k)).setCell ⟨w.heap.size + 1, 0, none⟩ (.int .u64 h.id)).setCell ⟨w.heap.size + 1, 1, none⟩ (.int .u64 h.dist)).setCell ⟨w.heap.size + 1, 2, none⟩ (.slice q m k) = W3 at *
  refine bodyPost_ret (results_cell_mid (p := 2) (by kernel_rfl) _ W3 (w.heap.size + 1) 0 [.int .u64 h.id, .int .u64 h.dist, .slice q m k] _ (by rfl) F.2.2 Tryd.underlying40 rfl (by kernel_rfl)) rfl ?_
  exact ⟨_, rfl, F.1, F.2.1⟩

end Go.Proofs.YtfmlhdikagogcaaDoor

namespace Go.Proofs.YtfmlhdikagogcaaDoor
open Go.RowKit
set_option maxRecDepth 20000

/-- a question under way -/
structure Qs where
  note : Nt
  who : Int
  query : Int
  parts : List Int
  told : List (Int × List Hz)

def Qs.cells (q : Qs) (vp vo vv vh pv : Value) (mb : Nat) : List Value := (q.note.cells vp vo vv vh).toList ++ [.int .i64 q.who, .int .u64 q.query, pv, .map (some mb)]

/-- what is told, as it lies in a map -/
def ToldF (w : World) (R : Nat → Prop) (L : List (Int × Value)) (t : List (Int × List Hz)) : Prop :=
  L.length = t.length ∧ ∀ i (h1 : i < L.length) (h2 : i < t.length), L[i].1 = t[i].1 ∧ HitsF w R L[i].2 t[i].2

/-- has p told? -/
def hasTold (t : List (Int × List Hz)) (p : Int) : Bool := t.any fun x => x.1 == p

theorem ToldF.agree {w w' : World} {R : Nat → Prop} {L : List (Int × Value)} {t : List (Int × List Hz)} (h : ToldF w R L t) (ha : Agree R w w') : ToldF w' R L t :=
  ⟨h.1, fun i h1 h2 => ⟨(h.2 i h1 h2).1, (h.2 i h1 h2).2.agree ha⟩⟩

theorem ToldF.below {w w' : World} {R : Nat → Prop} {L : List (Int × Value)} {t : List (Int × List Hz)} (h : ToldF w R L t) (hb : Below w.heap.size w w') : ToldF w' R L t :=
  ⟨h.1, fun i h1 h2 => ⟨(h.2 i h1 h2).1, (h.2 i h1 h2).2.below hb⟩⟩

theorem ToldF.mono {w : World} {R G : Nat → Prop} {L : List (Int × Value)} {t : List (Int × List Hz)} (h : ToldF w R L t) (hs : ∀ k, R k → G k) : ToldF w G L t :=
  ⟨h.1, fun i h1 h2 => ⟨(h.2 i h1 h2).1, (h.2 i h1 h2).2.mono hs⟩⟩

theorem told_get {w : World} {R : Nat → Prop} {L : List (Int × Value)} {t : List (Int × List Hz)} (h : ToldF w R L t) (p : Int) :
    (hasTold t p = false ∧ getK L p = none) ∨ (hasTold t p = true ∧ ∃ v x, getK L p = some v ∧ x ∈ t ∧ x.1 = p ∧ (t.find? fun x => x.1 == p) = some x ∧ HitsF w R v x.2) := by
  obtain ⟨h1, h2⟩ := h
  induction L generalizing t with
  | nil =>
    cases t with
    | nil => exact .inl ⟨rfl, rfl⟩
    | cons y t => simp at h1
  | cons a L ih =>
    cases t with
    | nil => simp at h1
    | cons y t =>
      have h0 := h2 0 (by simp) (by simp)
      simp only [List.getElem_cons_zero] at h0
      by_cases hp : y.1 = p
      · right
        have ha : a.1 = p := h0.1.trans hp
        refine ⟨by simp [hasTold, hp], a.2, y, by simp [getK, ha], by simp, hp, by simp [hp], h0.2⟩
      · have ha : ¬ a.1 = p := fun e => hp (h0.1.symm.trans e)
        have := ih (t := t) (by simpa using h1) (fun i h3 h4 => by have := h2 (i + 1) (by simp; omega) (by simp; omega); simpa using this)
        rcases this with ⟨a1, a2⟩ | ⟨a1, v, x, a2, a3, a4, a5, a6⟩
        · left
          refine ⟨?_, ?_⟩
          · simp only [hasTold, List.any_cons] at a1 ⊢; rw [a1]; simp [hp]
          · unfold getK at a2 ⊢; rw [List.find?_cons_of_neg (by simpa using ha)]; exact a2
        · right
          refine ⟨?_, v, x, ?_, by simp [a3], a4, ?_, a6⟩
          · simp only [hasTold, List.any_cons] at a1 ⊢; rw [a1]; simp
          · unfold getK at a2 ⊢; rw [List.find?_cons_of_neg (by simpa using ha)]; exact a2
          · rw [List.find?_cons_of_neg (by simpa using hp)]; exact a5

/-- a question as it lies: at b; what was told at mb; all else is read from R -/
structure QAt (w : World) (R : Nat → Prop) (b mb : Nat) (q : Qs) (vp vo vv vh pv : Value) : Prop where
  cells : ∀ j u, (q.cells vp vo vv vh pv mb)[j]? = some u → w.cell? ⟨b, j, none⟩ = some u
  obj : ∃ ca ta, w.heap[b]? = some (.cells ca ta (0, 0))
  own : R b
  note : NoteM w R q.note vp vo vv vh
  parts : Nums w .i64 pv q.parts
  lies : LiesIn R pv q.parts.length
  empty : q.note.parts = [] ∧ q.note.ops = [] ∧ q.note.hits = []
  told : ∃ L, MapAt w (Value.int .i64) mb L ∧ ToldF w R L q.told

theorem QAt.below {w w' : World} {R : Nat → Prop} {b mb : Nat} {q : Qs} {vp vo vv vh pv : Value} (h : QAt w R b mb q vp vo vv vh pv) (hb : Below w.heap.size w w') : QAt w' R b mb q vp vo vv vh pv := by
  obtain ⟨L, h1, h2⟩ := h.told
  exact ⟨fun j u hj => below_cells hb (h.cells j u hj), by obtain ⟨ca, ta, ho⟩ := h.obj; exact ⟨ca, ta, (hb.block b (Array.getElem?_eq_some_iff.1 ho).1).trans ho⟩, h.own, h.note.below hb, h.parts.below hb, h.lies, h.empty, L, h1.kept (hb.block mb h1.lt), h2.below hb⟩

/-- what is asked of those that have not told -/
def looksZ (q : Qs) : List (Int × Nt) := (q.parts.filter fun p => !hasTold q.told p).map fun p => (p, q.note)

theorem looks_take (q : Qs) (k : Nat) (hk : k < q.parts.length) : looksZ {q with parts := q.parts.take (k + 1)} = looksZ {q with parts := q.parts.take k} ++ (if hasTold q.told q.parts[k] then [] else [(q.parts[k], q.note)]) := by
  unfold looksZ
  simp only [List.take_succ_eq_append_getElem hk, List.filter_append, List.map_append]
  congr 1
  cases h : hasTold q.told q.parts[k] <;> simp [h]

theorem rowMail : RowTy Tryd.prog 30 44 17 200 (.agg #[.int .i64 0, .int .u8 0, .int .u64 0, .int .u64 0, .int .u64 0, .int .u64 0, .int .u64 0, .int .u64 0, .int .u64 0, .int .i64 0, .int .i64 0, .int .i64 0, .int .i64 0, .slice none 0 0, .slice none 0 0, .slice none 0 0, .slice none 0 0]) := ⟨Tryd.underlying30, by kernel_rfl, rfl, by decide⟩

end Go.Proofs.YtfmlhdikagogcaaDoor
