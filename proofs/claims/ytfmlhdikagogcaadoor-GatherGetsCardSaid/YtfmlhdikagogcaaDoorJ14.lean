/-
  gather: a question; the looks to those that have not told.
-/
import Derived.Test.YtfmlhdikagogcaaDoorJ11
import Derived.Test.YtfmlhdikagogcaaDoorJ13
namespace Go.Proofs.YtfmlhdikagogcaaDoor
open Go.RowKit
set_option maxRecDepth 20000

/-- a question under way -/
structure Qs where
  note : Nt
  who : Int
  query : Int
  parts : List Int
  told : List (Int × List Hz)

def Qs.cells (q : Qs) (vp vo vv vh pv : Value) (mb : Nat) : List Value := (q.note.cells vp vo vv vh).toList ++ [.int .i64 q.who, .int .u64 q.query, pv, .map (some mb)]

/-- what is told, as it lies in a map -/
def ToldF (w : World) (R : Nat → Prop) (L : List (Int × Value)) (t : List (Int × List Hz)) : Prop :=
  L.length = t.length ∧ ∀ i (h1 : i < L.length) (h2 : i < t.length), L[i].1 = t[i].1 ∧ HitsF w R L[i].2 t[i].2

/-- has p told? -/
def hasTold (t : List (Int × List Hz)) (p : Int) : Bool := t.any fun x => x.1 == p

theorem ToldF.agree {w w' : World} {R : Nat → Prop} {L : List (Int × Value)} {t : List (Int × List Hz)} (h : ToldF w R L t) (ha : Agree R w w') : ToldF w' R L t :=
  ⟨h.1, fun i h1 h2 => ⟨(h.2 i h1 h2).1, (h.2 i h1 h2).2.agree ha⟩⟩

theorem ToldF.below {w w' : World} {R : Nat → Prop} {L : List (Int × Value)} {t : List (Int × List Hz)} (h : ToldF w R L t) (hb : Below w.heap.size w w') : ToldF w' R L t :=
  ⟨h.1, fun i h1 h2 => ⟨(h.2 i h1 h2).1, (h.2 i h1 h2).2.below hb⟩⟩

theorem ToldF.mono {w : World} {R G : Nat → Prop} {L : List (Int × Value)} {t : List (Int × List Hz)} (h : ToldF w R L t) (hs : ∀ k, R k → G k) : ToldF w G L t :=
  ⟨h.1, fun i h1 h2 => ⟨(h.2 i h1 h2).1, (h.2 i h1 h2).2.mono hs⟩⟩

theorem told_get {w : World} {R : Nat → Prop} {L : List (Int × Value)} {t : List (Int × List Hz)} (h : ToldF w R L t) (p : Int) :
    (hasTold t p = false ∧ getK L p = none) ∨ (hasTold t p = true ∧ ∃ v x, getK L p = some v ∧ x ∈ t ∧ x.1 = p ∧ (t.find? fun x => x.1 == p) = some x ∧ HitsF w R v x.2) := by
  obtain ⟨h1, h2⟩ := h
  induction L generalizing t with
  | nil =>
    cases t with
    | nil => exact .inl ⟨rfl, rfl⟩
    | cons y t => simp at h1
  | cons a L ih =>
    cases t with
    | nil => simp at h1
    | cons y t =>
      have h0 := h2 0 (by simp) (by simp)
      simp only [List.getElem_cons_zero] at h0
      by_cases hp : y.1 = p
      · right
        have ha : a.1 = p := h0.1.trans hp
        refine ⟨by simp [hasTold, hp], a.2, y, by simp [getK, ha], by simp, hp, by simp [hp], h0.2⟩
      · have ha : ¬ a.1 = p := fun e => hp (h0.1.symm.trans e)
        have := ih (t := t) (by simpa using h1) (fun i h3 h4 => by have := h2 (i + 1) (by simp; omega) (by simp; omega); simpa using this)
        rcases this with ⟨a1, a2⟩ | ⟨a1, v, x, a2, a3, a4, a5, a6⟩
        · left
          refine ⟨?_, ?_⟩
          · simp only [hasTold, List.any_cons] at a1 ⊢; rw [a1]; simp [hp]
          · unfold getK at a2 ⊢; rw [List.find?_cons_of_neg (by simpa using ha)]; exact a2
        · right
          refine ⟨?_, v, x, ?_, by simp [a3], a4, ?_, a6⟩
          · simp only [hasTold, List.any_cons] at a1 ⊢; rw [a1]; simp
          · unfold getK at a2 ⊢; rw [List.find?_cons_of_neg (by simpa using ha)]; exact a2
          · rw [List.find?_cons_of_neg (by simpa using hp)]; exact a5

/-- a question as it lies: at b; what was told at mb; all else is read from R -/
structure QAt (w : World) (R : Nat → Prop) (b mb : Nat) (q : Qs) (vp vo vv vh pv : Value) : Prop where
  cells : ∀ j u, (q.cells vp vo vv vh pv mb)[j]? = some u → w.cell? ⟨b, j, none⟩ = some u
  obj : ∃ ca ta, w.heap[b]? = some (.cells ca ta (0, 0))
  own : R b
  note : NoteM w R q.note vp vo vv vh
  parts : Nums w .i64 pv q.parts
  lies : LiesIn R pv q.parts.length
  empty : q.note.parts = [] ∧ q.note.ops = [] ∧ q.note.hits = []
  told : ∃ L, MapAt w (Value.int .i64) mb L ∧ ToldF w R L q.told

theorem QAt.below {w w' : World} {R : Nat → Prop} {b mb : Nat} {q : Qs} {vp vo vv vh pv : Value} (h : QAt w R b mb q vp vo vv vh pv) (hb : Below w.heap.size w w') : QAt w' R b mb q vp vo vv vh pv := by
  obtain ⟨L, h1, h2⟩ := h.told
  exact ⟨fun j u hj => below_cells hb (h.cells j u hj), by obtain ⟨ca, ta, ho⟩ := h.obj; exact ⟨ca, ta, (hb.block b (Array.getElem?_eq_some_iff.1 ho).1).trans ho⟩, h.own, h.note.below hb, h.parts.below hb, h.lies, h.empty, L, h1.kept (hb.block mb h1.lt), h2.below hb⟩

/-- what is asked of those that have not told -/
def looksZ (q : Qs) : List (Int × Nt) := (q.parts.filter fun p => !hasTold q.told p).map fun p => (p, q.note)

theorem looks_take (q : Qs) (k : Nat) (hk : k < q.parts.length) : looksZ {q with parts := q.parts.take (k + 1)} = looksZ {q with parts := q.parts.take k} ++ (if hasTold q.told q.parts[k] then [] else [(q.parts[k], q.note)]) := by
  unfold looksZ
  simp only [List.take_succ_eq_append_getElem hk, List.filter_append, List.map_append]
  congr 1
  cases h : hasTold q.told q.parts[k] <;> simp [h]

theorem rowMail : RowTy Tryd.prog 30 44 17 200 (.agg #[.int .i64 0, .int .u8 0, .int .u64 0, .int .u64 0, .int .u64 0, .int .u64 0, .int .u64 0, .int .u64 0, .int .u64 0, .int .i64 0, .int .i64 0, .int .i64 0, .int .i64 0, .slice none 0 0, .slice none 0 0, .slice none 0 0, .slice none 0 0]) := ⟨Tryd.underlying30, by kernel_rfl, rfl, by decide⟩

end Go.Proofs.YtfmlhdikagogcaaDoor
