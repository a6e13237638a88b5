/-
  graph's document: Cut.
  graph: the program's graph and the document's (plain): Add, Bind, Link, Cut.
  graph: the program's graph and the document's (plain): each call says the same on both.
-/
import Derived.Test.YtpjbkaibgajpcaaJ37
import Derived.Test.YtpjbkaibgajpcaaJ14
import Derived.Test.YtpjbkaibgajpcaaJ36
namespace Go.Proofs.Ytpjbkaibgajpcaa
open Go.RowKit

end Go.Proofs.Ytpjbkaibgajpcaa

namespace Go.Proofs.Ytpjbkaibgajpcaa
open Go.RowKit

/-- what the program's graph says of the edge from x to y -/
def eQ (Q : Gr) (x y : Int) : Option Bool := (Q.find? fun q => decide (q.1 = x)).bind fun q => edgeO q.2.2 y

/-- what the document's says -/
def edgeD (E : Eg) (x y : Int) : Option Bool := (E.find? (isE (min x y) (max x y))).map (·.2.2)

/-- both say the same -/
structure Rel (Q : Gr) (N : List Int) (E : Eg) : Prop where
  keys : ∀ k, k ∈ Q.map (·.1) ↔ k ∈ N
  sorted : N.Pairwise (· < ·)
  edge : ∀ x y, eQ Q x y = edgeD E x y
  ends : ∀ e ∈ E, e.1 < e.2.1 ∧ e.1 ∈ N ∧ e.2.1 ∈ N
  once : E.Pairwise fun e f => ¬ (e.1 = f.1 ∧ e.2.1 = f.2.1)

/-- the same two -/
def Two (x y a b : Int) : Prop := (x = a ∧ y = b) ∨ (x = b ∧ y = a)
instance (x y a b : Int) : Decidable (Two x y a b) := inferInstanceAs (Decidable (_ ∨ _))

theorem two_iff {x y a b : Int} : Two x y a b ↔ min x y = min a b ∧ max x y = max a b := by
  unfold Two; omega

theorem isE_iff {lo hi : Int} {e : Int × Int × Bool} : isE lo hi e = true ↔ e.1 = lo ∧ e.2.1 = hi := by
  simp [isE]

theorem find_set (Q : Gr) (a x : Int) (f) : (setQ Q a f).find? (fun q => decide (q.1 = x)) = (Q.find? fun q => decide (q.1 = x)).map fun q => if q.1 = a then (q.1, q.2.1, f q.2.2) else q := by
  unfold setQ
  rw [List.find?_map]
  congr 1
  congr 1
  funext q
  simp only [Function.comp]
  split <;> rfl

theorem eQ_set (Q : Gr) (a x y : Int) (f) : eQ (setQ Q a f) x y = if x = a then (Q.find? fun q => decide (q.1 = x)).bind fun q => edgeO (f q.2.2) y else eQ Q x y := by
  unfold eQ
  rw [find_set]
  cases hf : Q.find? fun q => decide (q.1 = x) with
  | none => simp
  | some q =>
    have hq : q.1 = x := by simpa using List.find?_some hf
    simp only [Option.map_some, Option.bind_some, hq]
    split <;> rfl

theorem edgeO_put (E : List (Int × Bool)) (x y : Int) (v : Bool) : edgeO (putE E x v) y = if y = x then some v else edgeO E y := by
  unfold edgeO
  induction E with
  | nil =>
    by_cases h : y = x
    · simp [putE, h]
    · have h2 : ¬ x = y := fun e => h e.symm
      simp [putE, h, h2]
  | cons e E ih =>
    unfold putE
    by_cases hp : e.1 = x
    · rw [if_pos hp]
      by_cases h : y = x
      · simp [h]
      · have h2 : ¬ x = y := fun e => h e.symm
        have h3 : ¬ e.1 = y := by rw [hp]; exact h2
        simp [h, h2, h3]
    · rw [if_neg hp]
      by_cases h2 : e.1 = y
      · have h : ¬ y = x := fun e2 => hp (h2.trans e2)
        simp [h2, h]
      · simp only [List.find?_cons, h2, decide_false]
        exact ih

theorem edgeO_del (E : List (Int × Bool)) (x y : Int) : edgeO (delE E x) y = if y = x then none else edgeO E y := by
  unfold edgeO delE
  induction E with
  | nil => simp
  | cons e E ih =>
    rw [List.filter_cons]
    by_cases hp : e.1 = x
    · rw [if_neg (by simp [hp]), ih]
      by_cases h : y = x
      · simp [h]
      · have h3 : ¬ e.1 = y := fun e2 => h (e2.symm.trans hp)
        simp [h, h3]
    · rw [if_pos (by simp [hp])]
      by_cases h2 : e.1 = y
      · have h : ¬ y = x := fun e2 => hp (h2.trans e2)
        simp [h2, h]
      · simp only [List.find?_cons, h2, decide_false]
        exact ih

theorem hasB_iff {Q : Gr} {k : Int} : hasB Q k = true ↔ k ∈ Q.map (·.1) := by
  rw [hasB_mem, decide_eq_true_eq]

theorem find_node {Q : Gr} {k : Int} (h : k ∈ Q.map (·.1)) : ∃ q ∈ Q, q.1 = k ∧ Q.find? (fun q => decide (q.1 = k)) = some q := by
  obtain ⟨q, h1, h2, h3, -⟩ := getK_outer_some (hasB_iff.2 h)
  exact ⟨q, h1, h2, h3⟩

theorem eQ_join {Q : Gr} {a b : Int} (ha : a ∈ Q.map (·.1)) (hb : b ∈ Q.map (·.1)) (hab : a ≠ b) (v : Bool) (x y : Int) : eQ (joinQ Q a b v) x y = if Two x y a b then some v else eQ Q x y := by
  obtain ⟨qa, -, -, fa⟩ := find_node ha
  obtain ⟨qb, -, hqb, fb⟩ := find_node hb
  unfold joinQ
  rw [eQ_set]
  by_cases hxb : x = b
  · subst hxb
    rw [if_pos rfl, find_set, fb]
    have hxa : ¬ x = a := fun e => hab e.symm
    have : ¬ qb.1 = a := by rw [hqb]; exact hxa
    simp only [Option.map_some, Option.bind_some, this, if_false]
    rw [edgeO_put]
    unfold eQ
    rw [fb]
    by_cases hy : y = a
    · rw [if_pos hy, if_pos (show Two x y a x from .inr ⟨rfl, hy⟩)]
    · rw [if_neg hy, if_neg (show ¬ Two x y a x from fun h => by unfold Two at h; omega)]
      rfl
  · rw [if_neg hxb, eQ_set]
    by_cases hxa : x = a
    · subst hxa
      rw [if_pos rfl, fa]
      simp only [Option.bind_some]
      rw [edgeO_put]
      unfold eQ
      rw [fa]
      by_cases hy : y = b
      · rw [if_pos hy, if_pos (show Two x y x b from .inl ⟨rfl, hy⟩)]
      · rw [if_neg hy, if_neg (show ¬ Two x y x b from fun h => by unfold Two at h; omega)]
        rfl
    · rw [if_neg hxa, if_neg (show ¬ Two x y a b from fun h => by unfold Two at h; omega)]

theorem eQ_cut {Q : Gr} {a b : Int} (ha : a ∈ Q.map (·.1)) (hb : b ∈ Q.map (·.1)) (hab : a ≠ b) (x y : Int) : eQ (cutQ Q a b) x y = if Two x y a b then none else eQ Q x y := by
  obtain ⟨qa, -, -, fa⟩ := find_node ha
  obtain ⟨qb, -, hqb, fb⟩ := find_node hb
  unfold cutQ
  rw [eQ_set]
  by_cases hxb : x = b
  · subst hxb
    rw [if_pos rfl, find_set, fb]
    have hxa : ¬ x = a := fun e => hab e.symm
    have : ¬ qb.1 = a := by rw [hqb]; exact hxa
    simp only [Option.map_some, Option.bind_some, this, if_false]
    rw [edgeO_del]
    unfold eQ
    rw [fb]
    by_cases hy : y = a
    · rw [if_pos hy, if_pos (show Two x y a x from .inr ⟨rfl, hy⟩)]
    · rw [if_neg hy, if_neg (show ¬ Two x y a x from fun h => by unfold Two at h; omega)]
      rfl
  · rw [if_neg hxb, eQ_set]
    by_cases hxa : x = a
    · subst hxa
      rw [if_pos rfl, fa]
      simp only [Option.bind_some]
      rw [edgeO_del]
      unfold eQ
      rw [fa]
      by_cases hy : y = b
      · rw [if_pos hy, if_pos (show Two x y x b from .inl ⟨rfl, hy⟩)]
      · rw [if_neg hy, if_neg (show ¬ Two x y x b from fun h => by unfold Two at h; omega)]
        rfl
    · rw [if_neg hxa, if_neg (show ¬ Two x y a b from fun h => by unfold Two at h; omega)]

theorem edgeD_at (E : Eg) (a b : Int) : edgeD E a b = (atE E a b).bind fun i => E[i]?.map (·.2.2) := by
  unfold edgeD atE
  induction E with
  | nil => rfl
  | cons e E ih =>
    cases h : isE (min a b) (max a b) e with
    | true => simp [List.findIdx?_cons, h]
    | false =>
      simp only [List.find?_cons, List.findIdx?_cons, h]
      rw [ih]
      cases E.findIdx? (isE (min a b) (max a b)) <;> simp

theorem edgeD_app {E : Eg} {a b : Int} (hn : edgeD E a b = none) (v : Bool) (x y : Int) : edgeD (E ++ [(min a b, max a b, v)]) x y = if Two x y a b then some v else edgeD E x y := by
  unfold edgeD at *
  rw [List.find?_append]
  by_cases h : Two x y a b
  · rw [if_pos h]
    obtain ⟨h1, h2⟩ := two_iff.1 h
    rw [h1, h2]
    have : E.find? (isE (min a b) (max a b)) = none := by simpa using hn
    rw [this]
    simp [isE]
  · rw [if_neg h]
    have : isE (min x y) (max x y) (min a b, max a b, v) = false := by
      rw [Bool.eq_false_iff]
      intro h3
      have := isE_iff.1 h3
      exact h (two_iff.2 ⟨this.1.symm, this.2.symm⟩)
    simp [this]

theorem find_ne {E : Eg} {e f : Int × Int × Bool} (hf : e.1 = f.1 ∧ e.2.1 = f.2.1) (lo hi : Int) : isE lo hi e = isE lo hi f := by
  simp [isE, hf.1, hf.2]

/-- an edge is given another flag -/
theorem edgeD_set {E : Eg} {a b : Int} {i : Nat} (hi : i < E.length) (h1 : E[i].1 = min a b) (h2 : E[i].2.1 = max a b) (ho : E.Pairwise fun e f => ¬ (e.1 = f.1 ∧ e.2.1 = f.2.1)) (v : Bool) (x y : Int) :
    edgeD (E.set i (min a b, max a b, v)) x y = if Two x y a b then some v else edgeD E x y := by
  unfold edgeD
  simp only [two_iff]
  generalize min a b = lo at *
  generalize max a b = hi' at *
  generalize min x y = l
  generalize max x y = u
  induction E generalizing i with
  | nil => simp at hi
  | cons e E ih =>
    rw [List.pairwise_cons] at ho
    cases i with
    | zero =>
      simp only [List.set_cons_zero, List.find?_cons, List.getElem_cons_zero] at h1 h2 ⊢
      by_cases hl : l = lo ∧ u = hi'
      · simp [isE, hl.1, hl.2]
      · have e1 : isE l u (lo, hi', v) = false := by simp [isE]; intro e; exact fun e2 => hl ⟨e.symm, e2.symm⟩
        have e2 : isE l u e = false := by rw [← find_ne (e := (lo, hi', v)) (f := e) (E := E) ⟨h1.symm, h2.symm⟩ l u]; exact e1
        rw [e1, e2, if_neg hl]
    | succ i =>
      simp only [List.getElem_cons_succ] at h1 h2
      have hi2 : i < E.length := by simpa using hi
      have hne := ho.1 E[i] (List.getElem_mem hi2)
      simp only [List.set_cons_succ, List.find?_cons]
      cases hE : isE l u e with
      | true =>
        have := isE_iff.1 hE
        have hl : ¬ (l = lo ∧ u = hi') := fun hh => hne ⟨by rw [this.1, h1, hh.1], by rw [this.2, h2, hh.2]⟩
        rw [if_neg hl]
      | false => exact ih hi2 ho.2 h1 h2

theorem edgeD_erase {E : Eg} {a b : Int} {i : Nat} (hi : i < E.length) (h1 : E[i].1 = min a b) (h2 : E[i].2.1 = max a b) (ho : E.Pairwise fun e f => ¬ (e.1 = f.1 ∧ e.2.1 = f.2.1)) (x y : Int) :
    edgeD (E.eraseIdx i) x y = if Two x y a b then none else edgeD E x y := by
  unfold edgeD
  simp only [two_iff]
  generalize min a b = lo at *
  generalize max a b = hi' at *
  generalize min x y = l
  generalize max x y = u
  induction E generalizing i with
  | nil => simp at hi
  | cons e E ih =>
    rw [List.pairwise_cons] at ho
    cases i with
    | zero =>
      simp only [List.eraseIdx_cons_zero, List.find?_cons, List.getElem_cons_zero] at h1 h2 ⊢
      by_cases hl : l = lo ∧ u = hi'
      · rw [if_pos hl]
        rw [List.find?_eq_none.2]
        · rfl
        · intro f hf hh
          have := isE_iff.1 hh
          exact ho.1 f hf ⟨by rw [h1, this.1, hl.1], by rw [h2, this.2, hl.2]⟩
      · have e2 : isE l u e = false := by
          rw [Bool.eq_false_iff]
          intro hh
          have := isE_iff.1 hh
          exact hl ⟨this.1.symm.trans h1, this.2.symm.trans h2⟩
        rw [e2, if_neg hl]
    | succ i =>
      simp only [List.getElem_cons_succ] at h1 h2
      have hi2 : i < E.length := by simpa using hi
      have hne := ho.1 E[i] (List.getElem_mem hi2)
      simp only [List.eraseIdx_cons_succ, List.find?_cons]
      cases hE : isE l u e with
      | true =>
        have := isE_iff.1 hE
        have hl : ¬ (l = lo ∧ u = hi') := fun hh => hne ⟨by rw [this.1, h1, hh.1], by rw [this.2, h2, hh.2]⟩
        rw [if_neg hl]
      | false => exact ih hi2 ho.2 h1 h2

end Go.Proofs.Ytpjbkaibgajpcaa

namespace Go.Proofs.Ytpjbkaibgajpcaa
open Go.RowKit

theorem putZ_sorted {l : List Int} {k : Int} (h : l.Pairwise (· < ·)) (hk : k ∉ l) : (putZ l k).Pairwise (· < ·) := by
  unfold putZ
  have hs := List.takeWhile_append_dropWhile (p := fun x => decide (x < k)) (l := l)
  have h2 := h
  rw [← hs, List.pairwise_append] at h2
  have lo : ∀ x ∈ l.takeWhile (fun x => decide (x < k)), x < k := fun x hx => by
    simpa using List.all_eq_true.1 (List.all_takeWhile (p := fun x => decide (x < k)) (l := l)) x hx
  have hi : ∀ x ∈ l.dropWhile (fun x => decide (x < k)), k < x := by
    intro x hx
    have hxl : x ∈ l := hs ▸ List.mem_append_right _ hx
    have hne : x ≠ k := fun e => hk (e ▸ hxl)
    cases hd : l.dropWhile (fun x => decide (x < k)) with
    | nil => rw [hd] at hx; cases hx
    | cons y r =>
      have hy : ¬ y < k := by
        have := List.head?_dropWhile_not (fun x => decide (x < k)) l
        rw [hd] at this
        simpa using this
      rw [hd] at hx h2
      rcases List.mem_cons.1 hx with rfl | hx
      · omega
      · have := (List.pairwise_cons.1 h2.2.1).1 x hx
        omega
  rw [List.pairwise_append, List.pairwise_cons]
  exact ⟨h2.1, ⟨hi, h2.2.1⟩, fun x hx y hy => by
    rcases List.mem_cons.1 hy with rfl | hy
    · exact lo x hx
    · exact h2.2.2 x hx y hy⟩

theorem sortedI_ext {l m : List Int} (hl : l.Pairwise (· < ·)) (hm : m.Pairwise (· < ·)) (h : ∀ x, x ∈ l ↔ x ∈ m) : l = m := by
  induction l generalizing m with
  | nil =>
    cases m with
    | nil => rfl
    | cons y m => exact absurd ((h y).2 (List.mem_cons_self ..)) (by simp)
  | cons x l ih =>
    cases m with
    | nil => exact absurd ((h x).1 (List.mem_cons_self ..)) (by simp)
    | cons y m =>
      rw [List.pairwise_cons] at hl hm
      have hxy : x = y := by
        have h1 := (h x).1 (List.mem_cons_self ..)
        have h2 := (h y).2 (List.mem_cons_self ..)
        rcases List.mem_cons.1 h1 with h1 | h1
        · exact h1
        · rcases List.mem_cons.1 h2 with h2 | h2
          · exact h2.symm
          · have := hl.1 y h2
            have := hm.1 x h1
            omega
      subst hxy
      rw [ih hl.2 hm.2 fun z => by
        have := h z
        simp only [List.mem_cons] at this
        constructor
        · intro hz
          rcases this.1 (.inr hz) with rfl | h1
          · exact absurd (hl.1 z hz) (by omega)
          · exact h1
        · intro hz
          rcases this.2 (.inr hz) with rfl | h1
          · exact absurd (hm.1 z hz) (by omega)
          · exact h1]

theorem sorted_nodup {l : List Int} (h : l.Pairwise (· < ·)) : l.Nodup := h.imp fun h => by omega

theorem sortZ_sorted {l : List Int} (h : l.Nodup) : (sortZ l).Pairwise (· < ·) := by
  have h1 : (sortZ l).Pairwise fun a b => decide (a ≤ b) = true := List.pairwise_mergeSort (le := fun x y => decide (x ≤ y)) (by intro a b c; simp; omega) (by intro a b; simp; omega) l
  have h2 := nodup_sortZ.2 h
  exact (h1.and h2).imp fun ⟨a, b⟩ => by simp at a; omega

theorem outer_blocks_join (Q : Gr) (a b : Int) (v) : (joinQ Q a b v).map (fun q => q.2.1) = Q.map (fun q => q.2.1) ∧ (joinQ Q a b v).map (fun q => q.1) = Q.map (fun q => q.1) := by
  unfold joinQ
  rw [blocks_set, blocks_set, keys_set, keys_set]
  exact ⟨rfl, rfl⟩

theorem outer_blocks_cut (Q : Gr) (a b : Int) : (cutQ Q a b).map (fun q => q.2.1) = Q.map (fun q => q.2.1) ∧ (cutQ Q a b).map (fun q => q.1) = Q.map (fun q => q.1) := by
  unfold cutQ
  rw [blocks_set, blocks_set, keys_set, keys_set]
  exact ⟨rfl, rfl⟩

/-- nodes and their blocks are as they were -/
def SameN (Q Q' : Gr) : Prop := Q'.map (fun q => q.2.1) = Q.map (fun q => q.2.1) ∧ Q'.map (fun q => q.1) = Q.map (fun q => q.1)

theorem Rel.pair {Q : Gr} {N : List Int} {E : Eg} (h : Rel Q N E) (a b : Int) : pairZ Q a b = pairD N a b := by
  unfold pairZ pairD
  have e : (hasB Q a && hasB Q b) = true ↔ a ∈ N ∧ b ∈ N := by
    rw [Bool.and_eq_true, hasB_iff, hasB_iff, h.keys, h.keys]
  by_cases h2 : a ∈ N ∧ b ∈ N
  · rw [if_pos h2, if_pos (e.2 h2)]
  · rw [if_neg h2, if_neg (fun hh => h2 (e.1 hh))]

theorem Rel.upd {Q Q' : Gr} {N : List Int} {E E' : Eg} (h : Rel Q N E) {a b : Int} {v : Option Bool} (hk : SameN Q Q') (hq : ∀ x y, eQ Q' x y = if Two x y a b then v else eQ Q x y) (he : ∀ x y, edgeD E' x y = if Two x y a b then v else edgeD E x y)
    (hn : ∀ e ∈ E', e.1 < e.2.1 ∧ e.1 ∈ N ∧ e.2.1 ∈ N) (ho : E'.Pairwise fun e f => ¬ (e.1 = f.1 ∧ e.2.1 = f.2.1)) : Rel Q' N E' :=
  ⟨fun k => by rw [hk.2]; exact h.keys k, h.sorted, fun x y => by rw [hq, he, h.edge], hn, ho⟩

theorem pairD_ok {N : List Int} {a b : Int} (h : pairD N a b = 0) : a ≠ b ∧ a ∈ N ∧ b ∈ N := by
  unfold pairD at h
  split at h
  · omega
  · next hab =>
    split at h
    · next h2 => exact ⟨hab, h2⟩
    · omega

theorem Rel.eq_edge {Q : Gr} {N : List Int} {E : Eg} (h : Rel Q N E) {a b : Int} {q : Int × Nat × List (Int × Bool)} (hf : Q.find? (fun q => decide (q.1 = a)) = some q) : edgeO q.2.2 b = edgeD E a b := by
  have := h.edge a b
  unfold eQ at this
  rw [hf] at this
  exact this

theorem app_ok {N : List Int} {E : Eg} {a b : Int} (v : Bool) (hab : a ≠ b) (ha : a ∈ N) (hb : b ∈ N) (hn : ∀ e ∈ E, e.1 < e.2.1 ∧ e.1 ∈ N ∧ e.2.1 ∈ N) (ho : E.Pairwise fun e f => ¬ (e.1 = f.1 ∧ e.2.1 = f.2.1)) (hat : atE E a b = none) :
    (∀ e ∈ E ++ [(min a b, max a b, v)], e.1 < e.2.1 ∧ e.1 ∈ N ∧ e.2.1 ∈ N) ∧ (E ++ [(min a b, max a b, v)]).Pairwise fun e f => ¬ (e.1 = f.1 ∧ e.2.1 = f.2.1) := by
  constructor
  · intro e he
    rcases List.mem_append.1 he with he | he
    · exact hn e he
    · rw [List.mem_singleton] at he
      subst he
      refine ⟨?_, ?_, ?_⟩
      · show min a b < max a b; omega
      · show min a b ∈ N; rcases Int.le_total a b with h | h
        · rw [Int.min_eq_left h]; exact ha
        · rw [Int.min_eq_right h]; exact hb
      · show max a b ∈ N; rcases Int.le_total a b with h | h
        · rw [Int.max_eq_right h]; exact hb
        · rw [Int.max_eq_left h]; exact ha
  · rw [List.pairwise_append]
    refine ⟨ho, List.pairwise_singleton _ _, fun e he f hf hh => ?_⟩
    rw [List.mem_singleton] at hf
    subst hf
    have := List.findIdx?_eq_none_iff.1 hat e he
    rw [isE_iff.2 hh] at this
    cases this

theorem set_ok {N : List Int} {E : Eg} {i : Nat} (v : Bool) (hi : i < E.length) (hn : ∀ e ∈ E, e.1 < e.2.1 ∧ e.1 ∈ N ∧ e.2.1 ∈ N) (ho : E.Pairwise fun e f => ¬ (e.1 = f.1 ∧ e.2.1 = f.2.1)) :
    (∀ e ∈ E.set i (E[i].1, E[i].2.1, v), e.1 < e.2.1 ∧ e.1 ∈ N ∧ e.2.1 ∈ N) ∧ (E.set i (E[i].1, E[i].2.1, v)).Pairwise fun e f => ¬ (e.1 = f.1 ∧ e.2.1 = f.2.1) := by
  constructor
  · intro e he
    rcases List.mem_or_eq_of_mem_set he with he | rfl
    · exact hn e he
    · exact hn E[i] (List.getElem_mem hi)
  · have hm : (E.set i (E[i].1, E[i].2.1, v)).map (fun e => (e.1, e.2.1)) = E.map (fun e => (e.1, e.2.1)) := by
      rw [List.map_set]
      show (E.map fun e => (e.1, e.2.1)).set i (E[i].1, E[i].2.1) = _
      have : (E[i].1, E[i].2.1) = (E.map fun e => (e.1, e.2.1))[i]'(by simpa using hi) := by simp
      rw [this, List.set_getElem_self]
    have h1 : (E.map fun e => (e.1, e.2.1)).Pairwise fun e f => ¬ (e.1 = f.1 ∧ e.2 = f.2) := List.pairwise_map.2 ho
    rw [← hm] at h1
    exact List.pairwise_map.1 h1

theorem Rel.bind {Q : Gr} {N : List Int} {E : Eg} (h : Rel Q N E) (a b : Int) : (bindG Q a b).1 = (bindD N E a b).1 ∧ Rel (bindG Q a b).2 N (bindD N E a b).2 ∧ SameN Q (bindG Q a b).2 := by
  unfold bindG bindD
  rw [h.pair a b]
  by_cases hp : pairD N a b = 0
  · rw [if_neg (by simp [hp]), if_neg (by simp [hp])]
    obtain ⟨hab, ha, hb⟩ := pairD_ok hp
    have haQ := (h.keys a).2 ha
    have hbQ := (h.keys b).2 hb
    obtain ⟨q, -, -, hf⟩ := find_node haQ
    rw [hf]
    simp only []
    rw [h.eq_edge hf, edgeD_at]
    cases hat : atE E a b with
    | none =>
      have hE : edgeD E a b = none := by rw [edgeD_at, hat]; rfl
      have hok := app_ok true hab ha hb h.ends h.once hat
      simp only [Option.bind_none, Option.getD_none, Bool.false_eq_true, if_false]
      exact ⟨by simp, h.upd (v := some true) (outer_blocks_join Q a b true) (eQ_join haQ hbQ hab true) (edgeD_app hE true) hok.1 hok.2, outer_blocks_join Q a b true⟩
    | some i =>
      obtain ⟨hi, h1, h2⟩ := at_edge hat
      simp only [Option.bind_some, List.getElem?_eq_getElem hi, Option.map_some, Option.getD_some]
      cases hv : E[i].2.2 with
      | true => exact ⟨by simp, by simpa using h, by simp [SameN]⟩
      | false =>
        have hok := set_ok true hi h.ends h.once
        rw [h1, h2] at hok
        simp only [Bool.false_eq_true, if_false, Option.some.injEq]
        exact ⟨by simp, h.upd (v := some true) (outer_blocks_join Q a b true) (eQ_join haQ hbQ hab true) (edgeD_set hi h1 h2 h.once true) hok.1 hok.2, outer_blocks_join Q a b true⟩
  · rw [if_pos (by simpa using hp), if_pos (by simpa using hp)]
    exact ⟨rfl, h, rfl, rfl⟩

theorem Rel.link {Q : Gr} {N : List Int} {E : Eg} (h : Rel Q N E) (a b : Int) : (linkG Q a b).1 = (linkD N E a b).1 ∧ Rel (linkG Q a b).2 N (linkD N E a b).2 ∧ SameN Q (linkG Q a b).2 := by
  unfold linkG linkD
  rw [h.pair a b]
  by_cases hp : pairD N a b = 0
  · rw [if_neg (by simp [hp]), if_neg (by simp [hp])]
    obtain ⟨hab, ha, hb⟩ := pairD_ok hp
    have haQ := (h.keys a).2 ha
    have hbQ := (h.keys b).2 hb
    obtain ⟨q, -, -, hf⟩ := find_node haQ
    rw [hf]
    simp only []
    rw [h.eq_edge hf, edgeD_at]
    cases hat : atE E a b with
    | none =>
      have hE : edgeD E a b = none := by rw [edgeD_at, hat]; rfl
      have hok := app_ok false hab ha hb h.ends h.once hat
      simp only [Option.bind_none, Option.isSome_none, Bool.false_eq_true, if_false]
      exact ⟨by simp, h.upd (v := some false) (outer_blocks_join Q a b false) (eQ_join haQ hbQ hab false) (edgeD_app hE false) hok.1 hok.2, outer_blocks_join Q a b false⟩
    | some i =>
      obtain ⟨hi, h1, h2⟩ := at_edge hat
      simp only [Option.bind_some, List.getElem?_eq_getElem hi, Option.map_some, Option.isSome_some, if_true]
      exact ⟨by simp, by simpa using h, by simp [SameN]⟩
  · rw [if_pos (by simpa using hp), if_pos (by simpa using hp)]
    exact ⟨rfl, h, rfl, rfl⟩

theorem Rel.cut {Q : Gr} {N : List Int} {E : Eg} (h : Rel Q N E) (a b : Int) : (cutG Q a b).1 = (cutD N E a b).1 ∧ Rel (cutG Q a b).2 N (cutD N E a b).2 ∧ SameN Q (cutG Q a b).2 := by
  unfold cutG cutD
  rw [h.pair a b]
  by_cases hp : pairD N a b = 0
  · rw [if_neg (by simp [hp]), if_neg (by simp [hp])]
    obtain ⟨hab, ha, hb⟩ := pairD_ok hp
    have haQ := (h.keys a).2 ha
    have hbQ := (h.keys b).2 hb
    obtain ⟨q, -, -, hf⟩ := find_node haQ
    rw [hf]
    simp only []
    rw [h.eq_edge hf, edgeD_at]
    cases hat : atE E a b with
    | none => exact ⟨by simp, by simpa using h, by simp [SameN]⟩
    | some i =>
      obtain ⟨hi, h1, h2⟩ := at_edge hat
      simp only [Option.bind_some, List.getElem?_eq_getElem hi, Option.map_some]
      cases hv : E[i].2.2 with
      | true => exact ⟨by simp, by simpa using h, by simp [SameN]⟩
      | false =>
        simp only [Option.some.injEq, Bool.false_eq_true, if_false]
        exact ⟨by simp, h.upd (v := none) (outer_blocks_cut Q a b) (eQ_cut haQ hbQ hab) (edgeD_erase hi h1 h2 h.once) (fun e he => h.ends e (List.mem_of_mem_eraseIdx he)) (h.once.sublist (List.eraseIdx_sublist _ _)), outer_blocks_cut Q a b⟩
  · rw [if_pos (by simpa using hp), if_pos (by simpa using hp)]
    exact ⟨rfl, h, rfl, rfl⟩

theorem Rel.add {Q : Gr} {N : List Int} {E : Eg} (h : Rel Q N E) {k : Int} (hk : k ∉ N) (b : Nat) : Rel (Q ++ [(k, b, [])]) (putZ N k) E := by
  refine ⟨fun x => ?_, putZ_sorted h.sorted hk, fun x y => ?_, fun e he => ?_, h.once⟩
  · rw [List.map_append, List.mem_append, mem_putZ, h.keys]
    simp [or_comm]
  · rw [← h.edge]
    unfold eQ
    rw [List.find?_append]
    cases hf : Q.find? fun q => decide (q.1 = x) with
    | some q => rfl
    | none =>
      by_cases hx : k = x
      · simp [hx, edgeO]
      · simp [hx]
  · have := h.ends e he
    exact ⟨this.1, mem_putZ.2 (.inr this.2.1), mem_putZ.2 (.inr this.2.2)⟩

end Go.Proofs.Ytpjbkaibgajpcaa
