/-
  graph: the program's graph and the document's (plain): who is near, to whom there is a way.
  graph: Reach.
  Are two lists of numbers alike (ref).
  graph's laws: both graphs in memory, side by side.
  graph's laws: the program's graph alone, told by the document's nodes and edges; the document's example.
  walk's laws: a field, as it lies; it is a space.
  walk's laws: a field becomes greater.
-/
import Derived.Test.YtjnkiloomdeljaaJ45
import Derived.Test.YtjnkiloomdeljaaJ43
import Derived.Test.YtjnkiloomdeljaaJ01
import Derived.Test.YtjnkiloomdeljaaJ29
namespace Go.Proofs.Ytjnkiloomdeljaa
open Go.RowKit

/-- what one edge says of k's neighbours -/
def nearO (k : Int) (soft : Bool) (e : Int × Int × Bool) : Option Int :=
  if (soft && e.2.2) = true then none else if e.1 = k then some e.2.1 else if e.2.1 = k then some e.1 else none

def nearL (E : Eg) (k : Int) (soft : Bool) : List Int := E.filterMap (nearO k soft)

theorem nearD_eq (E : Eg) (k : Int) (soft : Bool) : nearD E k soft = (nearL E k soft).foldl putZ [] := by
  have : ∀ (E : Eg) (out : List Int), E.foldl (nearStep k soft) out = (E.filterMap (nearO k soft)).foldl putZ out := by
    intro E
    induction E with
    | nil => intro out; rfl
    | cons e E ih =>
      intro out
      rw [List.foldl_cons, ih, List.filterMap_cons]
      unfold nearStep nearO
      split
      · rfl
      · split
        · rfl
        · split <;> rfl
  exact this E []

theorem foldl_putZ_perm : ∀ (l out : List Int), (l.foldl putZ out).Perm (l ++ out)
  | [], _ => List.Perm.refl _
  | x :: l, out => (foldl_putZ_perm l (putZ out x)).trans ((List.Perm.append_left l (putZ_perm out x)).trans List.perm_middle)

theorem foldl_putZ_sorted : ∀ (l out : List Int), out.Pairwise (· < ·) → (l ++ out).Nodup → (l.foldl putZ out).Pairwise (· < ·)
  | [], _, h, _ => h
  | x :: l, out, h, hn => by
    have hx : x ∉ out := fun hh => (List.nodup_cons.1 hn).1 (List.mem_append_right _ hh)
    refine foldl_putZ_sorted l (putZ out x) (putZ_sorted h hx) ?_
    exact ((List.Perm.append_left l (putZ_perm out x)).trans List.perm_middle).nodup_iff.2 hn

theorem once_eq {E : Eg} (ho : E.Pairwise fun e f => ¬ (e.1 = f.1 ∧ e.2.1 = f.2.1)) {e f : Int × Int × Bool} (he : e ∈ E) (hf : f ∈ E) (h1 : e.1 = f.1) (h2 : e.2.1 = f.2.1) : e = f := by
  induction E with
  | nil => cases he
  | cons g E ih =>
    rw [List.pairwise_cons] at ho
    rcases List.mem_cons.1 he with h3 | h3
    · rcases List.mem_cons.1 hf with h4 | h4
      · rw [h3, h4]
      · exact absurd ⟨by rw [← h3]; exact h1, by rw [← h3]; exact h2⟩ (ho.1 f h4)
    · rcases List.mem_cons.1 hf with h4 | h4
      · exact absurd ⟨by rw [← h4]; exact h1.symm, by rw [← h4]; exact h2.symm⟩ (ho.1 e h3)
      · exact ih ho.2 h3 h4

theorem nearO_some {k x : Int} {soft : Bool} {e : Int × Int × Bool} (hlt : e.1 < e.2.1) : nearO k soft e = some x ↔ (soft && e.2.2) = false ∧ e.1 = min k x ∧ e.2.1 = max k x := by
  unfold nearO
  by_cases h : (soft && e.2.2) = true
  · simp [h]
  · have h' : (soft && e.2.2) = false := by simpa using h
    rw [if_neg h]
    simp only [h', true_and]
    by_cases h1 : e.1 = k
    · rw [if_pos h1, Option.some.injEq]
      omega
    · rw [if_neg h1]
      by_cases h2 : e.2.1 = k
      · rw [if_pos h2, Option.some.injEq]
        omega
      · rw [if_neg h2]
        constructor
        · intro h; cases h
        · intro h; omega

structure Egs (N : List Int) (E : Eg) : Prop where
  ends : ∀ e ∈ E, e.1 < e.2.1 ∧ e.1 ∈ N ∧ e.2.1 ∈ N
  once : E.Pairwise fun e f => ¬ (e.1 = f.1 ∧ e.2.1 = f.2.1)

theorem Rel.egs {Q : Gr} {N : List Int} {E : Eg} (h : Rel Q N E) : Egs N E := ⟨h.ends, h.once⟩

theorem mem_nearL {N : List Int} {E : Eg} (h : Egs N E) {k x : Int} {soft : Bool} : x ∈ nearL E k soft ↔ ∃ v, edgeD E k x = some v ∧ (soft && v) = false := by
  unfold nearL edgeD
  rw [List.mem_filterMap]
  constructor
  · rintro ⟨e, he, hn⟩
    obtain ⟨h1, h2, h3⟩ := (nearO_some (h.ends e he).1).1 hn
    cases hf : E.find? (isE (min k x) (max k x)) with
    | none => exact absurd (isE_iff.2 ⟨h2, h3⟩) (by simpa using List.find?_eq_none.1 hf e he)
    | some f =>
      have hfe := isE_iff.1 (List.find?_some hf)
      have : e = f := once_eq h.once he (List.mem_of_find?_eq_some hf) (h2.trans hfe.1.symm) (h3.trans hfe.2.symm)
      subst this
      exact ⟨e.2.2, rfl, h1⟩
  · rintro ⟨v, hv, hs⟩
    rw [Option.map_eq_some_iff] at hv
    obtain ⟨e, hf, rfl⟩ := hv
    have he := List.mem_of_find?_eq_some hf
    have hfe := isE_iff.1 (List.find?_some hf)
    exact ⟨e, he, (nearO_some (h.ends e he).1).2 ⟨hs, hfe⟩⟩

theorem nodup_nearL {N : List Int} {E : Eg} (h : Egs N E) (k : Int) (soft : Bool) : (nearL E k soft).Nodup := by
  unfold nearL
  refine List.Pairwise.filterMap (R := fun e f => (e.1 < e.2.1 ∧ f.1 < f.2.1) ∧ ¬ (e.1 = f.1 ∧ e.2.1 = f.2.1)) _ ?_ (h.once.imp_of_mem fun ha hb hr => ⟨⟨(h.ends _ ha).1, (h.ends _ hb).1⟩, hr⟩)
  rintro e f ⟨⟨h1, h2⟩, h3⟩ x hx y hy rfl
  have a1 := ((nearO_some h1).1 hx).2
  have a2 := ((nearO_some h2).1 hy).2
  exact h3 ⟨a1.1.trans a2.1.symm, a1.2.trans a2.2.symm⟩

theorem nearD_sorted {N : List Int} {E : Eg} (h : Egs N E) (k : Int) (soft : Bool) : (nearD E k soft).Pairwise (· < ·) := by
  rw [nearD_eq]
  exact foldl_putZ_sorted _ _ List.Pairwise.nil (by simpa using nodup_nearL h k soft)

theorem nearD_length (E : Eg) (k : Int) (soft : Bool) : (nearD E k soft).length = (nearL E k soft).length := by
  rw [nearD_eq, (foldl_putZ_perm _ _).length_eq]
  simp

theorem mem_nearD {N : List Int} {E : Eg} (h : Egs N E) {k x : Int} {soft : Bool} : x ∈ nearD E k soft ↔ ∃ v, edgeD E k x = some v ∧ (soft && v) = false := by
  rw [nearD_eq, (foldl_putZ_perm _ _).mem_iff, List.append_nil]
  exact mem_nearL h

/-- each node's edges lead to each at most once -/
def Inner (Q : Gr) : Prop := ∀ q ∈ Q, (q.2.2.map (·.1)).Nodup

theorem GrAt.inn {w : World} {p m : Nat} {Q : Gr} (h : GrAt w p m Q) : Inner Q := by
  intro q hq
  obtain ⟨es, c, hi⟩ := h.inner q hq
  have := hi.keys
  simpa [innerL, List.map_map, Function.comp_def] using this

theorem edgeO_some {E : List (Int × Bool)} {x : Int} : (edgeO E x).isSome = true ↔ x ∈ E.map (·.1) := by
  unfold edgeO
  rw [Option.isSome_map, List.find?_isSome, List.mem_map]
  simp

theorem mem_nearZ {Q : Gr} {k x : Int} : x ∈ nearZ Q k ↔ (eQ Q k x).isSome = true := by
  unfold nearZ eQ
  cases hf : Q.find? fun q => decide (q.1 = k) with
  | none => simp
  | some q =>
    simp only [Option.map_some, Option.getD_some, Option.bind_some]
    rw [mem_sortZ, edgeO_some]

theorem mem_softZ {Q : Gr} {k x : Int} : x ∈ softZ Q k ↔ eQ Q k x = some false := by
  unfold softZ eQ
  cases hf : Q.find? fun q => decide (q.1 = k) with
  | none => simp
  | some q =>
    simp only [Option.map_some, Option.getD_some, Option.bind_some]
    rw [List.mem_filter, mem_sortZ, ← edgeO_some]
    unfold needB
    cases edgeO q.2.2 x with
    | none => simp
    | some v => cases v <;> simp

theorem nearZ_sorted {Q : Gr} (h : Inner Q) (k : Int) : (nearZ Q k).Pairwise (· < ·) := by
  unfold nearZ
  cases hf : Q.find? fun q => decide (q.1 = k) with
  | none => exact List.Pairwise.nil
  | some q => exact sortZ_sorted (h q (List.mem_of_find?_eq_some hf))

theorem softZ_sorted {Q : Gr} (h : Inner Q) (k : Int) : (softZ Q k).Pairwise (· < ·) := by
  unfold softZ
  cases hf : Q.find? fun q => decide (q.1 = k) with
  | none => exact List.Pairwise.nil
  | some q => exact (sortZ_sorted (h q (List.mem_of_find?_eq_some hf))).sublist List.filter_sublist

theorem Rel.near {Q : Gr} {N : List Int} {E : Eg} (h : Rel Q N E) (hi : Inner Q) (k : Int) : nearZ Q k = nearD E k false := by
  refine sortedI_ext (nearZ_sorted hi k) (nearD_sorted h.egs k false) fun x => ?_
  rw [mem_nearZ, mem_nearD h.egs, h.edge]
  cases edgeD E k x <;> simp

theorem Rel.soft {Q : Gr} {N : List Int} {E : Eg} (h : Rel Q N E) (hi : Inner Q) (k : Int) : softZ Q k = nearD E k true := by
  refine sortedI_ext (softZ_sorted hi k) (nearD_sorted h.egs k true) fun x => ?_
  rw [mem_softZ, mem_nearD h.egs, h.edge]
  cases edgeD E k x with
  | none => simp
  | some v => cases v <;> simp

/-- an edge that counts -/
def adj (E : Eg) (needed : Bool) (a b : Int) : Prop := ∃ v, edgeD E a b = some v ∧ (needed && !v) = false

theorem edgeD_comm (E : Eg) (a b : Int) : edgeD E a b = edgeD E b a := by
  unfold edgeD
  rw [Int.min_comm, Int.max_comm]

theorem adj_comm {E : Eg} {needed : Bool} {a b : Int} (h : adj E needed a b) : adj E needed b a := by
  obtain ⟨v, h1, h2⟩ := h
  exact ⟨v, by rw [edgeD_comm]; exact h1, h2⟩

theorem adj_mem {N : List Int} {E : Eg} (h : Egs N E) {needed : Bool} {e : Int × Int × Bool} (he : e ∈ E) (hn : (needed && !e.2.2) = false) : adj E needed e.1 e.2.1 := by
  have hlt := (h.ends e he).1
  refine ⟨e.2.2, ?_, hn⟩
  unfold edgeD
  rw [Int.min_eq_left (by omega), Int.max_eq_right (by omega)]
  cases hf : E.find? (isE e.1 e.2.1) with
  | none => exact absurd (isE_iff.2 ⟨rfl, rfl⟩) (by simpa using List.find?_eq_none.1 hf e he)
  | some f =>
    have hfe := isE_iff.1 (List.find?_some hf)
    have : e = f := once_eq h.once he (List.mem_of_find?_eq_some hf) hfe.1.symm hfe.2.symm
    rw [this]; rfl

theorem mem_adj {E : Eg} {needed : Bool} {a b : Int} (h : adj E needed a b) : ∃ e ∈ E, (needed && !e.2.2) = false ∧ e.1 = min a b ∧ e.2.1 = max a b := by
  obtain ⟨v, h1, h2⟩ := h
  unfold edgeD at h1
  rw [Option.map_eq_some_iff] at h1
  obtain ⟨e, hf, rfl⟩ := h1
  exact ⟨e, List.mem_of_find?_eq_some hf, h2, isE_iff.1 (List.find?_some hf)⟩

theorem Way.mono {R S : Int → Int → Prop} {a b : Int} (h : Way R a b) (hs : ∀ x y, R x y → S x y) : Way S a b := by
  induction h with
  | here => exact .here
  | step _ hr ih => exact .step ih (hs _ _ hr)

theorem Way.trans {R : Int → Int → Prop} {a b c : Int} (h : Way R a b) (g : Way R b c) : Way R a c := by
  induction g with
  | here => exact h
  | step _ hr ih => exact .step ih hr

theorem Way.symm {R : Int → Int → Prop} (hR : ∀ x y, R x y → R y x) {a b : Int} (h : Way R a b) : Way R b a := by
  induction h with
  | here => exact .here
  | step _ hr ih => exact (Way.step .here (hR _ _ hr)).trans ih

theorem step_len (needed : Bool) (l : List Int) (e : Int × Int × Bool) : reachStep needed l e = l ∨ (reachStep needed l e).length = l.length + 1 := by
  unfold reachStep
  split
  · exact .inl rfl
  · split
    · exact .inr (putZ_length _ _)
    · split
      · exact .inr (putZ_length _ _)
      · exact .inl rfl

theorem fold_len (needed : Bool) : ∀ (E : Eg) (l : List Int), l.length ≤ (E.foldl (reachStep needed) l).length
  | [], _ => Nat.le_refl _
  | e :: E, l => by
    rw [List.foldl_cons]
    have := fold_len needed E (reachStep needed l e)
    rcases step_len needed l e with h | h
    · rw [h] at this ⊢; exact this
    · omega

theorem fold_same (needed : Bool) : ∀ (E : Eg) (l : List Int), (E.foldl (reachStep needed) l).length = l.length → ∀ e ∈ E, reachStep needed l e = l
  | [], _, _, e, he => by cases he
  | f :: E, l, hl, e, he => by
    rw [List.foldl_cons] at hl
    have h1 : reachStep needed l f = l := by
      rcases step_len needed l f with h | h
      · exact h
      · have := fold_len needed E (reachStep needed l f)
        omega
    rcases List.mem_cons.1 he with rfl | he
    · exact h1
    · rw [h1] at hl
      exact fold_same needed E l hl e he

theorem fold_still (needed : Bool) : ∀ (E : Eg) (l : List Int), (∀ e ∈ E, reachStep needed l e = l) → E.foldl (reachStep needed) l = l
  | [], _, _ => rfl
  | e :: E, l, h => by
    rw [List.foldl_cons, h e (List.mem_cons_self ..)]
    exact fold_still needed E l fun f hf => h f (List.mem_cons_of_mem _ hf)

theorem still_closed {needed : Bool} {l : List Int} {e : Int × Int × Bool} (h : reachStep needed l e = l) (hn : (needed && !e.2.2) = false) : e.1 ∈ l ↔ e.2.1 ∈ l := by
  have hne : ∀ k, putZ l k ≠ l := fun k hk => by have := congrArg List.length hk; rw [putZ_length] at this; omega
  unfold reachStep at h
  rw [if_neg (by simp [hn])] at h
  by_cases h1 : e.1 ∈ l <;> by_cases h2 : e.2.1 ∈ l
  · exact ⟨fun _ => h2, fun _ => h1⟩
  · rw [if_pos ⟨h1, h2⟩] at h; exact absurd h (hne _)
  · rw [if_neg (fun hh => h1 hh.1), if_pos ⟨h2, h1⟩] at h; exact absurd h (hne _)
  · exact ⟨fun hh => absurd hh h1, fun hh => absurd hh h2⟩

theorem reachN_in {N : List Int} {E : Eg} (h : Egs N E) (needed : Bool) {k : Int} (hk : k ∈ N) : ∀ n, ∀ x ∈ reachN E needed k n, x ∈ N
  | 0 => fun x hx => by simp only [reachN, List.mem_singleton] at hx; rw [hx]; exact hk
  | n + 1 => (reachFold_ok (reachN_ok E needed k n).1 (reachN_in h needed hk n) fun e he => (h.ends e he).2).2

theorem reachN_grow {N : List Int} {E : Eg} (_h : Egs N E) (needed : Bool) (k : Int) : ∀ n, (∀ e ∈ E, reachStep needed (reachN E needed k n) e = reachN E needed k n) ∨ n + 1 ≤ (reachN E needed k n).length
  | 0 => .inr (by simp [reachN])
  | n + 1 => by
    rcases reachN_grow _h needed k n with h1 | h1
    · left
      have : reachN E needed k (n + 1) = reachN E needed k n := fold_still needed E _ h1
      rw [this]; exact h1
    · by_cases h2 : (reachN E needed k (n + 1)).length = (reachN E needed k n).length
      · left
        have h3 := fold_same needed E _ h2
        have : reachN E needed k (n + 1) = reachN E needed k n := fold_still needed E _ h3
        rw [this]; exact h3
      · right
        have := fold_len needed E (reachN E needed k n)
        have e : reachN E needed k (n + 1) = E.foldl (reachStep needed) (reachN E needed k n) := rfl
        rw [← e] at this
        omega

theorem step_way {N : List Int} {E : Eg} (h : Egs N E) {needed : Bool} {k : Int} {l : List Int} {e : Int × Int × Bool} (he : e ∈ E) (hl : ∀ x ∈ l, Way (adj E needed) k x) : ∀ x ∈ reachStep needed l e, Way (adj E needed) k x := by
  unfold reachStep
  split
  · exact hl
  · next hn =>
    have hn' : (needed && !e.2.2) = false := by simpa using hn
    have ha := adj_mem h he hn'
    split
    · next h1 =>
      intro x hx
      rcases mem_putZ.1 hx with rfl | hx
      · exact .step (hl _ h1.1) ha
      · exact hl x hx
    · split
      · next h1 =>
        intro x hx
        rcases mem_putZ.1 hx with rfl | hx
        · exact .step (hl _ h1.1) (adj_comm ha)
        · exact hl x hx
      · exact hl

theorem fold_way {N : List Int} {E : Eg} (h : Egs N E) {needed : Bool} {k : Int} : ∀ {F : Eg} {l : List Int}, (∀ e ∈ F, e ∈ E) → (∀ x ∈ l, Way (adj E needed) k x) → ∀ x ∈ F.foldl (reachStep needed) l, Way (adj E needed) k x
  | [], _, _, hl => hl
  | e :: F, l, hF, hl => fold_way h (F := F) (l := reachStep needed l e) (fun f hf => hF f (List.mem_cons_of_mem _ hf)) (step_way h (hF e (List.mem_cons_self ..)) hl)

theorem reachN_way {N : List Int} {E : Eg} (h : Egs N E) (needed : Bool) (k : Int) : ∀ n, ∀ x ∈ reachN E needed k n, Way (adj E needed) k x
  | 0 => fun x hx => by simp only [reachN, List.mem_singleton] at hx; rw [hx]; exact .here
  | n + 1 => fold_way h (fun _ he => he) (reachN_way h needed k n)

theorem step_sorted {needed : Bool} {l : List Int} {e : Int × Int × Bool} (hl : l.Pairwise (· < ·)) : (reachStep needed l e).Pairwise (· < ·) := by
  unfold reachStep
  split
  · exact hl
  · split
    · next h => exact putZ_sorted hl h.2
    · split
      · next h => exact putZ_sorted hl h.2
      · exact hl

theorem fold_sorted {needed : Bool} : ∀ {E : Eg} {l : List Int}, l.Pairwise (· < ·) → (E.foldl (reachStep needed) l).Pairwise (· < ·)
  | [], _, hl => hl
  | e :: E, l, hl => fold_sorted (E := E) (l := reachStep needed l e) (step_sorted hl)

theorem reachN_sorted (E : Eg) (needed : Bool) (k : Int) : ∀ n, (reachN E needed k n).Pairwise (· < ·)
  | 0 => List.pairwise_singleton _ _
  | n + 1 => fold_sorted (reachN_sorted E needed k n)

/-- what the document reaches is all to which there is a way -/
theorem mem_reachN {N : List Int} {E : Eg} (h : Egs N E) (needed : Bool) {k : Int} (hk : k ∈ N) (x : Int) : x ∈ reachN E needed k N.length ↔ Way (adj E needed) k x := by
  refine ⟨reachN_way h needed k _ x, fun hw => ?_⟩
  have hcl : ∀ e ∈ E, reachStep needed (reachN E needed k N.length) e = reachN E needed k N.length := by
    rcases reachN_grow h needed k N.length with h1 | h1
    · exact h1
    · have := nodup_le (reachN_ok E needed k N.length).1 (reachN_in h needed hk N.length)
      omega
  have hst : k ∈ reachN E needed k N.length := by
    have : ∀ n, k ∈ reachN E needed k n := by
      intro n
      induction n with
      | zero => simp [reachN]
      | succ n ih =>
        have : ∀ (F : Eg) (l : List Int), k ∈ l → k ∈ F.foldl (reachStep needed) l := by
          intro F
          induction F with
          | nil => intro l h; exact h
          | cons e F ih =>
            intro l h
            rw [List.foldl_cons]
            refine ih _ ?_
            unfold reachStep
            split
            · exact h
            · split
              · exact mem_putZ.2 (.inr h)
              · split
                · exact mem_putZ.2 (.inr h)
                · exact h
        exact this E _ ih
    exact this _
  induction hw with
  | here => exact hst
  | step _ hr ih =>
    obtain ⟨e, he, hn, h1, h2⟩ := mem_adj hr
    have := still_closed (hcl e he) hn
    rename_i b c _
    rcases Int.le_total b c with hbc | hbc
    · rw [Int.min_eq_left hbc] at h1
      rw [Int.max_eq_right hbc] at h2
      rw [h1, h2] at this
      exact this.1 ih
    · rw [Int.min_eq_right hbc] at h1
      rw [Int.max_eq_left hbc] at h2
      rw [h1, h2] at this
      exact this.2 ih

theorem Rel.adj_near {Q : Gr} {N : List Int} {E : Eg} (h : Rel Q N E) {a b : Int} : b ∈ nearZ Q a ↔ adj E false a b := by
  rw [mem_nearZ, h.edge]
  unfold adj
  cases edgeD E a b <;> simp

theorem Rel.reach {Q : Gr} {N : List Int} {E : Eg} (h : Rel Q N E) {k : Int} {L : List Int} (hF : Found Q k L L.length) : sortZ L = reachN E false k N.length := by
  have hk : k ∈ N := (h.keys k).1 (hF.node k hF.start)
  refine sortedI_ext (sortZ_sorted hF.nodup) (reachN_sorted E false k _) fun x => ?_
  rw [mem_sortZ, hF.all x, mem_reachN h.egs false hk]
  exact ⟨fun hw => hw.mono fun _ _ => h.adj_near.1, fun hw => hw.mono fun _ _ => h.adj_near.2⟩

theorem Rel.shut {Q : Gr} {N : List Int} {E : Eg} (h : Rel Q N E) (hn : (Q.map (·.1)).Nodup) : ShutQ Q := by
  intro q hq x hx
  have hs : (edgeO q.2.2 x.1).isSome = true := edgeO_some.2 (List.mem_map_of_mem hx)
  obtain ⟨r, hr, hre, hf⟩ := find_node (List.mem_map_of_mem (f := (·.1)) hq)
  have : r = q := nodup_inj hn hr hq hre
  subst this
  have he := h.edge r.1 x.1
  unfold eQ at he
  rw [hf] at he
  simp only [Option.bind_some] at he
  rw [he] at hs
  obtain ⟨v, hv⟩ := Option.isSome_iff_exists.1 hs
  obtain ⟨e, he2, -, h1, h2⟩ := mem_adj (E := E) (needed := false) ⟨v, hv, rfl⟩
  have hen := h.ends e he2
  rw [h.keys]
  rcases Int.le_total r.1 x.1 with hb | hb
  · rw [Int.max_eq_right hb] at h2; rw [← h2]; exact hen.2.2
  · rw [Int.min_eq_right hb] at h1; rw [← h1]; exact hen.2.1

theorem Rel.start {Q : Gr} {N : List Int} (hs : N.Pairwise (· < ·)) (hk : ∀ k, k ∈ Q.map (·.1) ↔ k ∈ N) (hb : ∀ q ∈ Q, q.2.2 = []) : Rel Q N [] := by
  refine ⟨hk, hs, fun x y => ?_, by simp, List.Pairwise.nil⟩
  unfold eQ edgeD
  cases hf : Q.find? fun q => decide (q.1 = x) with
  | none => rfl
  | some q => simp [hb q (List.mem_of_find?_eq_some hf), edgeO]

end Go.Proofs.Ytjnkiloomdeljaa

namespace Go.Proofs.Ytjnkiloomdeljaa
open Go.RowKit Go.ChangeMaps

theorem near_len {w : World} {p m : Nat} {Q : Gr} (h : GrAt w p m Q) (hs : ShutQ Q) (hn : Q.length ≤ 900000) : ∀ q ∈ Q, q.2.2.length ≤ 1000000 := by
  intro q hq
  obtain ⟨es, c, hi⟩ := h.inner q hq
  have h1 : (q.2.2.map (·.1)).Nodup := by
    have := hi.keys
    simpa [innerL, List.map_map, Function.comp_def] using this
  have := nodup_le h1 (K := Q.map (·.1)) (fun x hx => by
    obtain ⟨e, he, rfl⟩ := List.mem_map.1 hx
    exact hs q hq e he)
  simp only [List.length_map] at this
  omega

end Go.Proofs.Ytjnkiloomdeljaa

namespace Go.Proofs.Ytjnkiloomdeljaa
open Go.RowKit

end Go.Proofs.Ytjnkiloomdeljaa

namespace Go.Proofs.Ytjnkiloomdeljaa
open Go.RowKit Go.ChangeMaps

/-- block j holds a map -/
def IsMap (w : World) (j : Nat) : Prop := ∃ es c, w.heap[j]? = some (.map es c)

theorem MapAt.isMap {α : Type} {mk : α → Value} {w : World} {b : Nat} {L : List (α × Value)} (h : MapAt w mk b L) : IsMap w b := by
  obtain ⟨es, c, hi⟩ := h
  exact ⟨es, c, hi.obj⟩

theorem IsMap.no {w : World} {j : Nat} (h : IsMap w j) {T : TypeId} (g : OfType w T j) : False := by
  obtain ⟨es, c, h⟩ := h
  obtain ⟨cs, fr, g⟩ := g
  rw [h] at g
  cases g

/-- what a script's calls may turn -/
def Turn (w : World) (B j : Nat) : Prop := B ≤ j ∧ (IsMap w j ∨ OfType w 60 j ∨ OfType w 96 j)

theorem own_turn {w w' : World} {B : Nat} (hm : Mod (Turn w B) w w') {B' s n : Nat} {v : Value} {xs : List Value} (h : w.ownsRow B' 37 s v n xs) : w'.ownsRow B' 37 s v n xs :=
  own_agree h fun k hk => hm.block k (h.lt k hk).2 fun ⟨_, ht⟩ => by
    have h1 := own_type h hk
    rcases ht with ht | ht | ht
    · exact ht.no h1
    · exact absurd (h1.ne ht) (by decide)
    · exact absurd (h1.ne ht) (by decide)

/-- a block of another type is as it was -/
theorem Mod.box {w w' : World} {B b T : Nat} {cs : Array Value} {fr : Nat × Nat} (hm : Mod (Turn w B) w w') (hb : w.heap[b]? = some (.cells cs T fr)) (h1 : T ≠ 60) (h2 : T ≠ 96) : w'.heap[b]? = some (.cells cs T fr) := by
  refine (hm.block b (lt_block hb) fun ⟨_, ht⟩ => ?_).trans hb
  have h : OfType w T b := ⟨_, _, hb⟩
  rcases ht with ht | ht | ht
  · exact ht.no h
  · exact h1 (h.ne ht)
  · exact h2 (h.ne ht)

theorem Turn.low {w w' : World} {B : Nat} (hm : Mod (Turn w B) w w') (hB : B ≤ w.heap.size) : Below B w w' := hm.below hB fun _ h => h.1

/-- both graphs, of the call's own -/
structure GS (B p m c : Nat) (Q : Gr) (N : List Int) (E : Eg) (w : World) : Prop where
  g : GrAt w p m Q
  d : ∃ vn ve, DGr w B c N E vn ve
  rel : Rel Q N E
  low : B ≤ p ∧ B ≤ m ∧ ∀ q ∈ Q, B ≤ q.2.1
  big : B ≤ w.heap.size

theorem GS.below {B p m c : Nat} {Q : Gr} {N : List Int} {E : Eg} {w w' : World} (h : GS B p m c Q N E w) (hb : Below w.heap.size w w') : GS B p m c Q N E w' := by
  obtain ⟨vn, ve, hd⟩ := h.d
  exact ⟨h.g.kept fun k hk => hb.block k hk, ⟨vn, ve, hd.below hb⟩, h.rel, h.low, Nat.le_trans h.big hb.size⟩

theorem GS.shut {B p m c : Nat} {Q : Gr} {N : List Int} {E : Eg} {w : World} (h : GS B p m c Q N E w) : ShutQ Q := h.rel.shut h.g.keys

theorem GS.len {B p m c : Nat} {Q : Gr} {N : List Int} {E : Eg} {w : World} (h : GS B p m c Q N E w) : Q.length ≤ N.length := by
  have := nodup_le h.g.keys fun x hx => (h.rel.keys x).1 hx
  simpa using this

/-- the program's graph turns: the document's lies elsewhere -/
theorem DGr.maps {w w' : World} {B c : Nat} {N : List Int} {E : Eg} {vn ve : Value} (h : DGr w B c N E vn ve) {F : Nat → Prop} (hm : Mod F w w') (hF : ∀ j, F j → IsMap w j) : DGr w' B c N E vn ve :=
  h.kept hm (fun j _ ht hj => (hF j hj).no ht) (fun j _ ht hj => (hF j hj).no ht) (fun j _ ht hj => (hF j hj).no ht)

/-- the document's turns: the program's lies elsewhere -/
theorem GrAt.doc {w w' : World} {p m B : Nat} {Q : Gr} (h : GrAt w p m Q) {F : Nat → Prop} (hm : Mod F w w') (hF : ∀ j, F j → DocM w B j) : GrAt w' p m Q := by
  have hmap : ∀ j, IsMap w j → w'.heap[j]? = w.heap[j]? := fun j hj => by
    obtain ⟨es, c, h1⟩ := id hj
    refine hm.block j (lt_block h1) fun hf => ?_
    rcases (hF j hf).2 with ht | ht <;> exact hj.no ht
  refine ⟨(hm.block p (lt_block h.cell) fun hf => ?_).trans h.cell, h.outer.kept (hmap m h.outer.isMap), fun q hq => (h.inner q hq).kept (hmap _ (h.inner q hq).isMap), h.apart⟩
  have hp : OfType w 93 p := ⟨_, _, h.cell⟩
  rcases (hF p hf).2 with ht | ht
  · exact absurd (hp.ne ht) (by decide)
  · exact absurd (hp.ne ht) (by decide)

theorem GrAt.blocks_map {w : World} {p m : Nat} {Q : Gr} (h : GrAt w p m Q) : ∀ j, BlocksOf Q j → IsMap w j := fun j ⟨q, hq, e⟩ => e ▸ (h.inner q hq).isMap

/-- what a script makes of nodes and edges -/
def doN (N : List Int) (a x : Int) : List Int := if a % 6 = 2 ∨ a % 6 = 3 ∨ a % 6 = 4 ∨ a % 6 = 5 then N else if x ∈ N then N else putZ N x
def doE (N : List Int) (E : Eg) (a x y : Int) : Eg :=
  if a % 6 = 2 then (bindD N E x y).2 else if a % 6 = 3 ∨ a % 6 = 4 then (linkD N E x y).2 else if a % 6 = 5 then (cutD N E x y).2 else E

theorem GS.after {B p m c : Nat} {Q Q' : Gr} {N : List Int} {E E' : Eg} {w w' w'' : World} {vn ve v : Value} (h : GS B p m c Q N E w) (hn : SameN Q Q') (hr : Rel Q' N E') (hg : GrAt w' p m Q') (hm : Mod (BlocksOf Q) w w')
    (hd : DGr w B c N E vn ve → DGr w' B c N E vn ve → DGr w'' B c N E' vn v ∧ Mod (DocM w' B) w' w'') (h0 : DGr w B c N E vn ve) : GS B p m c Q' N E' w'' ∧ Mod (Turn w B) w w'' := by
  have hmap := h.g.blocks_map
  have h1 := h0.maps hm hmap
  obtain ⟨h2, m2⟩ := hd h0 h1
  have hlow : ∀ q ∈ Q', B ≤ q.2.1 := fun q hq => by
    have : q.2.1 ∈ Q'.map (fun q => q.2.1) := List.mem_map_of_mem (f := fun q => q.2.1) hq
    rw [hn.1, List.mem_map] at this
    obtain ⟨r, hr, e⟩ := this
    rw [← e]; exact h.low.2.2 r hr
  refine ⟨⟨hg.doc m2 fun _ => id, ⟨vn, v, h2⟩, hr, ⟨h.low.1, h.low.2.1, hlow⟩, Nat.le_trans h.big (Nat.le_trans hm.size m2.size)⟩, ?_⟩
  have m1 : Mod (Turn w B) w w' := hm.mono fun j hj hf => ⟨by obtain ⟨q, hq, e⟩ := hf; rw [e]; exact h.low.2.2 q hq, .inl (hmap j hf)⟩
  refine m1.trans m2 fun j hj hf => ?_
  by_cases hF : BlocksOf Q j
  · exact ⟨by obtain ⟨q, hq, e⟩ := hF; rw [e]; exact h.low.2.2 q hq, .inl (hmap j hF)⟩
  · have hb := hm.block j hj hF
    refine ⟨hf.1, .inr ?_⟩
    rcases hf.2 with ⟨cs, fr, e⟩ | ⟨cs, fr, e⟩
    · exact .inl ⟨cs, fr, by rw [← hb]; exact e⟩
    · exact .inr ⟨cs, fr, by rw [← hb]; exact e⟩

theorem GS.link {B p m c : Nat} {Q : Gr} {N : List Int} {E : Eg} {w : World} (h : GS B p m c Q N E w) (hl : E.length ≤ 900000) (x y : Int) :
    Calls Try.prog 23 #[.pointer (some ⟨p, 0, none⟩), .int .u64 x, .int .u64 y] w fun e w1 =>
      e = .returned (.int .i64 (linkD N E x y).1) ∧ Mod (Turn w B) w w1 ∧ Calls Try.prog 24 #[.pointer (some ⟨c, 0, none⟩), .int .u64 x, .int .u64 y] w1 fun e w2 =>
        e = .returned (.int .i64 (linkD N E x y).1) ∧ (∃ Q', GS B p m c Q' N (linkD N E x y).2 w2 ∧ SameN Q Q') ∧ Mod (Turn w B) w w2 := by
  refine (gLink w p m Q x y h.g).mono ?_
  rintro e w1 ⟨rfl, hg, hm⟩
  obtain ⟨h1, h2, h3⟩ := h.rel.link x y
  obtain ⟨vn, ve, hd⟩ := h.d
  refine ⟨by rw [h1], hm.mono fun j _ hf => ⟨by obtain ⟨q, hq, e⟩ := hf; rw [e]; exact h.low.2.2 q hq, .inl (h.g.blocks_map j hf)⟩, ?_⟩
  have hd1 := hd.maps hm h.g.blocks_map
  refine (dLink w1 B c N E vn ve x y hd1 (Nat.le_trans h.big hm.size) hl).mono ?_
  rintro e w2 ⟨rfl, v, hd2, hm2⟩
  have := h.after h3 h2 hg hm (fun _ _ => ⟨hd2, hm2⟩) hd
  exact ⟨rfl, ⟨_, this.1, h3⟩, this.2⟩

theorem GS.add {B p m c : Nat} {Q : Gr} {N : List Int} {E : Eg} {w : World} (h : GS B p m c Q N E w) (hl : N.length ≤ 900000) (x : Int) :
    Calls Try.prog 21 #[.pointer (some ⟨p, 0, none⟩), .int .u64 x] w fun e w1 =>
      e = .returned (.int .i64 (if x ∈ N then 7 else 0)) ∧ Mod (Turn w B) w w1 ∧ Calls Try.prog 22 #[.pointer (some ⟨c, 0, none⟩), .int .u64 x] w1 fun e w2 =>
        e = .returned (.int .i64 (if x ∈ N then 7 else 0)) ∧ (∃ Q', GS B p m c Q' (if x ∈ N then N else putZ N x) E w2) ∧ Mod (Turn w B) w w2 := by
  refine (gAdd w p m Q x h.g).mono ?_
  obtain ⟨vn, ve, hd⟩ := h.d
  rintro e w1 (⟨hh, rfl, rfl⟩ | ⟨hh, rfl, hg, hm⟩)
  · have hx : x ∈ N := (h.rel.keys x).1 (hasB_iff.1 hh)
    simp only [hx, if_true]
    refine ⟨trivial, Mod.refl _ _, ?_⟩
    refine (dAdd w1 B c N E vn ve x hd hl h.big).mono ?_
    rintro e w2 (⟨-, rfl, rfl⟩ | ⟨hn, -⟩)
    · exact ⟨rfl, ⟨Q, h⟩, Mod.refl _ _⟩
    · exact absurd hx hn
  · have hx : x ∉ N := fun hx => by rw [hasB_iff.2 ((h.rel.keys x).2 hx)] at hh; cases hh
    simp only [hx, if_false]
    have hmap : ∀ j, j = m → IsMap w j := fun j e => e ▸ h.g.outer.isMap
    have hd1 := hd.maps hm hmap
    have hB1 := Nat.le_trans h.big hm.size
    refine ⟨trivial, hm.mono fun j _ e => ⟨e ▸ h.low.2.1, .inl (hmap j e)⟩, ?_⟩
    refine (dAdd w1 B c N E vn ve x hd1 hl hB1).mono ?_
    rintro e w2 (⟨hn, -⟩ | ⟨-, rfl, v, hd2, hm2⟩)
    · exact absurd hn hx
    · have hg2 := hg.doc (B := B) hm2 fun j e => ⟨e ▸ hd.low, .inl (e ▸ ⟨_, _, hd1.cell⟩)⟩
      refine ⟨rfl, ⟨_, ⟨hg2, ⟨v, ve, hd2⟩, h.rel.add hx _, ⟨h.low.1, h.low.2.1, fun q hq => ?_⟩, Nat.le_trans hB1 hm2.size⟩⟩, ?_⟩
      · rcases List.mem_append.1 hq with hq | hq
        · exact h.low.2.2 q hq
        · rw [List.mem_singleton.1 hq]; exact h.big
      · have m1 : Mod (Turn w B) w w1 := hm.mono fun j hj e => ⟨e ▸ h.low.2.1, .inl (hmap j e)⟩
        exact m1.trans hm2 fun j hj e => by
          subst e
          exact ⟨hd.low, .inr (.inl ⟨_, _, hd.cell⟩)⟩

end Go.Proofs.Ytjnkiloomdeljaa

namespace Go.Proofs.Ytjnkiloomdeljaa
open Go.RowKit Go.ChangeMaps

/-- the program's graph, of the call's own, is the document's -/
structure GP (B p m : Nat) (Q : Gr) (N : List Int) (E : Eg) (w : World) : Prop where
  g : GrAt w p m Q
  rel : Rel Q N E
  low : B ≤ p ∧ B ≤ m ∧ ∀ q ∈ Q, B ≤ q.2.1
  big : B ≤ w.heap.size

theorem GS.gp {B p m c : Nat} {Q : Gr} {N : List Int} {E : Eg} {w : World} (h : GS B p m c Q N E w) : GP B p m Q N E w := ⟨h.g, h.rel, h.low, h.big⟩

theorem GP.below {B p m : Nat} {Q : Gr} {N : List Int} {E : Eg} {w w' : World} (h : GP B p m Q N E w) (hb : Below w.heap.size w w') : GP B p m Q N E w' :=
  ⟨h.g.kept fun k hk => hb.block k hk, h.rel, h.low, Nat.le_trans h.big hb.size⟩

theorem GP.shut {B p m : Nat} {Q : Gr} {N : List Int} {E : Eg} {w : World} (h : GP B p m Q N E w) : ShutQ Q := h.rel.shut h.g.keys

theorem GP.len {B p m : Nat} {Q : Gr} {N : List Int} {E : Eg} {w : World} (h : GP B p m Q N E w) : Q.length = N.length := by
  have h1 := nodup_le h.g.keys fun x hx => (h.rel.keys x).1 hx
  have h2 := nodup_le (sorted_nodup h.rel.sorted) fun x hx => (h.rel.keys x).2 hx
  simp only [List.length_map] at h1 h2
  omega

theorem GP.to {B p m : Nat} {Q Q' : Gr} {N : List Int} {E E' : Eg} {w w' : World} (h : GP B p m Q N E w) (hn : SameN Q Q') (hr : Rel Q' N E') (hg : GrAt w' p m Q') (hm : Mod (BlocksOf Q) w w') : GP B p m Q' N E' w' ∧ Mod (Turn w B) w w' := by
  refine ⟨⟨hg, hr, ⟨h.low.1, h.low.2.1, fun q hq => ?_⟩, Nat.le_trans h.big hm.size⟩, hm.mono fun j _ hf => ⟨by obtain ⟨q, hq, e⟩ := hf; rw [e]; exact h.low.2.2 q hq, .inl (h.g.blocks_map j hf)⟩⟩
  have : q.2.1 ∈ Q'.map (fun q => q.2.1) := List.mem_map_of_mem (f := fun q => q.2.1) hq
  rw [hn.1, List.mem_map] at this
  obtain ⟨r, hr, e⟩ := this
  rw [← e]; exact h.low.2.2 r hr

theorem GP.link {B p m : Nat} {Q : Gr} {N : List Int} {E : Eg} {w : World} (h : GP B p m Q N E w) (x y : Int) :
    Calls Try.prog 23 #[.pointer (some ⟨p, 0, none⟩), .int .u64 x, .int .u64 y] w fun e w1 => e = .returned (.int .i64 (linkD N E x y).1) ∧ (∃ Q', GP B p m Q' N (linkD N E x y).2 w1) ∧ Mod (Turn w B) w w1 := by
  refine (gLink w p m Q x y h.g).mono ?_
  rintro e w1 ⟨rfl, hg, hm⟩
  obtain ⟨h1, h2, h3⟩ := h.rel.link x y
  have := h.to h3 h2 hg hm
  exact ⟨by rw [h1], ⟨_, this.1⟩, this.2⟩

/-- one node more -/
def addD (N : List Int) (x : Int) : Int × List Int := if x ∈ N then (7, N) else (0, putZ N x)

theorem GP.add {B p m : Nat} {Q : Gr} {N : List Int} {E : Eg} {w : World} (h : GP B p m Q N E w) (x : Int) :
    Calls Try.prog 21 #[.pointer (some ⟨p, 0, none⟩), .int .u64 x] w fun e w1 => e = .returned (.int .i64 (addD N x).1) ∧ (∃ Q', GP B p m Q' (addD N x).2 E w1) ∧ Mod (Turn w B) w w1 := by
  refine (gAdd w p m Q x h.g).mono ?_
  rintro e w1 (⟨hh, rfl, rfl⟩ | ⟨hh, rfl, hg, hm⟩)
  · have hx : x ∈ N := (h.rel.keys x).1 (hasB_iff.1 hh)
    have ha : addD N x = (7, N) := by unfold addD; rw [if_pos hx]
    rw [ha]
    exact ⟨rfl, ⟨Q, h⟩, Mod.refl _ _⟩
  · have hx : x ∉ N := fun hx => by rw [hasB_iff.2 ((h.rel.keys x).2 hx)] at hh; cases hh
    have ha : addD N x = (0, putZ N x) := by unfold addD; rw [if_neg hx]
    rw [ha]
    refine ⟨rfl, ⟨_, ⟨hg, h.rel.add hx _, ⟨h.low.1, h.low.2.1, fun q hq => ?_⟩, Nat.le_trans h.big hm.size⟩⟩, hm.mono fun j hj e => ⟨e ▸ h.low.2.1, .inl (e ▸ h.g.outer.isMap)⟩⟩
    rcases List.mem_append.1 hq with hq | hq
    · exact h.low.2.2 q hq
    · rw [List.mem_singleton.1 hq]; exact h.big

theorem GP.near {B p m : Nat} {Q : Gr} {N : List Int} {E : Eg} {w : World} (h : GP B p m Q N E w) (hl : N.length ≤ 100000) (x : Int) :
    Calls Try.prog 14 #[.pointer (some ⟨p, 0, none⟩), .int .u64 x] w (NewL w (nearD E x false)) := by
  have := gNear w p m Q x h.g (near_len h.g h.shut (by rw [h.len]; omega))
  rw [h.rel.near h.g.inn] at this
  exact this

theorem NewL.nil {w : World} {e : Ending} (he : e = .returned (.slice none 0 0)) {w' : World} (hw : w' = w) : NewL w [] e w' := by
  subst hw
  exact ⟨_, he, ⟨rfl, .inl ⟨rfl, rfl⟩⟩, Below.refl _ _⟩

theorem GP.has {B p m : Nat} {Q : Gr} {N : List Int} {E : Eg} {w : World} (h : GP B p m Q N E w) (x : Int) :
    Calls Try.prog 39 #[.pointer (some ⟨p, 0, none⟩), .int .u64 x] w fun e w' => e = .returned (.bool (decide (x ∈ N))) ∧ w' = w := by
  have := gHas w p m Q x h.g
  rwa [show hasB Q x = decide (x ∈ N) from by rw [Bool.eq_iff_iff, hasB_iff, h.rel.keys, decide_eq_true_eq]] at this

theorem GP.keys {B p m : Nat} {Q : Gr} {N : List Int} {E : Eg} {w : World} (h : GP B p m Q N E w) (hl : N.length ≤ 100000) :
    Calls Try.prog 19 #[.pointer (some ⟨p, 0, none⟩)] w (NewL w N) := by
  have := gKeys w p m Q h.g (by rw [h.len]; omega)
  rw [sortedI_ext (sortZ_sorted h.g.keys) h.rel.sorted fun x => by rw [mem_sortZ, h.rel.keys]] at this
  exact this

theorem GP.length {B p m : Nat} {Q : Gr} {N : List Int} {E : Eg} {w : World} (h : GP B p m Q N E w) :
    Calls Try.prog 16 #[.pointer (some ⟨p, 0, none⟩)] w fun e w' => e = .returned (.int .i64 N.length) ∧ w' = w := by
  have := gLen w p m Q h.g
  rwa [h.len] at this

/-- a new graph of these nodes -/
theorem mem_addAll0 {xs : List Int} {x : Int} : x ∈ addAll [] xs ↔ x ∈ xs := by rw [mem_addAll]; simp

theorem GP.new (w : World) (xs N : List Int) (v : Value) (hN : Nums w .u64 v xs) (hb : LiesIn (fun b => b < w.heap.size) v xs.length) (hn : xs.length ≤ 1000000) (hs : N.Pairwise (· < ·)) (hm : ∀ x, x ∈ xs ↔ x ∈ N) :
    Calls Try.prog 20 #[v] w fun e w' => ∃ p m Q, e = .returned (.pointer (some ⟨p, 0, none⟩)) ∧ GP w.heap.size p m Q N [] w' ∧ Below w.heap.size w w' := by
  refine (gNew w xs v hN hb hn).mono ?_
  rintro e w' ⟨p, m, Q, rfl, hG, hB⟩
  exact ⟨p, m, Q, rfl, ⟨hG.at_, Rel.start hs (fun k => by rw [hG.nodes, mem_addAll0, hm]) (fun q hq => (hG.bare q hq).1), ⟨hG.base.1, hG.base.2, fun q hq => (hG.bare q hq).2⟩, hB.size⟩, hB⟩

end Go.Proofs.Ytjnkiloomdeljaa

namespace Go.Proofs.Ytjnkiloomdeljaa
open Go.RowKit Go.ChangeMaps

/-- a field: two graphs side by side, and how far their nodes are -/
structure Fld (w0 w : World) (f x p m c : Nat) (Q : Gr) (N : List Int) (E : Eg) (lv : Value) (L : List Hz) : Prop where
  fcell : w.heap[f]? = some (.cells #[.pointer (some ⟨p, 0, none⟩), .pointer (some ⟨x, 0, none⟩)] 34 (0, 0))
  xcell : w.heap[x]? = some (.cells #[.pointer (some ⟨c, 0, none⟩), lv] 50 (0, 0))
  gs : GS w0.heap.size p m c Q N E w
  row : w.ownsRow w0.heap.size 43 3 lv L.length (flat3 (L.map bareV))
  low : w0.heap.size ≤ f ∧ w0.heap.size ≤ x
  old : Below w0.heap.size w0 w

theorem Fld.below {w0 w w' : World} {f x p m c : Nat} {Q : Gr} {N : List Int} {E : Eg} {lv : Value} {L : List Hz} (h : Fld w0 w f x p m c Q N E lv L) (hb : Below w.heap.size w w') : Fld w0 w' f x p m c Q N E lv L :=
  ⟨(hb.block f (lt_block h.fcell)).trans h.fcell, (hb.block x (lt_block h.xcell)).trans h.xcell, h.gs.below hb, own_below h.row hb, h.low, h.old.trans (hb.mono h.old.size)⟩

theorem Fld.hits {w0 w : World} {f x p m c : Nat} {Q : Gr} {N : List Int} {E : Eg} {lv : Value} {L : List Hz} (h : Fld w0 w f x p m c Q N E lv L) (hb : ∀ y ∈ L, y.vec = []) : HitsF w (fun k => lv.ownBlock = some k) lv L :=
  HitsF.of_own h.row (fun b hb => hb) (bare_rows hb)

set_option maxRecDepth 100000 in
theorem fieldFar (w : World) (f x : Nat) (lv : Value) (F : Nat → Prop) (l : List Hz) (k : Int) (hf : w.cell? ⟨f, 1, none⟩ = some (.pointer (some ⟨x, 0, none⟩))) (hx : w.cell? ⟨x, 1, none⟩ = some lv) (hl : HitsF w F lv l) :
    Calls Try.prog 107 #[.pointer (some ⟨f, 0, none⟩), .int .u64 k] w fun e w' => ∃ v, e = .returned v ∧ v = .tuple #[.int .u64 ((farL l k).getD 0), .bool (farL l k).isSome] ∧ Below w.heap.size w w' := by
  have cF := Lib.hid (refFar w x lv F l k hx hl)
  clear hx hl
  go_enter Try.func107, Try.ntmps107
  go_wp2_with (go_at_call 13; (with_reducible refine cF.out.mono ?_); rintro e w1 ⟨v, rfl, rfl, hb⟩; have B := Lib.hid hb; clear hb)
  go_ret2
  exact ⟨_, rfl, rfl, B.out⟩

/-- a method's lookup -/
theorem field_far (w : World) (f : Nat) : Sem.run Try.prog (method (Try.prog.types.size + 100) 26 (.pointer (some ⟨f, 0, none⟩)) "Far") w = .ok (107, .pointer (some ⟨f, 0, none⟩)) w := by
  kernel_rfl

theorem field_near0 (w : World) (f : Nat) : Sem.run Try.prog (method (Try.prog.types.size + 100) 26 (.pointer (some ⟨f, 0, none⟩)) "Near") w = Sem.run Try.prog (loadVar 31 ⟨f, 0, none⟩ >>= fun v => pure (14, v)) w := by
  kernel_rfl

theorem field_near (w : World) (f p : Nat) (h : w.cell? ⟨f, 0, none⟩ = some (.pointer (some ⟨p, 0, none⟩))) : Sem.run Try.prog (method (Try.prog.types.size + 100) 26 (.pointer (some ⟨f, 0, none⟩)) "Near") w = .ok (14, .pointer (some ⟨p, 0, none⟩)) w := by
  rw [field_near0]
  go_simp

theorem enter_far (args : Array Value) (w : World) : (callFunc 107 args).run Try.prog w = .ok (.enter 107 args) w := by
  kernel_rfl

theorem enter_near (args : Array Value) (w : World) : (callFunc 14 args).run Try.prog w = .ok (.enter 14 args) w := by
  kernel_rfl

/-- a field is a space -/
theorem Fld.space {w0 w : World} {f x p m c : Nat} {Q : Gr} {N : List Int} {E : Eg} {lv : Value} {L : List Hz} (h : Fld w0 w f x p m c Q N E lv L) (hb : ∀ y ∈ L, y.vec = []) (hN : N.length ≤ 100000) :
    SpaceAt w 26 (.pointer (some ⟨f, 0, none⟩)) (farL L) (fun k => nearD E k false) 107 (.pointer (some ⟨f, 0, none⟩)) 14 (.pointer (some ⟨p, 0, none⟩)) where
  mF := fun W _ => field_far W f
  eF := enter_far
  cF := fun W hW k => by
    have h2 := h.below hW
    exact fieldFar W f x lv _ L k (cellsB h2.fcell 1) (cellsB h2.xcell 1) (h2.hits hb)
  mN := fun W hW => field_near W f p (cellsB (h.below hW).fcell 0)
  eN := enter_near
  cN := fun W hW k => (h.below hW).gs.gp.near hN k

end Go.Proofs.Ytjnkiloomdeljaa

namespace Go.Proofs.Ytjnkiloomdeljaa
open Go.RowKit Go.ChangeMaps

section
variable {B p m c : Nat} {Q : Gr} {N : List Int} {E : Eg} {w : World}

theorem GS.addOld (h : GS B p m c Q N E w) {x : Int} (hx : x ∈ N) :
    Calls Try.prog 21 #[.pointer (some ⟨p, 0, none⟩), .int .u64 x] w fun e w1 => e = .returned (.int .i64 7) ∧ w1 = w := by
  refine (gAdd w p m Q x h.g).mono ?_
  rintro e w1 (⟨hh, rfl, rfl⟩ | ⟨hh, -⟩)
  · exact ⟨rfl, rfl⟩
  · rw [hasB_iff.2 ((h.rel.keys x).2 hx)] at hh; cases hh

theorem GS.addNew (h : GS B p m c Q N E w) (hl : N.length ≤ 900000) {x : Int} (hx : x ∉ N) :
    Calls Try.prog 21 #[.pointer (some ⟨p, 0, none⟩), .int .u64 x] w fun e w1 =>
      e = .returned (.int .i64 0) ∧ Mod (Turn w B) w w1 ∧ ∀ W, Below w1.heap.size w1 W → Calls Try.prog 22 #[.pointer (some ⟨c, 0, none⟩), .int .u64 x] W fun e w2 =>
        e = .returned (.int .i64 0) ∧ (∃ Q', GS B p m c Q' (putZ N x) E w2) ∧ Mod (Turn w B) w w2 := by
  refine (gAdd w p m Q x h.g).mono ?_
  obtain ⟨vn, ve, hd⟩ := h.d
  rintro e w1 (⟨hh, -⟩ | ⟨hh, rfl, hg, hm⟩)
  · exact absurd ((h.rel.keys x).1 (hasB_iff.1 hh)) hx
  have hmap : ∀ j, j = m → IsMap w j := fun j e => e ▸ h.g.outer.isMap
  have m1 : Mod (Turn w B) w w1 := hm.mono fun j hj e => ⟨e ▸ h.low.2.1, .inl (hmap j e)⟩
  refine ⟨rfl, m1, fun W hW => ?_⟩
  have hd1 := (hd.maps hm hmap).below hW
  have hg1 := hg.kept fun k hk => hW.block k hk
  have hB1 := Nat.le_trans h.big (Nat.le_trans hm.size hW.size)
  refine (dAdd W B c N E vn ve x hd1 hl hB1).mono ?_
  rintro e w2 (⟨hn, -⟩ | ⟨-, rfl, v, hd2, hm2⟩)
  · exact absurd hn hx
  · have hg2 := hg1.doc (B := B) hm2 fun j e => ⟨e ▸ hd.low, .inl (e ▸ ⟨_, _, hd1.cell⟩)⟩
    refine ⟨rfl, ⟨_, ⟨hg2, ⟨v, ve, hd2⟩, h.rel.add hx _, ⟨h.low.1, h.low.2.1, fun q hq => ?_⟩, Nat.le_trans hB1 hm2.size⟩⟩, ?_⟩
    · rcases List.mem_append.1 hq with hq | hq
      · exact h.low.2.2 q hq
      · rw [List.mem_singleton.1 hq]; exact h.big
    · exact (m1.andBelow hW).trans hm2 fun j hj e => by
        subst e
        exact ⟨hd.low, .inr (.inl ⟨_, _, hd.cell⟩)⟩

theorem GS.linkTwo (h : GS B p m c Q N E w) (hl : E.length ≤ 900000) (x y : Int) :
    Calls Try.prog 23 #[.pointer (some ⟨p, 0, none⟩), .int .u64 x, .int .u64 y] w fun e w1 =>
      e = .returned (.int .i64 (linkD N E x y).1) ∧ Mod (Turn w B) w w1 ∧ ∀ W, Below w1.heap.size w1 W → Calls Try.prog 24 #[.pointer (some ⟨c, 0, none⟩), .int .u64 x, .int .u64 y] W fun e w2 =>
        e = .returned (.int .i64 (linkD N E x y).1) ∧ (∃ Q', GS B p m c Q' N (linkD N E x y).2 w2) ∧ Mod (Turn w B) w w2 := by
  refine (gLink w p m Q x y h.g).mono ?_
  rintro e w1 ⟨rfl, hg, hm⟩
  obtain ⟨h1, h2, h3⟩ := h.rel.link x y
  obtain ⟨vn, ve, hd⟩ := h.d
  refine ⟨by rw [h1], hm.mono fun j _ hf => ⟨by obtain ⟨q, hq, e⟩ := hf; rw [e]; exact h.low.2.2 q hq, .inl (h.g.blocks_map j hf)⟩, fun W hW => ?_⟩
  have hmW := hm.andBelow hW
  have hgW := hg.kept fun k hk => hW.block k hk
  have hd1 := hd.maps hmW h.g.blocks_map
  refine (dLink W B c N E vn ve x y hd1 (Nat.le_trans h.big hmW.size) hl).mono ?_
  rintro e w2 ⟨rfl, v, hd2, hm2⟩
  have := h.after h3 h2 hgW hmW (fun _ _ => ⟨hd2, hm2⟩) hd
  exact ⟨rfl, ⟨_, this.1⟩, this.2⟩

/-- what turns is of other types than a graph's -/
theorem GS.other (h : GS B p m c Q N E w) {F : Nat → Prop} {w' : World} (hm : Mod F w w') (hF : ∀ j, F j → OfType w 43 j ∨ OfType w 50 j) : GS B p m c Q N E w' := by
  obtain ⟨vn, ve, hd⟩ := h.d
  have no : ∀ T, T ≠ 43 → T ≠ 50 → ∀ j, OfType w T j → ¬ F j := fun T h1 h2 j ht hf => by
    rcases hF j hf with e | e
    · exact h1 (ht.ne e)
    · exact h2 (ht.ne e)
  have hmap : ∀ j, IsMap w j → w'.heap[j]? = w.heap[j]? := fun j hj => by
    obtain ⟨es, c, h1⟩ := id hj
    refine hm.block j (lt_block h1) fun hf => ?_
    rcases hF j hf with ht | ht <;> exact hj.no ht
  refine ⟨⟨(hm.block p (lt_block h.g.cell) (no _ (by decide) (by decide) p ⟨_, _, h.g.cell⟩)).trans h.g.cell, h.g.outer.kept (hmap m h.g.outer.isMap), fun q hq => (h.g.inner q hq).kept (hmap _ (h.g.inner q hq).isMap), h.g.apart⟩, ⟨vn, ve, hd.kept hm (fun j _ ht => no _ (by decide) (by decide) j ht) (fun j _ ht => no _ (by decide) (by decide) j ht) (fun j _ ht => no _ (by decide) (by decide) j ht)⟩, h.rel, h.low, Nat.le_trans h.big hm.size⟩
end

section
variable {w0 w w' : World} {f x p m c : Nat} {Q Q' : Gr} {N N' : List Int} {E E' : Eg} {lv : Value} {L : List Hz}

theorem own_turnH {B : Nat} (hm : Mod (Turn w B) w w') {B' s n : Nat} {v : Value} {xs : List Value} (h : w.ownsRow B' 43 s v n xs) : w'.ownsRow B' 43 s v n xs :=
  own_agree h fun k hk => hm.block k (h.lt k hk).2 fun ⟨_, ht⟩ => by
    have h1 := own_type h hk
    rcases ht with ht | ht | ht
    · exact ht.no h1
    · exact absurd (h1.ne ht) (by decide)
    · exact absurd (h1.ne ht) (by decide)

/-- the graphs turn -/
theorem Fld.turn (h : Fld w0 w f x p m c Q N E lv L) (hm : Mod (Turn w w0.heap.size) w w') (g : GS w0.heap.size p m c Q' N' E' w') : Fld w0 w' f x p m c Q' N' E' lv L :=
  ⟨hm.box h.fcell (by decide) (by decide), hm.box h.xcell (by decide) (by decide), g, own_turnH hm h.row, h.low, h.old.trans (hm.below h.old.size fun _ hk => hk.1)⟩

/-- one node more that is so far -/
theorem Fld.push (h : Fld w0 w f x p m c Q N E lv L) (k d : Int) (hL : L.length ≤ 100000) : ∃ (g cp : Nat) (w' : World), (∀ ty, (Builtin.append_ #[22, 22] ty #[lv, .slice (some ⟨w.heap.size, 0, none⟩) 1 1]).run Try.prog (w.alloc (.cells #[.int .u64 k, .int .u64 d, .slice none 0 0] 43)) = .ok (.slice (some ⟨g, 0, none⟩) (L.length + 1) cp) w') ∧
    Fld w0 (w'.setCell ⟨x, 1, none⟩ (.slice (some ⟨g, 0, none⟩) (L.length + 1) cp)) f x p m c Q N E (.slice (some ⟨g, 0, none⟩) (L.length + 1) cp) (L ++ [hitK k d]) ∧ w'.heap[f]? = w.heap[f]? ∧ w'.heap[x]? = w.heap[x]? ∧ ∀ j, j < w.heap.size → lv.ownBlock ≠ some j → w'.heap[j]? = w.heap[j]? := by
  obtain ⟨g, cp, w', hrun, hown, hg, hat, hgl⟩ := run_push rowHit h.row h.old.size #[.int .u64 k, .int .u64 d, .slice none 0 0] rfl (by simp [Value.oneCell']) (by simp [maxLen]; omega) (by omega)
  have hb1 : Below w.heap.size w (w.alloc (.cells #[.int .u64 k, .int .u64 d, .slice none 0 0] 43)) := (Below.refl _ w).alloc (Nat.le_refl _) _
  have hmw : Mod (fun j => lv.ownBlock = some j) w w' := (Mod.of_below (F := fun j => lv.ownBlock = some j) hb1).grown hg (fun j hj => .inl hj)
  have nf : lv.ownBlock ≠ some f := fun e => absurd (OfType.ne (own_type h.row e) ⟨_, _, h.fcell⟩) (by decide)
  have nx : lv.ownBlock ≠ some x := fun e => absurd (OfType.ne (own_type h.row e) ⟨_, _, h.xcell⟩) (by decide)
  have hfx : f ≠ x := fun e => by have h1 := h.fcell; rw [e, h.xcell] at h1; cases h1
  have hcf := hmw.block f (lt_block h.fcell) nf
  have hcx := hmw.block x (lt_block h.xcell) nx
  have hset := setBk (hcx.trans h.xcell) 1 (.slice (some ⟨g, 0, none⟩) (L.length + 1) cp)
  have hgx : g ≠ x := by
    rcases hat with e | e
    · rintro rfl; exact nx e
    · have := lt_block h.xcell; omega
  have ef : flat3 ((L ++ [hitK k d]).map bareV) = flat3 (L.map bareV) ++ [.int .u64 k, .int .u64 d, .slice none 0 0] := by rw [List.map_append, flat3_append]; rfl
  have hown' : (w'.setCell ⟨x, 1, none⟩ (.slice (some ⟨g, 0, none⟩) (L.length + 1) cp)).ownsRow w0.heap.size 43 3 (.slice (some ⟨g, 0, none⟩) (L.length + 1) cp) (L ++ [hitK k d]).length (flat3 ((L ++ [hitK k d]).map bareV)) := by
    rw [ef, List.length_append]
    exact own_agree hown fun j hj => setBk_other (fun e => hgx ((show g = j from by simpa [Value.ownBlock] using hj).trans e))
  have hm2 : Mod (fun j => lv.ownBlock = some j ∨ j = x) w (w'.setCell ⟨x, 1, none⟩ (.slice (some ⟨g, 0, none⟩) (L.length + 1) cp)) := (hmw.mono fun j _ e => .inl e).setCell (p := ⟨x, 1, none⟩) (.inl (.inr rfl)) _
  refine ⟨g, cp, w', hrun, ⟨(setBk_other hfx).trans (hcf.trans h.fcell), by simpa using hset, h.gs.other hm2 (fun j hj => ?_), hown', h.low, h.old.trans (hm2.below h.old.size fun j hj => ?_)⟩, hcf, hcx, fun j hj hne => hmw.block j hj hne⟩
  · rcases hj with hj | rfl
    · exact .inl (own_type h.row hj)
    · exact .inr ⟨_, _, h.xcell⟩
  · rcases hj with hj | rfl
    · exact (h.row.lt j hj).1
    · exact h.low.2
end

end Go.Proofs.Ytjnkiloomdeljaa
