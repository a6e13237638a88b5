/-
  graph: the program's graph and the document's (plain): who is near, to whom there is a way.
  graph: Reach.
-/
import Derived.Test.YtpjbkaibgajpcaaJ38
import Derived.Test.YtpjbkaibgajpcaaJ36
namespace Go.Proofs.Ytpjbkaibgajpcaa
open Go.RowKit

/-- what one edge says of k's neighbours -/
def nearO (k : Int) (soft : Bool) (e : Int × Int × Bool) : Option Int :=
  if (soft && e.2.2) = true then none else if e.1 = k then some e.2.1 else if e.2.1 = k then some e.1 else none

def nearL (E : Eg) (k : Int) (soft : Bool) : List Int := E.filterMap (nearO k soft)

theorem nearD_eq (E : Eg) (k : Int) (soft : Bool) : nearD E k soft = (nearL E k soft).foldl putZ [] := by
  have : ∀ (E : Eg) (out : List Int), E.foldl (nearStep k soft) out = (E.filterMap (nearO k soft)).foldl putZ out := by
    intro E
    induction E with
    | nil => intro out; rfl
    | cons e E ih =>
      intro out
      rw [List.foldl_cons, ih, List.filterMap_cons]
      unfold nearStep nearO
      split
      · rfl
      · split
        · rfl
        · split <;> rfl
  exact this E []

theorem foldl_putZ_perm : ∀ (l out : List Int), (l.foldl putZ out).Perm (l ++ out)
  | [], _ => List.Perm.refl _
  | x :: l, out => (foldl_putZ_perm l (putZ out x)).trans ((List.Perm.append_left l (putZ_perm out x)).trans List.perm_middle)

theorem foldl_putZ_sorted : ∀ (l out : List Int), out.Pairwise (· < ·) → (l ++ out).Nodup → (l.foldl putZ out).Pairwise (· < ·)
  | [], _, h, _ => h
  | x :: l, out, h, hn => by
    have hx : x ∉ out := fun hh => (List.nodup_cons.1 hn).1 (List.mem_append_right _ hh)
    refine foldl_putZ_sorted l (putZ out x) (putZ_sorted h hx) ?_
    exact ((List.Perm.append_left l (putZ_perm out x)).trans List.perm_middle).nodup_iff.2 hn

theorem once_eq {E : Eg} (ho : E.Pairwise fun e f => ¬ (e.1 = f.1 ∧ e.2.1 = f.2.1)) {e f : Int × Int × Bool} (he : e ∈ E) (hf : f ∈ E) (h1 : e.1 = f.1) (h2 : e.2.1 = f.2.1) : e = f := by
  induction E with
  | nil => cases he
  | cons g E ih =>
    rw [List.pairwise_cons] at ho
    rcases List.mem_cons.1 he with h3 | h3
    · rcases List.mem_cons.1 hf with h4 | h4
      · rw [h3, h4]
      · exact absurd ⟨by rw [← h3]; exact h1, by rw [← h3]; exact h2⟩ (ho.1 f h4)
    · rcases List.mem_cons.1 hf with h4 | h4
      · exact absurd ⟨by rw [← h4]; exact h1.symm, by rw [← h4]; exact h2.symm⟩ (ho.1 e h3)
      · exact ih ho.2 h3 h4

theorem nearO_some {k x : Int} {soft : Bool} {e : Int × Int × Bool} (hlt : e.1 < e.2.1) : nearO k soft e = some x ↔ (soft && e.2.2) = false ∧ e.1 = min k x ∧ e.2.1 = max k x := by
  unfold nearO
  by_cases h : (soft && e.2.2) = true
  · simp [h]
  · have h' : (soft && e.2.2) = false := by simpa using h
    rw [if_neg h]
    simp only [h', true_and]
    by_cases h1 : e.1 = k
    · rw [if_pos h1, Option.some.injEq]
      omega
    · rw [if_neg h1]
      by_cases h2 : e.2.1 = k
      · rw [if_pos h2, Option.some.injEq]
        omega
      · rw [if_neg h2]
        constructor
        · intro h; cases h
        · intro h; omega

structure Egs (N : List Int) (E : Eg) : Prop where
  ends : ∀ e ∈ E, e.1 < e.2.1 ∧ e.1 ∈ N ∧ e.2.1 ∈ N
  once : E.Pairwise fun e f => ¬ (e.1 = f.1 ∧ e.2.1 = f.2.1)

theorem Rel.egs {Q : Gr} {N : List Int} {E : Eg} (h : Rel Q N E) : Egs N E := ⟨h.ends, h.once⟩

theorem mem_nearL {N : List Int} {E : Eg} (h : Egs N E) {k x : Int} {soft : Bool} : x ∈ nearL E k soft ↔ ∃ v, edgeD E k x = some v ∧ (soft && v) = false := by
  unfold nearL edgeD
  rw [List.mem_filterMap]
  constructor
  · rintro ⟨e, he, hn⟩
    obtain ⟨h1, h2, h3⟩ := (nearO_some (h.ends e he).1).1 hn
    cases hf : E.find? (isE (min k x) (max k x)) with
    | none => exact absurd (isE_iff.2 ⟨h2, h3⟩) (by simpa using List.find?_eq_none.1 hf e he)
    | some f =>
      have hfe := isE_iff.1 (List.find?_some hf)
      have : e = f := once_eq h.once he (List.mem_of_find?_eq_some hf) (h2.trans hfe.1.symm) (h3.trans hfe.2.symm)
      subst this
      exact ⟨e.2.2, rfl, h1⟩
  · rintro ⟨v, hv, hs⟩
    rw [Option.map_eq_some_iff] at hv
    obtain ⟨e, hf, rfl⟩ := hv
    have he := List.mem_of_find?_eq_some hf
    have hfe := isE_iff.1 (List.find?_some hf)
    exact ⟨e, he, (nearO_some (h.ends e he).1).2 ⟨hs, hfe⟩⟩

theorem nodup_nearL {N : List Int} {E : Eg} (h : Egs N E) (k : Int) (soft : Bool) : (nearL E k soft).Nodup := by
  unfold nearL
  refine List.Pairwise.filterMap (R := fun e f => (e.1 < e.2.1 ∧ f.1 < f.2.1) ∧ ¬ (e.1 = f.1 ∧ e.2.1 = f.2.1)) _ ?_ (h.once.imp_of_mem fun ha hb hr => ⟨⟨(h.ends _ ha).1, (h.ends _ hb).1⟩, hr⟩)
  rintro e f ⟨⟨h1, h2⟩, h3⟩ x hx y hy rfl
  have a1 := ((nearO_some h1).1 hx).2
  have a2 := ((nearO_some h2).1 hy).2
  exact h3 ⟨a1.1.trans a2.1.symm, a1.2.trans a2.2.symm⟩

theorem nearD_sorted {N : List Int} {E : Eg} (h : Egs N E) (k : Int) (soft : Bool) : (nearD E k soft).Pairwise (· < ·) := by
  rw [nearD_eq]
  exact foldl_putZ_sorted _ _ List.Pairwise.nil (by simpa using nodup_nearL h k soft)

theorem mem_nearD {N : List Int} {E : Eg} (h : Egs N E) {k x : Int} {soft : Bool} : x ∈ nearD E k soft ↔ ∃ v, edgeD E k x = some v ∧ (soft && v) = false := by
  rw [nearD_eq, (foldl_putZ_perm _ _).mem_iff, List.append_nil]
  exact mem_nearL h

/-- each node's edges lead to each at most once -/
def Inner (Q : Gr) : Prop := ∀ q ∈ Q, (q.2.2.map (·.1)).Nodup

theorem GrAt.inn {w : World} {p m : Nat} {Q : Gr} (h : GrAt w p m Q) : Inner Q := by
  intro q hq
  obtain ⟨es, c, hi⟩ := h.inner q hq
  have := hi.keys
  simpa [innerL, List.map_map, Function.comp_def] using this

theorem edgeO_some {E : List (Int × Bool)} {x : Int} : (edgeO E x).isSome = true ↔ x ∈ E.map (·.1) := by
  unfold edgeO
  rw [Option.isSome_map, List.find?_isSome, List.mem_map]
  simp

theorem mem_nearZ {Q : Gr} {k x : Int} : x ∈ nearZ Q k ↔ (eQ Q k x).isSome = true := by
  unfold nearZ eQ
  cases hf : Q.find? fun q => decide (q.1 = k) with
  | none => simp
  | some q =>
    simp only [Option.map_some, Option.getD_some, Option.bind_some]
    rw [mem_sortZ, edgeO_some]

theorem mem_softZ {Q : Gr} {k x : Int} : x ∈ softZ Q k ↔ eQ Q k x = some false := by
  unfold softZ eQ
  cases hf : Q.find? fun q => decide (q.1 = k) with
  | none => simp
  | some q =>
    simp only [Option.map_some, Option.getD_some, Option.bind_some]
    rw [List.mem_filter, mem_sortZ, ← edgeO_some]
    unfold needB
    cases edgeO q.2.2 x with
    | none => simp
    | some v => cases v <;> simp

theorem nearZ_sorted {Q : Gr} (h : Inner Q) (k : Int) : (nearZ Q k).Pairwise (· < ·) := by
  unfold nearZ
  cases hf : Q.find? fun q => decide (q.1 = k) with
  | none => exact List.Pairwise.nil
  | some q => exact sortZ_sorted (h q (List.mem_of_find?_eq_some hf))

theorem softZ_sorted {Q : Gr} (h : Inner Q) (k : Int) : (softZ Q k).Pairwise (· < ·) := by
  unfold softZ
  cases hf : Q.find? fun q => decide (q.1 = k) with
  | none => exact List.Pairwise.nil
  | some q => exact (sortZ_sorted (h q (List.mem_of_find?_eq_some hf))).sublist List.filter_sublist

theorem Rel.near {Q : Gr} {N : List Int} {E : Eg} (h : Rel Q N E) (hi : Inner Q) (k : Int) : nearZ Q k = nearD E k false := by
  refine sortedI_ext (nearZ_sorted hi k) (nearD_sorted h.egs k false) fun x => ?_
  rw [mem_nearZ, mem_nearD h.egs, h.edge]
  cases edgeD E k x <;> simp

theorem Rel.soft {Q : Gr} {N : List Int} {E : Eg} (h : Rel Q N E) (hi : Inner Q) (k : Int) : softZ Q k = nearD E k true := by
  refine sortedI_ext (softZ_sorted hi k) (nearD_sorted h.egs k true) fun x => ?_
  rw [mem_softZ, mem_nearD h.egs, h.edge]
  cases edgeD E k x with
  | none => simp
  | some v => cases v <;> simp

/-- an edge that counts -/
def adj (E : Eg) (needed : Bool) (a b : Int) : Prop := ∃ v, edgeD E a b = some v ∧ (needed && !v) = false

theorem edgeD_comm (E : Eg) (a b : Int) : edgeD E a b = edgeD E b a := by
  unfold edgeD
  rw [Int.min_comm, Int.max_comm]

theorem adj_comm {E : Eg} {needed : Bool} {a b : Int} (h : adj E needed a b) : adj E needed b a := by
  obtain ⟨v, h1, h2⟩ := h
  exact ⟨v, by rw [edgeD_comm]; exact h1, h2⟩

theorem adj_mem {N : List Int} {E : Eg} (h : Egs N E) {needed : Bool} {e : Int × Int × Bool} (he : e ∈ E) (hn : (needed && !e.2.2) = false) : adj E needed e.1 e.2.1 := by
  have hlt := (h.ends e he).1
  refine ⟨e.2.2, ?_, hn⟩
  unfold edgeD
  rw [Int.min_eq_left (by omega), Int.max_eq_right (by omega)]
  cases hf : E.find? (isE e.1 e.2.1) with
  | none => exact absurd (isE_iff.2 ⟨rfl, rfl⟩) (by simpa using List.find?_eq_none.1 hf e he)
  | some f =>
    have hfe := isE_iff.1 (List.find?_some hf)
    have : e = f := once_eq h.once he (List.mem_of_find?_eq_some hf) hfe.1.symm hfe.2.symm
    rw [this]; rfl

theorem mem_adj {E : Eg} {needed : Bool} {a b : Int} (h : adj E needed a b) : ∃ e ∈ E, (needed && !e.2.2) = false ∧ e.1 = min a b ∧ e.2.1 = max a b := by
  obtain ⟨v, h1, h2⟩ := h
  unfold edgeD at h1
  rw [Option.map_eq_some_iff] at h1
  obtain ⟨e, hf, rfl⟩ := h1
  exact ⟨e, List.mem_of_find?_eq_some hf, h2, isE_iff.1 (List.find?_some hf)⟩

theorem Way.mono {R S : Int → Int → Prop} {a b : Int} (h : Way R a b) (hs : ∀ x y, R x y → S x y) : Way S a b := by
  induction h with
  | here => exact .here
  | step _ hr ih => exact .step ih (hs _ _ hr)

theorem Way.trans {R : Int → Int → Prop} {a b c : Int} (h : Way R a b) (g : Way R b c) : Way R a c := by
  induction g with
  | here => exact h
  | step _ hr ih => exact .step ih hr

theorem Way.symm {R : Int → Int → Prop} (hR : ∀ x y, R x y → R y x) {a b : Int} (h : Way R a b) : Way R b a := by
  induction h with
  | here => exact .here
  | step _ hr ih => exact (Way.step .here (hR _ _ hr)).trans ih

theorem step_len (needed : Bool) (l : List Int) (e : Int × Int × Bool) : reachStep needed l e = l ∨ (reachStep needed l e).length = l.length + 1 := by
  unfold reachStep
  split
  · exact .inl rfl
  · split
    · exact .inr (putZ_length _ _)
    · split
      · exact .inr (putZ_length _ _)
      · exact .inl rfl

theorem fold_len (needed : Bool) : ∀ (E : Eg) (l : List Int), l.length ≤ (E.foldl (reachStep needed) l).length
  | [], _ => Nat.le_refl _
  | e :: E, l => by
    rw [List.foldl_cons]
    have := fold_len needed E (reachStep needed l e)
    rcases step_len needed l e with h | h
    · rw [h] at this ⊢; exact this
    · omega

theorem fold_same (needed : Bool) : ∀ (E : Eg) (l : List Int), (E.foldl (reachStep needed) l).length = l.length → ∀ e ∈ E, reachStep needed l e = l
  | [], _, _, e, he => by cases he
  | f :: E, l, hl, e, he => by
    rw [List.foldl_cons] at hl
    have h1 : reachStep needed l f = l := by
      rcases step_len needed l f with h | h
      · exact h
      · have := fold_len needed E (reachStep needed l f)
        omega
    rcases List.mem_cons.1 he with rfl | he
    · exact h1
    · rw [h1] at hl
      exact fold_same needed E l hl e he

theorem fold_still (needed : Bool) : ∀ (E : Eg) (l : List Int), (∀ e ∈ E, reachStep needed l e = l) → E.foldl (reachStep needed) l = l
  | [], _, _ => rfl
  | e :: E, l, h => by
    rw [List.foldl_cons, h e (List.mem_cons_self ..)]
    exact fold_still needed E l fun f hf => h f (List.mem_cons_of_mem _ hf)

theorem still_closed {needed : Bool} {l : List Int} {e : Int × Int × Bool} (h : reachStep needed l e = l) (hn : (needed && !e.2.2) = false) : e.1 ∈ l ↔ e.2.1 ∈ l := by
  have hne : ∀ k, putZ l k ≠ l := fun k hk => by have := congrArg List.length hk; rw [putZ_length] at this; omega
  unfold reachStep at h
  rw [if_neg (by simp [hn])] at h
  by_cases h1 : e.1 ∈ l <;> by_cases h2 : e.2.1 ∈ l
  · exact ⟨fun _ => h2, fun _ => h1⟩
  · rw [if_pos ⟨h1, h2⟩] at h; exact absurd h (hne _)
  · rw [if_neg (fun hh => h1 hh.1), if_pos ⟨h2, h1⟩] at h; exact absurd h (hne _)
  · exact ⟨fun hh => absurd hh h1, fun hh => absurd hh h2⟩

theorem reachN_in {N : List Int} {E : Eg} (h : Egs N E) (needed : Bool) {k : Int} (hk : k ∈ N) : ∀ n, ∀ x ∈ reachN E needed k n, x ∈ N
  | 0 => fun x hx => by simp only [reachN, List.mem_singleton] at hx; rw [hx]; exact hk
  | n + 1 => (reachFold_ok (reachN_ok E needed k n).1 (reachN_in h needed hk n) fun e he => (h.ends e he).2).2

theorem reachN_grow {N : List Int} {E : Eg} (_h : Egs N E) (needed : Bool) (k : Int) : ∀ n, (∀ e ∈ E, reachStep needed (reachN E needed k n) e = reachN E needed k n) ∨ n + 1 ≤ (reachN E needed k n).length
  | 0 => .inr (by simp [reachN])
  | n + 1 => by
    rcases reachN_grow _h needed k n with h1 | h1
    · left
      have : reachN E needed k (n + 1) = reachN E needed k n := fold_still needed E _ h1
      rw [this]; exact h1
    · by_cases h2 : (reachN E needed k (n + 1)).length = (reachN E needed k n).length
      · left
        have h3 := fold_same needed E _ h2
        have : reachN E needed k (n + 1) = reachN E needed k n := fold_still needed E _ h3
        rw [this]; exact h3
      · right
        have := fold_len needed E (reachN E needed k n)
        have e : reachN E needed k (n + 1) = E.foldl (reachStep needed) (reachN E needed k n) := rfl
        rw [← e] at this
        omega

theorem step_way {N : List Int} {E : Eg} (h : Egs N E) {needed : Bool} {k : Int} {l : List Int} {e : Int × Int × Bool} (he : e ∈ E) (hl : ∀ x ∈ l, Way (adj E needed) k x) : ∀ x ∈ reachStep needed l e, Way (adj E needed) k x := by
  unfold reachStep
  split
  · exact hl
  · next hn =>
    have hn' : (needed && !e.2.2) = false := by simpa using hn
    have ha := adj_mem h he hn'
    split
    · next h1 =>
      intro x hx
      rcases mem_putZ.1 hx with rfl | hx
      · exact .step (hl _ h1.1) ha
      · exact hl x hx
    · split
      · next h1 =>
        intro x hx
        rcases mem_putZ.1 hx with rfl | hx
        · exact .step (hl _ h1.1) (adj_comm ha)
        · exact hl x hx
      · exact hl

theorem fold_way {N : List Int} {E : Eg} (h : Egs N E) {needed : Bool} {k : Int} : ∀ {F : Eg} {l : List Int}, (∀ e ∈ F, e ∈ E) → (∀ x ∈ l, Way (adj E needed) k x) → ∀ x ∈ F.foldl (reachStep needed) l, Way (adj E needed) k x
  | [], _, _, hl => hl
  | e :: F, l, hF, hl => fold_way h (F := F) (l := reachStep needed l e) (fun f hf => hF f (List.mem_cons_of_mem _ hf)) (step_way h (hF e (List.mem_cons_self ..)) hl)

theorem reachN_way {N : List Int} {E : Eg} (h : Egs N E) (needed : Bool) (k : Int) : ∀ n, ∀ x ∈ reachN E needed k n, Way (adj E needed) k x
  | 0 => fun x hx => by simp only [reachN, List.mem_singleton] at hx; rw [hx]; exact .here
  | n + 1 => fold_way h (fun _ he => he) (reachN_way h needed k n)

theorem step_sorted {needed : Bool} {l : List Int} {e : Int × Int × Bool} (hl : l.Pairwise (· < ·)) : (reachStep needed l e).Pairwise (· < ·) := by
  unfold reachStep
  split
  · exact hl
  · split
    · next h => exact putZ_sorted hl h.2
    · split
      · next h => exact putZ_sorted hl h.2
      · exact hl

theorem fold_sorted {needed : Bool} : ∀ {E : Eg} {l : List Int}, l.Pairwise (· < ·) → (E.foldl (reachStep needed) l).Pairwise (· < ·)
  | [], _, hl => hl
  | e :: E, l, hl => fold_sorted (E := E) (l := reachStep needed l e) (step_sorted hl)

theorem reachN_sorted (E : Eg) (needed : Bool) (k : Int) : ∀ n, (reachN E needed k n).Pairwise (· < ·)
  | 0 => List.pairwise_singleton _ _
  | n + 1 => fold_sorted (reachN_sorted E needed k n)

/-- what the document reaches is all to which there is a way -/
theorem mem_reachN {N : List Int} {E : Eg} (h : Egs N E) (needed : Bool) {k : Int} (hk : k ∈ N) (x : Int) : x ∈ reachN E needed k N.length ↔ Way (adj E needed) k x := by
  refine ⟨reachN_way h needed k _ x, fun hw => ?_⟩
  have hcl : ∀ e ∈ E, reachStep needed (reachN E needed k N.length) e = reachN E needed k N.length := by
    rcases reachN_grow h needed k N.length with h1 | h1
    · exact h1
    · have := nodup_le (reachN_ok E needed k N.length).1 (reachN_in h needed hk N.length)
      omega
  have hst : k ∈ reachN E needed k N.length := by
    have : ∀ n, k ∈ reachN E needed k n := by
      intro n
      induction n with
      | zero => simp [reachN]
      | succ n ih =>
        have : ∀ (F : Eg) (l : List Int), k ∈ l → k ∈ F.foldl (reachStep needed) l := by
          intro F
          induction F with
          | nil => intro l h; exact h
          | cons e F ih =>
            intro l h
            rw [List.foldl_cons]
            refine ih _ ?_
            unfold reachStep
            split
            · exact h
            · split
              · exact mem_putZ.2 (.inr h)
              · split
                · exact mem_putZ.2 (.inr h)
                · exact h
        exact this E _ ih
    exact this _
  induction hw with
  | here => exact hst
  | step _ hr ih =>
    obtain ⟨e, he, hn, h1, h2⟩ := mem_adj hr
    have := still_closed (hcl e he) hn
    rename_i b c _
    rcases Int.le_total b c with hbc | hbc
    · rw [Int.min_eq_left hbc] at h1
      rw [Int.max_eq_right hbc] at h2
      rw [h1, h2] at this
      exact this.1 ih
    · rw [Int.min_eq_right hbc] at h1
      rw [Int.max_eq_left hbc] at h2
      rw [h1, h2] at this
      exact this.2 ih

theorem Rel.adj_near {Q : Gr} {N : List Int} {E : Eg} (h : Rel Q N E) {a b : Int} : b ∈ nearZ Q a ↔ adj E false a b := by
  rw [mem_nearZ, h.edge]
  unfold adj
  cases edgeD E a b <;> simp

theorem Rel.reach {Q : Gr} {N : List Int} {E : Eg} (h : Rel Q N E) {k : Int} {L : List Int} (hF : Found Q k L L.length) : sortZ L = reachN E false k N.length := by
  have hk : k ∈ N := (h.keys k).1 (hF.node k hF.start)
  refine sortedI_ext (sortZ_sorted hF.nodup) (reachN_sorted E false k _) fun x => ?_
  rw [mem_sortZ, hF.all x, mem_reachN h.egs false hk]
  exact ⟨fun hw => hw.mono fun _ _ => h.adj_near.1, fun hw => hw.mono fun _ _ => h.adj_near.2⟩

theorem Rel.shut {Q : Gr} {N : List Int} {E : Eg} (h : Rel Q N E) (hn : (Q.map (·.1)).Nodup) : ShutQ Q := by
  intro q hq x hx
  have hs : (edgeO q.2.2 x.1).isSome = true := edgeO_some.2 (List.mem_map_of_mem hx)
  obtain ⟨r, hr, hre, hf⟩ := find_node (List.mem_map_of_mem (f := (·.1)) hq)
  have : r = q := nodup_inj hn hr hq hre
  subst this
  have he := h.edge r.1 x.1
  unfold eQ at he
  rw [hf] at he
  simp only [Option.bind_some] at he
  rw [he] at hs
  obtain ⟨v, hv⟩ := Option.isSome_iff_exists.1 hs
  obtain ⟨e, he2, -, h1, h2⟩ := mem_adj (E := E) (needed := false) ⟨v, hv, rfl⟩
  have hen := h.ends e he2
  rw [h.keys]
  rcases Int.le_total r.1 x.1 with hb | hb
  · rw [Int.max_eq_right hb] at h2; rw [← h2]; exact hen.2.2
  · rw [Int.min_eq_right hb] at h1; rw [← h1]; exact hen.2.1

theorem Rel.start {Q : Gr} {N : List Int} (hs : N.Pairwise (· < ·)) (hk : ∀ k, k ∈ Q.map (·.1) ↔ k ∈ N) (hb : ∀ q ∈ Q, q.2.2 = []) : Rel Q N [] := by
  refine ⟨hk, hs, fun x y => ?_, by simp, List.Pairwise.nil⟩
  unfold eQ edgeD
  cases hf : Q.find? fun q => decide (q.1 = x) with
  | none => rfl
  | some q => simp [hb q (List.mem_of_find?_eq_some hf), edgeO]

end Go.Proofs.Ytpjbkaibgajpcaa

namespace Go.Proofs.Ytpjbkaibgajpcaa
open Go.RowKit Go.ChangeMaps

theorem near_len {w : World} {p m : Nat} {Q : Gr} (h : GrAt w p m Q) (hs : ShutQ Q) (hn : Q.length ≤ 900000) : ∀ q ∈ Q, q.2.2.length ≤ 1000000 := by
  intro q hq
  obtain ⟨es, c, hi⟩ := h.inner q hq
  have h1 : (q.2.2.map (·.1)).Nodup := by
    have := hi.keys
    simpa [innerL, List.map_map, Function.comp_def] using this
  have := nodup_le h1 (K := Q.map (·.1)) (fun x hx => by
    obtain ⟨e, he, rfl⟩ := List.mem_map.1 hx
    exact hs q hq e he)
  simp only [List.length_map] at this
  omega

set_option maxRecDepth 100000 in
set_option maxHeartbeats 8000000 in
theorem gReach (w : World) (p m : Nat) (Q : Gr) (k : Int) (h : GrAt w p m Q) (hb : hasB Q k = true) (hs : ShutQ Q) (hn : Q.length ≤ 900000) :
    Calls Try.prog 32 #[.pointer (some ⟨p, 0, none⟩), .int .u64 k] w fun e w' => ∃ L, Found Q k L L.length ∧ NewNumsG w (sortZ L) e w' := by
  have cH := gHas w p m Q k h
  rw [hb] at cH
  have hQ := near_len h hs hn
  have hlow : p < w.heap.size ∧ m < w.heap.size ∧ ∀ q ∈ Q, q.2.1 < w.heap.size := ⟨lt_block h.cell, h.outer.lt, fun q hq => (h.inner q hq).lt⟩
  have hmm := @run_makeMap Try.prog
  obtain ⟨w1, h1, hm1, hg1, hs1⟩ := run_put (P := Try.prog) KO64 Try.underlying71 (MapAt.made (mk := Value.int .u64) w) k (.bool true)
  have hB1 : Below w.heap.size w w1 := ((Below.refl _ w).alloc (Nat.le_refl _) _).grown hg1 (by simp) (fun b e => by cases e; exact Nat.le_refl _)
  have hsz1 : w1.heap.size = w.heap.size + 1 := by rw [hs1]; simp
  have hB2 : Below w.heap.size w (w1.alloc (.cells #[.int .u64 k] 22)) := hB1.alloc (by omega) _
  have hI : SearchI w.heap.size p m w.heap.size (w.heap.size + 1) 0 1 Q [k] 0 (w1.alloc (.cells #[.int .u64 k] 22)) := by
    refine ⟨h.kept fun j hj => hB2.block j hj, hm1.kept (heap_alloc_old _ _ (by omega)), Queue.one (by omega) ?_, Nat.le_refl _, hB2.size, hlow⟩
    have := World.alloc_heap_new w1 (.cells #[.int .u64 k] 22)
    rwa [hsz1] at this
  have HI := Lib.hid (And.intro hI hB2)
  have HQ := Lib.hid (And.intro hQ (And.intro hs hn))
  have F0 := Lib.hid (Found.first hb)
  clear h hm1 hg1 hs1 hB1 hI hB2 hlow hQ hs hn
  go_enter Try.func32, Try.ntmps32
  go_wp2_with (go_at_call 34; refine cH.mono ?_; rintro e w' ⟨rfl, hw⟩; obtain rfl : w = w' := hw.symm)
  go_loopg [6] Q.length (fun q s wr => ∃ (L : List Int) (i n g off cap : Nat), q = Q.length - i ∧ L.length = i + n ∧ Found Q k L i ∧ s = .slice (some ⟨g, off, none⟩) n cap ∧ SearchI w.heap.size p m w.heap.size g off cap Q L i wr ∧ Below w.heap.size w wr)
  case atStart => exact ⟨[k], 0, 1, w.heap.size + 1, 0, 1, by simp, rfl, F0.out, rfl, HI.out.1, HI.out.2⟩
  case round =>
    obtain ⟨L, i, n, g, off, cap, rfl, hL, hF, rfl, hI, hB⟩ := hrel
    have HF := Lib.hid hF
    have HS := Lib.hid (And.intro hI hB)
    by_cases hn0 : n = 0
    · subst hn0
      obtain rfl : i = L.length := by omega
      have cK := keysA (some w.heap.size) wr
      have hi' : MapAt (wr.alloc (.cells #[.map (some w.heap.size)] 71)) (Value.int .u64) w.heap.size (seenL L) := hI.seen.kept (heap_alloc_old _ _ hI.seen.lt)
      have hlen : L.length ≤ 1000000 := by have := hF.len; have := HQ.out.2.2; omega
      have cS := sortedKeysA wr.heap.size w.heap.size (seenL L) (wr.alloc (.cells #[.map (some w.heap.size)] 71)) (by simp) (by simp) hi' (by simpa [seenL] using hlen)
      have hnn : (seenL L).map (·.1) = L := by simp [seenL, Function.comp_def]
      have hl2 : (seenL L).length = (sortZ L).length := by simp [seenL, sortZ]
      rw [hnn, hl2] at cS
      have HZ := Lib.hid hI.big
      clear hF hI hB hi' hnn hl2
      go_wp2_with (first
        | (go_at_call 48; refine cK.mono ?_; rintro e w' ⟨rfl, rfl⟩)
        | (go_at_call 47; refine cS.mono ?_; rintro e w2 ⟨v, rfl, hr, hbl⟩; have HR := Lib.hid hr; have HB := Lib.hid hbl; clear hr hbl))
      go_ret
      exact ⟨L, HF.out, v, rfl, own_mono HR.out (by simp; have := HZ.out; omega), (HS.out.2.alloc HZ.out _).trans (HB.out.mono (by simp; have := HZ.out; omega))⟩
    · obtain ⟨n', rfl⟩ : ∃ n', n = n' + 1 := ⟨n - 1, by omega⟩
      have hiL : i < L.length := by omega
      have hcell : wr.cell? ⟨g, off, none⟩ = some (.int .u64 L[i]) := by
        have := hI.q.cell (j := 0) (u := .int .u64 L[i]) (by simp [hiL])
        simpa using this
      have hl1 : (L.drop i).map (Value.int .u64) = .int .u64 L[i] :: (L.drop (i + 1)).map (Value.int .u64) := by rw [List.drop_eq_getElem_cons hiL, List.map_cons]
      have hcap := hI.q.le
      have hmax := hI.q.max
      have hln : (L.drop i).length = n' + 1 := by rw [List.length_drop]; omega
      rw [List.length_map, hln] at hcap
      have hmx : cap ≤ 9223372036854775807 := by simpa [maxLen] using hmax
      have cN := gNear wr p m Q L[i] hI.gr HQ.out.1
      have HX := Lib.hid (nodup_sortZ (l := L))
      clear hmax hln hF hB cH
      by_cases hc1 : cap = 1
      · subst hc1
        obtain rfl : n' = 0 := by omega
        have hd : L.drop (i + 1) = [] := List.drop_eq_nil_of_le (by omega)
        have SI := Lib.hid (show SearchI w.heap.size p m w.heap.size g off 0 Q L (i + 1) wr from ⟨hI.gr, hI.seen, by rw [hd]; exact hI.q.none, hI.low, hI.big, hI.graph⟩)
        clear hI hl1
        go_wp2_with (go_at_call 29; refine cN.mono ?_; rintro e w3 ⟨v, rfl, hr, hbl⟩; obtain ⟨qv, mv, cv, rfl⟩ := own_form hr; obtain rfl : mv = (nearZ Q L[i]).length := own_len hr)
        have hll : (nearZ Q L[i]).length ≤ 9223372036854775807 := own_short hr
        have S3 := Lib.hid (SI.out.kept hbl)
        have B3 := Lib.hid (HS.out.2.trans (hbl.mono HS.out.1.big))
        have R3 := Lib.hid (And.intro (own_mono hr HS.out.1.big) (fun b e => (hr.lt b e).1))
        have HG := Lib.hid (HS.out.1.q.lt)
        obtain ⟨l, hl⟩ : ∃ l, l = nearZ Q L[i] := ⟨_, rfl⟩
        rw [← hl] at R3 hll ⊢
        have HL := Lib.hid hl
        obtain ⟨wo, rfl⟩ : ∃ wo : World, wo = wr := ⟨_, rfl⟩
        clear hr hbl hl
        have HP := Lib.hid (show ∀ j, (addAll L (l.take j)).length ≤ 900000 from fun j => by rw [HL.out]; exact Nat.le_trans (HF.out.part HQ.out.2.1 hiL j) HQ.out.2.2)
        go_loopg [31, 6] l.length (fun q i2 s w4 => ∃ (j n2 g2 off2 cap2 : Nat), q = l.length - j ∧ j ≤ l.length ∧ i2 = .int .i64 j ∧ (addAll L (l.take j)).length = i + 1 + n2 ∧ s = .slice (some ⟨g2, off2, none⟩) n2 cap2 ∧ SearchI w.heap.size p m w.heap.size g2 off2 cap2 Q (addAll L (l.take j)) (i + 1) w4 ∧ Below w.heap.size w w4 ∧
          w4.ownsRow w.heap.size 22 1 (.slice qv l.length cv) l.length (l.map (Value.int .u64)) ∧ ∀ b, (Value.slice qv l.length cv).ownBlock = some b → b ≠ g2)
        case atStart => exact ⟨0, 0, g, off, 0, by simp, by omega, rfl, by simp [addAll]; omega, rfl, by simpa [addAll] using S3.out, B3.out, R3.out.1, fun b e => by have := R3.out.2 b e; have := HG.out; omega⟩
        case round =>
          obtain ⟨j, n2, g2, off2, cap2, rfl, hj, rfl, hlen2, rfl, hI2, hB2, hR2, hap⟩ := hrel
          by_cases hjl : j < l.length
          · obtain ⟨bv, cv', hve, hbv, hbl⟩ := hR2.form (by omega)
            obtain ⟨rfl, -, rfl⟩ := Value.slice.inj hve
            have hcx : wr.cell? ⟨bv, j, none⟩ = some (.int .u64 l[j]) := by
              rw [World.ownsRow.cellAt hR2 j (by omega), List.getElem?_map, List.getElem?_eq_getElem hjl]; rfl
            have hz := run_look (P := Try.prog) KO64 Try.underlying71 hI2.seen (zeroB wr) l[j] false
            rw [getK_seen] at hz
            have htk : l.take (j + 1) = l.take j ++ [l[j]] := by rw [List.take_add_one, List.getElem?_eq_getElem hjl]; rfl
            have hsn := addAll_snoc L (l.take j) l[j]
            rw [← htk] at hsn
            by_cases hx : l[j] ∈ addAll L (l.take j)
            · simp only [hx, if_true] at hz hsn
              simp only [Option.getD_some, Bool.false_eq_true, if_false] at hz
              have NX := Lib.hid (And.intro hlen2 (And.intro hI2 (And.intro hB2 (And.intro hR2 (And.intro hap hsn)))))
              clear hlen2 hI2 hB2 hR2 hap hsn htk hx
              go_wp2_with fail
              go_roundg (l.length - (j + 1))
              case measure => omega
              case rel =>
                obtain ⟨n1, n2', n3, n4, n5, n6⟩ := NX.out
                exact ⟨j + 1, n2, g2, off2, cap2, rfl, by omega, by go_num, by rw [n6]; exact n1, rfl, by rw [n6]; exact n2', n3, n4, n5⟩
            · simp only [hx, if_false] at hz hsn
              simp only [Option.getD_none, Bool.false_eq_true, if_false] at hz
              obtain ⟨w5, g', off', cap', w7, h5, h7, hI7, hB7, hs7, hold, hgg⟩ := hI2.more hx (by omega) (HP.out j) (n := n2) (by omega)
              have hR7 : w7.ownsRow w.heap.size 22 1 (.slice (some ⟨bv, 0, none⟩) l.length cv) l.length (l.map (Value.int .u64)) := own_agree hR2 (fun b e => hold b (hR2.lt b e).2 (hap b e) (fun e2 => own_not_map hR2 hI2.seen (e2 ▸ e)))
              have hap7 : ∀ b, (Value.slice (some ⟨bv, 0, none⟩) l.length cv).ownBlock = some b → b ≠ g' := fun b e => by
                rcases hgg with h1 | h1
                · rw [h1]; exact hap b e
                · have := (hR2.lt b e).2; omega
              have hlen7 : (addAll L (l.take j) ++ [l[j]]).length = i + 1 + (n2 + 1) := by rw [List.length_append, hlen2]; rfl
              have NX := Lib.hid (And.intro hlen7 (And.intro hI7 (And.intro (hB2.trans hB7) (And.intro hR7 (And.intro hap7 hsn)))))
              clear hlen2 hI2 hB2 hR2 hap hsn htk hx hI7 hB7 hs7 hold hgg hR7 hap7 hlen7
              go_wp2_with (refine wpList_append_eq h7 rfl _ _ rfl rfl rfl ?_)
              go_roundg (l.length - (j + 1))
              case measure => omega
              case rel =>
                obtain ⟨n1, n2', n3, n4, n5, n6⟩ := NX.out
                exact ⟨j + 1, n2 + 1, g', off', cap', rfl, by omega, by go_num, by rw [n6]; exact n1, rfl, by rw [n6]; exact n2', n3, n4, n5⟩
          · obtain rfl : j = l.length := by omega
            rw [List.take_length] at hlen2 hI2
            have NX := Lib.hid (And.intro hlen2 (And.intro hI2 hB2))
            clear hlen2 hI2 hB2 hR2 hap
            go_wp2_with fail
            go_roundg (Q.length - (i + 1))
            case measure => have := HF.out.len; omega
            case rel => exact ⟨addAll L l, i + 1, n2, g2, off2, cap2, rfl, NX.out.1, by rw [HL.out]; exact HF.out.next HQ.out.2.1 hiL, rfl, NX.out.2.1, NX.out.2.2⟩
      · have hc2 : ¬ (cap : Int) = 1 := by omega
        have SI := Lib.hid (show SearchI w.heap.size p m w.heap.size g (off + 1) (cap - 1) Q L (i + 1) wr from ⟨hI.gr, hI.seen, by have := hI.q; rw [hl1] at this; exact this.tail, hI.low, hI.big, hI.graph⟩)
        clear hI hl1
        go_wp2_with (go_at_call 29; refine cN.mono ?_; rintro e w3 ⟨v, rfl, hr, hbl⟩; obtain ⟨qv, mv, cv, rfl⟩ := own_form hr; obtain rfl : mv = (nearZ Q L[i]).length := own_len hr)
        have hll : (nearZ Q L[i]).length ≤ 9223372036854775807 := own_short hr
        have S3 := Lib.hid (SI.out.kept hbl)
        have B3 := Lib.hid (HS.out.2.trans (hbl.mono HS.out.1.big))
        have R3 := Lib.hid (And.intro (own_mono hr HS.out.1.big) (fun b e => (hr.lt b e).1))
        have HG := Lib.hid (HS.out.1.q.lt)
        obtain ⟨l, hl⟩ : ∃ l, l = nearZ Q L[i] := ⟨_, rfl⟩
        rw [← hl] at R3 hll ⊢
        have HL := Lib.hid hl
        obtain ⟨wo, rfl⟩ : ∃ wo : World, wo = wr := ⟨_, rfl⟩
        clear hr hbl hl
        have HP := Lib.hid (show ∀ j, (addAll L (l.take j)).length ≤ 900000 from fun j => by rw [HL.out]; exact Nat.le_trans (HF.out.part HQ.out.2.1 hiL j) HQ.out.2.2)
        go_loopg [31, 6] l.length (fun q i2 s w4 => ∃ (j n2 g2 off2 cap2 : Nat), q = l.length - j ∧ j ≤ l.length ∧ i2 = .int .i64 j ∧ (addAll L (l.take j)).length = i + 1 + n2 ∧ s = .slice (some ⟨g2, off2, none⟩) n2 cap2 ∧ SearchI w.heap.size p m w.heap.size g2 off2 cap2 Q (addAll L (l.take j)) (i + 1) w4 ∧ Below w.heap.size w w4 ∧
          w4.ownsRow w.heap.size 22 1 (.slice qv l.length cv) l.length (l.map (Value.int .u64)) ∧ ∀ b, (Value.slice qv l.length cv).ownBlock = some b → b ≠ g2)
        case atStart => exact ⟨0, n', g, (off + 1), (cap - 1), by simp, by omega, rfl, by simp [addAll]; omega, rfl, by simpa [addAll] using S3.out, B3.out, R3.out.1, fun b e => by have := R3.out.2 b e; have := HG.out; omega⟩
        case round =>
          obtain ⟨j, n2, g2, off2, cap2, rfl, hj, rfl, hlen2, rfl, hI2, hB2, hR2, hap⟩ := hrel
          by_cases hjl : j < l.length
          · obtain ⟨bv, cv', hve, hbv, hbl⟩ := hR2.form (by omega)
            obtain ⟨rfl, -, rfl⟩ := Value.slice.inj hve
            have hcx : wr.cell? ⟨bv, j, none⟩ = some (.int .u64 l[j]) := by
              rw [World.ownsRow.cellAt hR2 j (by omega), List.getElem?_map, List.getElem?_eq_getElem hjl]; rfl
            have hz := run_look (P := Try.prog) KO64 Try.underlying71 hI2.seen (zeroB wr) l[j] false
            rw [getK_seen] at hz
            have htk : l.take (j + 1) = l.take j ++ [l[j]] := by rw [List.take_add_one, List.getElem?_eq_getElem hjl]; rfl
            have hsn := addAll_snoc L (l.take j) l[j]
            rw [← htk] at hsn
            by_cases hx : l[j] ∈ addAll L (l.take j)
            · simp only [hx, if_true] at hz hsn
              simp only [Option.getD_some, Bool.false_eq_true, if_false] at hz
              have NX := Lib.hid (And.intro hlen2 (And.intro hI2 (And.intro hB2 (And.intro hR2 (And.intro hap hsn)))))
              clear hlen2 hI2 hB2 hR2 hap hsn htk hx
              go_wp2_with fail
              go_roundg (l.length - (j + 1))
              case measure => omega
              case rel =>
                obtain ⟨n1, n2', n3, n4, n5, n6⟩ := NX.out
                exact ⟨j + 1, n2, g2, off2, cap2, rfl, by omega, by go_num, by rw [n6]; exact n1, rfl, by rw [n6]; exact n2', n3, n4, n5⟩
            · simp only [hx, if_false] at hz hsn
              simp only [Option.getD_none, Bool.false_eq_true, if_false] at hz
              obtain ⟨w5, g', off', cap', w7, h5, h7, hI7, hB7, hs7, hold, hgg⟩ := hI2.more hx (by omega) (HP.out j) (n := n2) (by omega)
              have hR7 : w7.ownsRow w.heap.size 22 1 (.slice (some ⟨bv, 0, none⟩) l.length cv) l.length (l.map (Value.int .u64)) := own_agree hR2 (fun b e => hold b (hR2.lt b e).2 (hap b e) (fun e2 => own_not_map hR2 hI2.seen (e2 ▸ e)))
              have hap7 : ∀ b, (Value.slice (some ⟨bv, 0, none⟩) l.length cv).ownBlock = some b → b ≠ g' := fun b e => by
                rcases hgg with h1 | h1
                · rw [h1]; exact hap b e
                · have := (hR2.lt b e).2; omega
              have hlen7 : (addAll L (l.take j) ++ [l[j]]).length = i + 1 + (n2 + 1) := by rw [List.length_append, hlen2]; rfl
              have NX := Lib.hid (And.intro hlen7 (And.intro hI7 (And.intro (hB2.trans hB7) (And.intro hR7 (And.intro hap7 hsn)))))
              clear hlen2 hI2 hB2 hR2 hap hsn htk hx hI7 hB7 hs7 hold hgg hR7 hap7 hlen7
              go_wp2_with (refine wpList_append_eq h7 rfl _ _ rfl rfl rfl ?_)
              go_roundg (l.length - (j + 1))
              case measure => omega
              case rel =>
                obtain ⟨n1, n2', n3, n4, n5, n6⟩ := NX.out
                exact ⟨j + 1, n2 + 1, g', off', cap', rfl, by omega, by go_num, by rw [n6]; exact n1, rfl, by rw [n6]; exact n2', n3, n4, n5⟩
          · obtain rfl : j = l.length := by omega
            rw [List.take_length] at hlen2 hI2
            have NX := Lib.hid (And.intro hlen2 (And.intro hI2 hB2))
            clear hlen2 hI2 hB2 hR2 hap
            go_wp2_with fail
            go_roundg (Q.length - (i + 1))
            case measure => have := HF.out.len; omega
            case rel => exact ⟨addAll L l, i + 1, n2, g2, off2, cap2, rfl, NX.out.1, by rw [HL.out]; exact HF.out.next HQ.out.2.1 hiL, rfl, NX.out.2.1, NX.out.2.2⟩

end Go.Proofs.Ytpjbkaibgajpcaa
