/-
  graph's law: GraphJoins (plain part).
-/
import Derived.Test.YtdbeekdnehojnaaJ38
namespace Go.Proofs.Ytdbeekdnehojnaa
open Go.RowKit Go.ChangeMaps

theorem adj_false {E : Eg} {x y : Int} : adj E false x y ↔ (edgeD E x y).isSome = true := by
  unfold adj
  cases edgeD E x y <;> simp

theorem bind_adj {N : List Int} {E : Eg} (h : Egs N E) {a b : Int} (hp : pairD N a b = 0) (x y : Int) : adj (bindD N E a b).2 false x y ↔ adj E false x y ∨ Two x y a b := by
  rw [adj_false, adj_false]
  unfold bindD
  rw [if_neg (by simp [hp])]
  cases hat : atE E a b with
  | none =>
    have hE : edgeD E a b = none := by rw [edgeD_at, hat]; rfl
    simp only []
    rw [edgeD_app hE]
    by_cases h2 : Two x y a b <;> simp [h2]
  | some i =>
    obtain ⟨hi, h1, h2⟩ := at_edge hat
    simp only [List.getElem?_eq_getElem hi, Option.map_some, Option.some.injEq]
    have hsome : edgeD E a b = some E[i].2.2 := by rw [edgeD_at, hat]; simp [List.getElem?_eq_getElem hi]
    have htwo : Two x y a b → (edgeD E x y).isSome = true := by
      rintro (⟨rfl, rfl⟩ | ⟨rfl, rfl⟩)
      · rw [hsome]; rfl
      · rw [edgeD_comm, hsome]; rfl
    split
    · exact ⟨.inl, fun hh => hh.elim id htwo⟩
    · simp only []
      rw [edgeD_set hi h1 h2 h.once]
      by_cases h3 : Two x y a b
      · simp [h3]
      · simp [h3]

theorem bind_code {N : List Int} {E : Eg} {a b : Int} : (pairD N a b = 0 ∧ (bindD N E a b).1 = 0) ∨ (pairD N a b = 0 ∧ (bindD N E a b).1 = 7) ∨ (pairD N a b ≠ 0 ∧ (bindD N E a b).1 = pairD N a b) := by
  unfold bindD
  by_cases hp : pairD N a b = 0
  · rw [if_neg (by simp [hp])]
    cases atE E a b with
    | none => exact .inl ⟨hp, rfl⟩
    | some i =>
      simp only []
      split
      · exact .inr (.inl ⟨hp, rfl⟩)
      · exact .inl ⟨hp, rfl⟩
  · rw [if_pos (by simpa using hp)]
    exact .inr (.inr ⟨hp, rfl⟩)

theorem reachD_sorted (N : List Int) (E : Eg) (k : Int) (needed : Bool) : (reachD N E k needed).Pairwise (· < ·) := by
  unfold reachD
  split
  · exact reachN_sorted E needed k _
  · exact List.Pairwise.nil

theorem reachD_len {N : List Int} {E : Eg} (h : Egs N E) (k : Int) (needed : Bool) : (reachD N E k needed).length ≤ N.length :=
  nodup_le (sorted_nodup (reachD_sorted _ _ _ _)) fun x hx => way_in h ((mem_reachD h).1 hx).2 ((mem_reachD h).1 hx).1

/-- both nodes are there -/
structure Joins (N N2 : List Int) (E E' : Eg) (a b : Int) : Prop where
  all : ∀ k ∈ reachD N E a false ++ reachD N E b false, k ∈ reachD N E' a false
  len : (reachD N E' a false).length ≤ (reachD N E a false).length + (reachD N E b false).length
  same : reachD N E' a false = reachD N2 E' b false

theorem joins {N N2 : List Int} {E E' : Eg} {a b : Int} (h : Egs N E) (h' : Egs N E') (h2 : Egs N2 E') (ha : a ∈ N) (hb : b ∈ N) (hb2 : b ∈ N2) (hadj : ∀ x y, adj E' false x y ↔ adj E false x y ∨ Two x y a b) : Joins N N2 E E' a b := by
  have hab : adj E' false a b := (hadj a b).2 (.inr (.inl ⟨rfl, rfl⟩))
  have up : ∀ {x y}, Way (adj E false) x y → Way (adj E' false) x y := fun hw => hw.mono fun x y hh => (hadj x y).2 (.inl hh)
  refine ⟨fun k hk => ?_, ?_, ?_⟩
  · rw [mem_reachD h']
    refine ⟨ha, ?_⟩
    rcases List.mem_append.1 hk with hk | hk
    · exact up ((mem_reachD h).1 hk).2
    · exact (Way.step .here hab).trans (up ((mem_reachD h).1 hk).2)
  · have := nodup_le (l := reachD N E' a false) (K := reachD N E a false ++ reachD N E b false) (sorted_nodup (reachD_sorted _ _ _ _)) (fun x hx => by
      have hw := ((mem_reachD h').1 hx).2
      have : Way (adj E false) a x ∨ Way (adj E false) b x := by
        induction hw with
        | here => exact .inl .here
        | step _ hr ih =>
          rename_i y z hw'
          have ih := ih ((mem_reachD h').2 ⟨ha, hw'⟩)
          rcases (hadj _ _).1 hr with h3 | h3
          · exact ih.imp (fun g => g.step h3) (fun g => g.step h3)
          · rcases h3 with ⟨-, rfl⟩ | ⟨-, rfl⟩
            · exact .inr .here
            · exact .inl .here
      rw [List.mem_append, mem_reachD h, mem_reachD h]
      exact this.imp (fun g => ⟨ha, g⟩) (fun g => ⟨hb, g⟩))
    rwa [List.length_append] at this
  · refine sorted_ext (reachD_sorted _ _ _ _) (reachD_sorted _ _ _ _) fun x => ?_
    rw [mem_reachD h', mem_reachD h2]
    exact ⟨fun hh => ⟨hb2, (Way.step .here (adj_comm hab)).trans hh.2⟩, fun hh => ⟨ha, (Way.step .here hab).trans hh.2⟩⟩

/-- a node without edges reaches itself alone -/
theorem reach_alone {N : List Int} {E : Eg} (h : Egs N E) {k : Int} (hk : k ∉ N) (h2 : Egs (putZ N k) E) : reachD (putZ N k) E k false = [k] := by
  refine sorted_ext (reachD_sorted _ _ _ _) (List.pairwise_singleton _ _) fun x => ?_
  rw [mem_reachD h2, List.mem_singleton]
  constructor
  · rintro ⟨-, hw⟩
    induction hw with
    | here => rfl
    | step _ hr ih =>
      rename_i y c _
      rw [ih] at hr
      obtain ⟨e, he, -, h1, h3⟩ := mem_adj hr
      have hen := h.ends e he
      rcases Int.le_total k c with hb | hb
      · rw [Int.min_eq_left hb] at h1; exact absurd (h1 ▸ hen.2.1) hk
      · rw [Int.max_eq_left hb] at h3; exact absurd (h3 ▸ hen.2.2) hk
  · rintro rfl
    exact ⟨mem_putZ.2 (.inl rfl), .here⟩

/-- a row of numbers grows: the graph lies elsewhere -/
theorem GP.grown {B p m : Nat} {Q : Gr} {N : List Int} {E : Eg} {w w' : World} (h : GP B p m Q N E w) {o : Option Nat} (hg : w.grownBy w' o) (ht : ∀ b, o = some b → OfType w 31 b) : GP B p m Q N E w' := by
  have key : ∀ k, k < w.heap.size → (∀ b, o = some b → k ≠ b) → w'.heap[k]? = w.heap[k]? := fun k hk hne => hg.block k hk (fun e => hne k e.symm rfl)
  have hmap : ∀ j, IsMap w j → w'.heap[j]? = w.heap[j]? := fun j hj => by
    obtain ⟨es, c, h1⟩ := id hj
    exact key j (lt_block h1) fun b hb e => hj.no (e ▸ ht b hb)
  refine ⟨⟨(key p (lt_block h.g.cell) fun b hb e => ?_).trans h.g.cell, h.g.outer.kept (hmap m h.g.outer.isMap), fun q hq => (h.g.inner q hq).kept (hmap _ (h.g.inner q hq).isMap), h.g.apart⟩, h.rel, h.low, Nat.le_trans h.big hg.size⟩
  have hp : OfType w 57 p := ⟨_, _, h.g.cell⟩
  exact absurd (hp.ne (e ▸ ht b hb)) (by decide)

end Go.Proofs.Ytdbeekdnehojnaa
