/-
  graph's law: GraphJoins (plain part).
  graph's laws: a list of numbers cut and copied; the nodes of a list (plain).
-/
import Derived.Test.YtdbeekdnehojnaaJ38
import Derived.Test.YtdbeekdnehojnaaJ36
import Derived.Test.YtdbeekdnehojnaaJ35
namespace Go.Proofs.Ytdbeekdnehojnaa
open Go.RowKit Go.ChangeMaps

theorem adj_false {E : Eg} {x y : Int} : adj E false x y ↔ (edgeD E x y).isSome = true := by
  unfold adj
  cases edgeD E x y <;> simp

theorem bind_adj {N : List Int} {E : Eg} (h : Egs N E) {a b : Int} (hp : pairD N a b = 0) (x y : Int) : adj (bindD N E a b).2 false x y ↔ adj E false x y ∨ Two x y a b := by
  rw [adj_false, adj_false]
  unfold bindD
  rw [if_neg (by simp [hp])]
  cases hat : atE E a b with
  | none =>
    have hE : edgeD E a b = none := by rw [edgeD_at, hat]; rfl
    simp only []
    rw [edgeD_app hE]
    by_cases h2 : Two x y a b <;> simp [h2]
  | some i =>
    obtain ⟨hi, h1, h2⟩ := at_edge hat
    simp only [List.getElem?_eq_getElem hi, Option.map_some, Option.some.injEq]
    have hsome : edgeD E a b = some E[i].2.2 := by rw [edgeD_at, hat]; simp [List.getElem?_eq_getElem hi]
    have htwo : Two x y a b → (edgeD E x y).isSome = true := by
      rintro (⟨rfl, rfl⟩ | ⟨rfl, rfl⟩)
      · rw [hsome]; rfl
      · rw [edgeD_comm, hsome]; rfl
    split
    · exact ⟨.inl, fun hh => hh.elim id htwo⟩
    · simp only []
      rw [edgeD_set hi h1 h2 h.once]
      by_cases h3 : Two x y a b
      · simp [h3]
      · simp [h3]

theorem bind_code {N : List Int} {E : Eg} {a b : Int} : (pairD N a b = 0 ∧ (bindD N E a b).1 = 0) ∨ (pairD N a b = 0 ∧ (bindD N E a b).1 = 7) ∨ (pairD N a b ≠ 0 ∧ (bindD N E a b).1 = pairD N a b) := by
  unfold bindD
  by_cases hp : pairD N a b = 0
  · rw [if_neg (by simp [hp])]
    cases atE E a b with
    | none => exact .inl ⟨hp, rfl⟩
    | some i =>
      simp only []
      split
      · exact .inr (.inl ⟨hp, rfl⟩)
      · exact .inl ⟨hp, rfl⟩
  · rw [if_pos (by simpa using hp)]
    exact .inr (.inr ⟨hp, rfl⟩)

theorem reachD_sorted (N : List Int) (E : Eg) (k : Int) (needed : Bool) : (reachD N E k needed).Pairwise (· < ·) := by
  unfold reachD
  split
  · exact reachN_sorted E needed k _
  · exact List.Pairwise.nil

theorem reachD_len {N : List Int} {E : Eg} (h : Egs N E) (k : Int) (needed : Bool) : (reachD N E k needed).length ≤ N.length :=
  nodup_le (sorted_nodup (reachD_sorted _ _ _ _)) fun x hx => way_in h ((mem_reachD h).1 hx).2 ((mem_reachD h).1 hx).1

/-- both nodes are there -/
structure Joins (N N2 : List Int) (E E' : Eg) (a b : Int) : Prop where
  all : ∀ k ∈ reachD N E a false ++ reachD N E b false, k ∈ reachD N E' a false
  len : (reachD N E' a false).length ≤ (reachD N E a false).length + (reachD N E b false).length
  same : reachD N E' a false = reachD N2 E' b false

theorem joins {N N2 : List Int} {E E' : Eg} {a b : Int} (h : Egs N E) (h' : Egs N E') (h2 : Egs N2 E') (ha : a ∈ N) (hb : b ∈ N) (hb2 : b ∈ N2) (hadj : ∀ x y, adj E' false x y ↔ adj E false x y ∨ Two x y a b) : Joins N N2 E E' a b := by
  have hab : adj E' false a b := (hadj a b).2 (.inr (.inl ⟨rfl, rfl⟩))
  have up : ∀ {x y}, Way (adj E false) x y → Way (adj E' false) x y := fun hw => hw.mono fun x y hh => (hadj x y).2 (.inl hh)
  refine ⟨fun k hk => ?_, ?_, ?_⟩
  · rw [mem_reachD h']
    refine ⟨ha, ?_⟩
    rcases List.mem_append.1 hk with hk | hk
    · exact up ((mem_reachD h).1 hk).2
    · exact (Way.step .here hab).trans (up ((mem_reachD h).1 hk).2)
  · have := nodup_le (l := reachD N E' a false) (K := reachD N E a false ++ reachD N E b false) (sorted_nodup (reachD_sorted _ _ _ _)) (fun x hx => by
      have hw := ((mem_reachD h').1 hx).2
      have : Way (adj E false) a x ∨ Way (adj E false) b x := by
        induction hw with
        | here => exact .inl .here
        | step _ hr ih =>
          rename_i y z hw'
          have ih := ih ((mem_reachD h').2 ⟨ha, hw'⟩)
          rcases (hadj _ _).1 hr with h3 | h3
          · exact ih.imp (fun g => g.step h3) (fun g => g.step h3)
          · rcases h3 with ⟨-, rfl⟩ | ⟨-, rfl⟩
            · exact .inr .here
            · exact .inl .here
      rw [List.mem_append, mem_reachD h, mem_reachD h]
      exact this.imp (fun g => ⟨ha, g⟩) (fun g => ⟨hb, g⟩))
    rwa [List.length_append] at this
  · refine sorted_ext (reachD_sorted _ _ _ _) (reachD_sorted _ _ _ _) fun x => ?_
    rw [mem_reachD h', mem_reachD h2]
    exact ⟨fun hh => ⟨hb2, (Way.step .here (adj_comm hab)).trans hh.2⟩, fun hh => ⟨ha, (Way.step .here hab).trans hh.2⟩⟩

/-- a node without edges reaches itself alone -/
theorem reach_alone {N : List Int} {E : Eg} (h : Egs N E) {k : Int} (hk : k ∉ N) (h2 : Egs (putZ N k) E) : reachD (putZ N k) E k false = [k] := by
  refine sorted_ext (reachD_sorted _ _ _ _) (List.pairwise_singleton _ _) fun x => ?_
  rw [mem_reachD h2, List.mem_singleton]
  constructor
  · rintro ⟨-, hw⟩
    induction hw with
    | here => rfl
    | step _ hr ih =>
      rename_i y c _
      rw [ih] at hr
      obtain ⟨e, he, -, h1, h3⟩ := mem_adj hr
      have hen := h.ends e he
      rcases Int.le_total k c with hb | hb
      · rw [Int.min_eq_left hb] at h1; exact absurd (h1 ▸ hen.2.1) hk
      · rw [Int.max_eq_left hb] at h3; exact absurd (h3 ▸ hen.2.2) hk
  · rintro rfl
    exact ⟨mem_putZ.2 (.inl rfl), .here⟩

/-- a row of numbers grows: the graph lies elsewhere -/
theorem GP.grown {B p m : Nat} {Q : Gr} {N : List Int} {E : Eg} {w w' : World} (h : GP B p m Q N E w) {o : Option Nat} (hg : w.grownBy w' o) (ht : ∀ b, o = some b → OfType w 31 b) : GP B p m Q N E w' := by
  have key : ∀ k, k < w.heap.size → (∀ b, o = some b → k ≠ b) → w'.heap[k]? = w.heap[k]? := fun k hk hne => hg.block k hk (fun e => hne k e.symm rfl)
  have hmap : ∀ j, IsMap w j → w'.heap[j]? = w.heap[j]? := fun j hj => by
    obtain ⟨es, c, h1⟩ := id hj
    exact key j (lt_block h1) fun b hb e => hj.no (e ▸ ht b hb)
  refine ⟨⟨(key p (lt_block h.g.cell) fun b hb e => ?_).trans h.g.cell, h.g.outer.kept (hmap m h.g.outer.isMap), fun q hq => (h.g.inner q hq).kept (hmap _ (h.g.inner q hq).isMap), h.g.apart⟩, h.rel, h.low, Nat.le_trans h.big hg.size⟩
  have hp : OfType w 57 p := ⟨_, _, h.g.cell⟩
  exact absurd (hp.ne (e ▸ ht b hb)) (by decide)

end Go.Proofs.Ytdbeekdnehojnaa

namespace Go.Proofs.Ytdbeekdnehojnaa
open Go.RowKit Go.ChangeMaps

theorem SrcAt.front {w : World} {p : Option Addr} {m c s : Nat} {xs : List Value} (h : SrcAt w p m c s xs) {k : Nat} (hk : k ≤ m) : SrcAt w p k c s (xs.take (k * s)) := by
  refine ⟨?_, fun hp => ?_, fun a ha j u hj => ?_⟩
  · have := h.len
    have h2 : k * s ≤ m * s := Nat.mul_le_mul_right _ hk
    rw [List.length_take]; omega
  · have := h.nil hp; omega
  · rw [List.getElem?_take] at hj
    split at hj
    · exact h.cells a ha j u hj
    · cases hj

theorem min2i (a b : Int) (w : World) : (Builtin.min_ #[3, 3] 3 #[.int .i64 a, .int .i64 b]).run Try.prog w = .ok (.int .i64 (min a b)) w := by
  simp [Builtin.min_, Builtin.min2]
  split <;> omega

/-- the nodes that are made of a list -/
def nodesOf (l : List Int) : List Int := l.foldl (fun N k => (addD N k).2) []

theorem addD_mem {N : List Int} {k x : Int} : x ∈ (addD N k).2 ↔ x = k ∨ x ∈ N := by
  unfold addD
  by_cases h : k ∈ N
  · rw [if_pos h]
    exact ⟨.inr, fun hh => hh.elim (fun e => e ▸ h) id⟩
  · rw [if_neg h, mem_putZ]

theorem addD_sorted {N : List Int} {k : Int} (h : N.Pairwise (· < ·)) : (addD N k).2.Pairwise (· < ·) := by
  unfold addD
  by_cases hk : k ∈ N
  · rw [if_pos hk]; exact h
  · rw [if_neg hk]; exact putZ_sorted h hk

theorem nodesOf_snoc (l : List Int) (k : Int) : nodesOf (l ++ [k]) = (addD (nodesOf l) k).2 := by
  unfold nodesOf
  rw [List.foldl_append]; rfl

theorem nodesOf_ok (l : List Int) : (nodesOf l).Pairwise (· < ·) ∧ ∀ x, x ∈ l ↔ x ∈ nodesOf l := by
  have : ∀ (l N : List Int), N.Pairwise (· < ·) → (l.foldl (fun N k => (addD N k).2) N).Pairwise (· < ·) ∧ ∀ x, x ∈ l.foldl (fun N k => (addD N k).2) N ↔ x ∈ l ∨ x ∈ N := by
    intro l
    induction l with
    | nil => intro N h; exact ⟨h, fun x => by simp⟩
    | cons k l ih =>
      intro N h
      have := ih (addD N k).2 (addD_sorted h)
      refine ⟨this.1, fun x => ?_⟩
      rw [List.foldl_cons, this.2, addD_mem, List.mem_cons]
      constructor
      · rintro (h1 | h1 | h1)
        · exact .inl (.inr h1)
        · exact .inl (.inl h1)
        · exact .inr h1
      · rintro ((h1 | h1) | h1)
        · exact .inr (.inl h1)
        · exact .inl h1
        · exact .inr (.inr h1)
  have := this l [] List.Pairwise.nil
  exact ⟨this.1, fun x => by have := this.2 x; unfold nodesOf; simpa using this.symm⟩

theorem nodesOf_len (l : List Int) : (nodesOf l).length ≤ l.length :=
  nodup_le (sorted_nodup (nodesOf_ok l).1) fun x hx => ((nodesOf_ok l).2 x).2 hx

theorem nodesOf_addAll (l : List Int) : (addAll [] l).length = (nodesOf l).length := by
  have h1 := nodup_le (l := addAll [] l) (K := nodesOf l) (nodup_addAll List.nodup_nil) fun x hx => ((nodesOf_ok l).2 x).1 (mem_addAll0.1 hx)
  have h2 := nodup_le (l := nodesOf l) (K := addAll [] l) (sorted_nodup (nodesOf_ok l).1) fun x hx => mem_addAll0.2 (((nodesOf_ok l).2 x).2 hx)
  omega

theorem mem_nodes_addAll (l : List Int) (x : Int) : x ∈ nodesOf l ↔ x ∈ addAll [] l := by rw [← (nodesOf_ok l).2, mem_addAll0]

theorem GrAt.keepF {w w' : World} {p m : Nat} {Q : Gr} (h : GrAt w p m Q) (hk : ∀ j, j < w.heap.size → (j = p ∨ j = m ∨ BlocksOf Q j) → w'.heap[j]? = w.heap[j]?) : GrAt w' p m Q :=
  ⟨(hk p (lt_block h.cell) (.inl rfl)).trans h.cell, h.outer.kept (hk m h.outer.lt (.inr (.inl rfl))), fun q hq => (h.inner q hq).kept (hk _ (h.inner q hq).lt (.inr (.inr ⟨q, hq, rfl⟩))), h.apart⟩

theorem seen_old {L : List Int} {x : Int} (h : x ∈ L) : putK (seenL L) x (.bool true) = seenL L := by
  have hg := getK_seen L x
  rw [if_pos h, getK_eq] at hg
  cases hj : (seenL L).findIdx? (fun p => decide (p.1 = x)) with
  | none => rw [hj] at hg; cases hg
  | some j => rw [hj] at hg; exact putK_self hj (by simpa using hg)

/-- two graphs of the program's, side by side, and a map of what has been seen -/
structure Many (B X sm pa ma pb mb : Nat) (Qa Qb : Gr) (Na Nb L : List Int) (w : World) : Prop where
  a : GP B pa ma Qa Na [] w
  b : GP X pb mb Qb Nb [] w
  seen : MapAt w (Value.int .u64) sm (seenL L)
  below : pa < X ∧ ma < X ∧ ∀ q ∈ Qa, q.2.1 < X
  apart : X ≤ sm ∧ mb ≠ sm ∧ ∀ q ∈ Qb, q.2.1 ≠ sm
  base : B ≤ X

theorem Many.kept {B X sm pa ma pb mb : Nat} {Qa Qb : Gr} {Na Nb L : List Int} {w w' : World} (h : Many B X sm pa ma pb mb Qa Qb Na Nb L w) (hb : Below w.heap.size w w') : Many B X sm pa ma pb mb Qa Qb Na Nb L w' :=
  ⟨h.a.below hb, h.b.below hb, h.seen.kept (hb.block _ h.seen.lt), h.below, h.apart, h.base⟩

theorem Many.add {B X sm pa ma pb mb : Nat} {Qa Qb : Gr} {Na Nb L : List Int} {w : World} (h : Many B X sm pa ma pb mb Qa Qb Na Nb L w) (k : Int) :
    Calls Try.prog 18 #[.pointer (some ⟨pb, 0, none⟩), .int .u64 k] w fun e w1 => e = .returned (.int .i64 (addD Nb k).1) ∧ (∃ Qb', Many B X sm pa ma pb mb Qa Qb' Na (addD Nb k).2 L w1) ∧ Below X w w1 := by
  refine (gAdd w pb mb Qb k h.b.g).mono ?_
  rintro e w1 (⟨hh, rfl, rfl⟩ | ⟨hh, rfl, hg, hm⟩)
  · have hx : k ∈ Nb := (h.b.rel.keys k).1 (hasB_iff.1 hh)
    have ha : addD Nb k = (7, Nb) := by unfold addD; rw [if_pos hx]
    rw [ha]
    exact ⟨rfl, ⟨Qb, h⟩, Below.refl _ _⟩
  · have hx : k ∉ Nb := fun hx => by rw [hasB_iff.2 ((h.b.rel.keys k).2 hx)] at hh; cases hh
    have ha : addD Nb k = (0, putZ Nb k) := by unfold addD; rw [if_neg hx]
    rw [ha]
    have hX := h.b.big
    refine ⟨rfl, ⟨_, ⟨⟨h.a.g.keepF fun j hj hp => hm.block j hj fun e => ?_, h.a.rel, h.a.low, Nat.le_trans h.a.big hm.size⟩,
      ⟨hg, h.b.rel.add hx _, ⟨h.b.low.1, h.b.low.2.1, fun q hq => ?_⟩, Nat.le_trans h.b.big hm.size⟩, h.seen.kept (hm.block sm h.seen.lt fun e => h.apart.2.1 e.symm), h.below, ⟨h.apart.1, h.apart.2.1, fun q hq => ?_⟩, h.base⟩⟩, hm.below hX fun j e => e ▸ h.b.low.2.1⟩
    · have h1 := h.b.low.2.1
      have h2 : j < X := by
        rcases hp with e2 | e2 | ⟨q, hq, e2⟩
        · rw [e2]; exact h.below.1
        · rw [e2]; exact h.below.2.1
        · rw [e2]; exact h.below.2.2 q hq
      omega
    · rcases List.mem_append.1 hq with hq | hq
      · exact h.b.low.2.2 q hq
      · rw [List.mem_singleton.1 hq]; exact hX
    · rcases List.mem_append.1 hq with hq | hq
      · exact h.apart.2.2 q hq
      · rw [List.mem_singleton.1 hq]
        have := h.seen.lt
        show w.heap.size ≠ sm
        omega

theorem Many.put {B X sm pa ma pb mb : Nat} {Qa Qb : Gr} {Na Nb L L' : List Int} {w w' : World} (h : Many B X sm pa ma pb mb Qa Qb Na Nb L w) (hg : w.grownBy w' (some sm)) (hm : MapAt w' (Value.int .u64) sm (seenL L')) : Many B X sm pa ma pb mb Qa Qb Na Nb L' w' := by
  have hold : ∀ j, j < w.heap.size → j ≠ sm → w'.heap[j]? = w.heap[j]? := fun j hj hne => hg.block j hj (fun e => hne (by cases e; rfl))
  refine ⟨⟨h.a.g.keepF fun j hj hp => hold j hj ?_, h.a.rel, h.a.low, Nat.le_trans h.a.big hg.size⟩, ⟨h.b.g.keepF fun j hj hp => hold j hj ?_, h.b.rel, h.b.low, Nat.le_trans h.b.big hg.size⟩, hm, h.below, h.apart, h.base⟩
  · have h1 := h.apart.1
    have h2 : j < X := by
      rcases hp with e2 | e2 | ⟨q, hq, e2⟩
      · rw [e2]; exact h.below.1
      · rw [e2]; exact h.below.2.1
      · rw [e2]; exact h.below.2.2 q hq
    omega
  · rcases hp with e2 | e2 | ⟨q, hq, e2⟩
    · rintro rfl
      obtain ⟨es, c, hi⟩ := h.seen
      have := hi.obj
      rw [e2, h.b.g.cell] at this
      cases this
    · rw [e2]; exact h.apart.2.1
    · rw [e2]; exact h.apart.2.2 q hq

end Go.Proofs.Ytdbeekdnehojnaa
