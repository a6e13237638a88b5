/-
  graph: Reach.
  Are two lists of numbers alike (ref).
  graph's laws: both graphs in memory, side by side.
  graph's laws: the program's graph alone, told by the document's nodes and edges; the document's example.
  walk's laws: a field, as it lies; it is a space.
  walk's laws: a field becomes greater.
-/
import Derived.Test.YtjnkiloomdeljaaJ41
import Derived.Test.YtjnkiloomdeljaaJ01
import Derived.Test.YtjnkiloomdeljaaJ43
import Derived.Test.YtjnkiloomdeljaaJ27
namespace Go.Proofs.Ytjnkiloomdeljaa
open Go.RowKit Go.ChangeMaps

theorem near_len {w : World} {p m : Nat} {Q : Gr} (h : GrAt w p m Q) (hs : ShutQ Q) (hn : Q.length ≤ 900000) : ∀ q ∈ Q, q.2.2.length ≤ 1000000 := by
  intro q hq
  obtain ⟨es, c, hi⟩ := h.inner q hq
  have h1 : (q.2.2.map (·.1)).Nodup := by
    have := hi.keys
    simpa [innerL, List.map_map, Function.comp_def] using this
  have := nodup_le h1 (K := Q.map (·.1)) (fun x hx => by
    obtain ⟨e, he, rfl⟩ := List.mem_map.1 hx
    exact hs q hq e he)
  simp only [List.length_map] at this
  omega

end Go.Proofs.Ytjnkiloomdeljaa

namespace Go.Proofs.Ytjnkiloomdeljaa
open Go.RowKit

end Go.Proofs.Ytjnkiloomdeljaa

namespace Go.Proofs.Ytjnkiloomdeljaa
open Go.RowKit Go.ChangeMaps

/-- block j holds a map -/
def IsMap (w : World) (j : Nat) : Prop := ∃ es c, w.heap[j]? = some (.map es c)

theorem MapAt.isMap {α : Type} {mk : α → Value} {w : World} {b : Nat} {L : List (α × Value)} (h : MapAt w mk b L) : IsMap w b := by
  obtain ⟨es, c, hi⟩ := h
  exact ⟨es, c, hi.obj⟩

theorem IsMap.no {w : World} {j : Nat} (h : IsMap w j) {T : TypeId} (g : OfType w T j) : False := by
  obtain ⟨es, c, h⟩ := h
  obtain ⟨cs, fr, g⟩ := g
  rw [h] at g
  cases g

/-- what a script's calls may turn -/
def Turn (w : World) (B j : Nat) : Prop := B ≤ j ∧ (IsMap w j ∨ OfType w 60 j ∨ OfType w 96 j)

theorem own_turn {w w' : World} {B : Nat} (hm : Mod (Turn w B) w w') {B' s n : Nat} {v : Value} {xs : List Value} (h : w.ownsRow B' 37 s v n xs) : w'.ownsRow B' 37 s v n xs :=
  own_agree h fun k hk => hm.block k (h.lt k hk).2 fun ⟨_, ht⟩ => by
    have h1 := own_type h hk
    rcases ht with ht | ht | ht
    · exact ht.no h1
    · exact absurd (h1.ne ht) (by decide)
    · exact absurd (h1.ne ht) (by decide)

/-- a block of another type is as it was -/
theorem Mod.box {w w' : World} {B b T : Nat} {cs : Array Value} {fr : Nat × Nat} (hm : Mod (Turn w B) w w') (hb : w.heap[b]? = some (.cells cs T fr)) (h1 : T ≠ 60) (h2 : T ≠ 96) : w'.heap[b]? = some (.cells cs T fr) := by
  refine (hm.block b (lt_block hb) fun ⟨_, ht⟩ => ?_).trans hb
  have h : OfType w T b := ⟨_, _, hb⟩
  rcases ht with ht | ht | ht
  · exact ht.no h
  · exact h1 (h.ne ht)
  · exact h2 (h.ne ht)

theorem Turn.low {w w' : World} {B : Nat} (hm : Mod (Turn w B) w w') (hB : B ≤ w.heap.size) : Below B w w' := hm.below hB fun _ h => h.1

/-- both graphs, of the call's own -/
structure GS (B p m c : Nat) (Q : Gr) (N : List Int) (E : Eg) (w : World) : Prop where
  g : GrAt w p m Q
  d : ∃ vn ve, DGr w B c N E vn ve
  rel : Rel Q N E
  low : B ≤ p ∧ B ≤ m ∧ ∀ q ∈ Q, B ≤ q.2.1
  big : B ≤ w.heap.size

theorem GS.below {B p m c : Nat} {Q : Gr} {N : List Int} {E : Eg} {w w' : World} (h : GS B p m c Q N E w) (hb : Below w.heap.size w w') : GS B p m c Q N E w' := by
  obtain ⟨vn, ve, hd⟩ := h.d
  exact ⟨h.g.kept fun k hk => hb.block k hk, ⟨vn, ve, hd.below hb⟩, h.rel, h.low, Nat.le_trans h.big hb.size⟩

theorem GS.shut {B p m c : Nat} {Q : Gr} {N : List Int} {E : Eg} {w : World} (h : GS B p m c Q N E w) : ShutQ Q := h.rel.shut h.g.keys

theorem GS.len {B p m c : Nat} {Q : Gr} {N : List Int} {E : Eg} {w : World} (h : GS B p m c Q N E w) : Q.length ≤ N.length := by
  have := nodup_le h.g.keys fun x hx => (h.rel.keys x).1 hx
  simpa using this

/-- the program's graph turns: the document's lies elsewhere -/
theorem DGr.maps {w w' : World} {B c : Nat} {N : List Int} {E : Eg} {vn ve : Value} (h : DGr w B c N E vn ve) {F : Nat → Prop} (hm : Mod F w w') (hF : ∀ j, F j → IsMap w j) : DGr w' B c N E vn ve :=
  h.kept hm (fun j _ ht hj => (hF j hj).no ht) (fun j _ ht hj => (hF j hj).no ht) (fun j _ ht hj => (hF j hj).no ht)

/-- the document's turns: the program's lies elsewhere -/
theorem GrAt.doc {w w' : World} {p m B : Nat} {Q : Gr} (h : GrAt w p m Q) {F : Nat → Prop} (hm : Mod F w w') (hF : ∀ j, F j → DocM w B j) : GrAt w' p m Q := by
  have hmap : ∀ j, IsMap w j → w'.heap[j]? = w.heap[j]? := fun j hj => by
    obtain ⟨es, c, h1⟩ := id hj
    refine hm.block j (lt_block h1) fun hf => ?_
    rcases (hF j hf).2 with ht | ht <;> exact hj.no ht
  refine ⟨(hm.block p (lt_block h.cell) fun hf => ?_).trans h.cell, h.outer.kept (hmap m h.outer.isMap), fun q hq => (h.inner q hq).kept (hmap _ (h.inner q hq).isMap), h.apart⟩
  have hp : OfType w 93 p := ⟨_, _, h.cell⟩
  rcases (hF p hf).2 with ht | ht
  · exact absurd (hp.ne ht) (by decide)
  · exact absurd (hp.ne ht) (by decide)

theorem GrAt.blocks_map {w : World} {p m : Nat} {Q : Gr} (h : GrAt w p m Q) : ∀ j, BlocksOf Q j → IsMap w j := fun j ⟨q, hq, e⟩ => e ▸ (h.inner q hq).isMap

/-- what a script makes of nodes and edges -/
def doN (N : List Int) (a x : Int) : List Int := if a % 6 = 2 ∨ a % 6 = 3 ∨ a % 6 = 4 ∨ a % 6 = 5 then N else if x ∈ N then N else putZ N x
def doE (N : List Int) (E : Eg) (a x y : Int) : Eg :=
  if a % 6 = 2 then (bindD N E x y).2 else if a % 6 = 3 ∨ a % 6 = 4 then (linkD N E x y).2 else if a % 6 = 5 then (cutD N E x y).2 else E

theorem GS.after {B p m c : Nat} {Q Q' : Gr} {N : List Int} {E E' : Eg} {w w' w'' : World} {vn ve v : Value} (h : GS B p m c Q N E w) (hn : SameN Q Q') (hr : Rel Q' N E') (hg : GrAt w' p m Q') (hm : Mod (BlocksOf Q) w w')
    (hd : DGr w B c N E vn ve → DGr w' B c N E vn ve → DGr w'' B c N E' vn v ∧ Mod (DocM w' B) w' w'') (h0 : DGr w B c N E vn ve) : GS B p m c Q' N E' w'' ∧ Mod (Turn w B) w w'' := by
  have hmap := h.g.blocks_map
  have h1 := h0.maps hm hmap
  obtain ⟨h2, m2⟩ := hd h0 h1
  have hlow : ∀ q ∈ Q', B ≤ q.2.1 := fun q hq => by
    have : q.2.1 ∈ Q'.map (fun q => q.2.1) := List.mem_map_of_mem (f := fun q => q.2.1) hq
    rw [hn.1, List.mem_map] at this
    obtain ⟨r, hr, e⟩ := this
    rw [← e]; exact h.low.2.2 r hr
  refine ⟨⟨hg.doc m2 fun _ => id, ⟨vn, v, h2⟩, hr, ⟨h.low.1, h.low.2.1, hlow⟩, Nat.le_trans h.big (Nat.le_trans hm.size m2.size)⟩, ?_⟩
  have m1 : Mod (Turn w B) w w' := hm.mono fun j hj hf => ⟨by obtain ⟨q, hq, e⟩ := hf; rw [e]; exact h.low.2.2 q hq, .inl (hmap j hf)⟩
  refine m1.trans m2 fun j hj hf => ?_
  by_cases hF : BlocksOf Q j
  · exact ⟨by obtain ⟨q, hq, e⟩ := hF; rw [e]; exact h.low.2.2 q hq, .inl (hmap j hF)⟩
  · have hb := hm.block j hj hF
    refine ⟨hf.1, .inr ?_⟩
    rcases hf.2 with ⟨cs, fr, e⟩ | ⟨cs, fr, e⟩
    · exact .inl ⟨cs, fr, by rw [← hb]; exact e⟩
    · exact .inr ⟨cs, fr, by rw [← hb]; exact e⟩

theorem GS.link {B p m c : Nat} {Q : Gr} {N : List Int} {E : Eg} {w : World} (h : GS B p m c Q N E w) (hl : E.length ≤ 900000) (x y : Int) :
    Calls Try.prog 23 #[.pointer (some ⟨p, 0, none⟩), .int .u64 x, .int .u64 y] w fun e w1 =>
      e = .returned (.int .i64 (linkD N E x y).1) ∧ Mod (Turn w B) w w1 ∧ Calls Try.prog 24 #[.pointer (some ⟨c, 0, none⟩), .int .u64 x, .int .u64 y] w1 fun e w2 =>
        e = .returned (.int .i64 (linkD N E x y).1) ∧ (∃ Q', GS B p m c Q' N (linkD N E x y).2 w2 ∧ SameN Q Q') ∧ Mod (Turn w B) w w2 := by
  refine (gLink w p m Q x y h.g).mono ?_
  rintro e w1 ⟨rfl, hg, hm⟩
  obtain ⟨h1, h2, h3⟩ := h.rel.link x y
  obtain ⟨vn, ve, hd⟩ := h.d
  refine ⟨by rw [h1], hm.mono fun j _ hf => ⟨by obtain ⟨q, hq, e⟩ := hf; rw [e]; exact h.low.2.2 q hq, .inl (h.g.blocks_map j hf)⟩, ?_⟩
  have hd1 := hd.maps hm h.g.blocks_map
  refine (dLink w1 B c N E vn ve x y hd1 (Nat.le_trans h.big hm.size) hl).mono ?_
  rintro e w2 ⟨rfl, v, hd2, hm2⟩
  have := h.after h3 h2 hg hm (fun _ _ => ⟨hd2, hm2⟩) hd
  exact ⟨rfl, ⟨_, this.1, h3⟩, this.2⟩

theorem GS.add {B p m c : Nat} {Q : Gr} {N : List Int} {E : Eg} {w : World} (h : GS B p m c Q N E w) (hl : N.length ≤ 900000) (x : Int) :
    Calls Try.prog 21 #[.pointer (some ⟨p, 0, none⟩), .int .u64 x] w fun e w1 =>
      e = .returned (.int .i64 (if x ∈ N then 7 else 0)) ∧ Mod (Turn w B) w w1 ∧ Calls Try.prog 22 #[.pointer (some ⟨c, 0, none⟩), .int .u64 x] w1 fun e w2 =>
        e = .returned (.int .i64 (if x ∈ N then 7 else 0)) ∧ (∃ Q', GS B p m c Q' (if x ∈ N then N else putZ N x) E w2) ∧ Mod (Turn w B) w w2 := by
  refine (gAdd w p m Q x h.g).mono ?_
  obtain ⟨vn, ve, hd⟩ := h.d
  rintro e w1 (⟨hh, rfl, rfl⟩ | ⟨hh, rfl, hg, hm⟩)
  · have hx : x ∈ N := (h.rel.keys x).1 (hasB_iff.1 hh)
    simp only [hx, if_true]
    refine ⟨trivial, Mod.refl _ _, ?_⟩
    refine (dAdd w1 B c N E vn ve x hd hl h.big).mono ?_
    rintro e w2 (⟨-, rfl, rfl⟩ | ⟨hn, -⟩)
    · exact ⟨rfl, ⟨Q, h⟩, Mod.refl _ _⟩
    · exact absurd hx hn
  · have hx : x ∉ N := fun hx => by rw [hasB_iff.2 ((h.rel.keys x).2 hx)] at hh; cases hh
    simp only [hx, if_false]
    have hmap : ∀ j, j = m → IsMap w j := fun j e => e ▸ h.g.outer.isMap
    have hd1 := hd.maps hm hmap
    have hB1 := Nat.le_trans h.big hm.size
    refine ⟨trivial, hm.mono fun j _ e => ⟨e ▸ h.low.2.1, .inl (hmap j e)⟩, ?_⟩
    refine (dAdd w1 B c N E vn ve x hd1 hl hB1).mono ?_
    rintro e w2 (⟨hn, -⟩ | ⟨-, rfl, v, hd2, hm2⟩)
    · exact absurd hn hx
    · have hg2 := hg.doc (B := B) hm2 fun j e => ⟨e ▸ hd.low, .inl (e ▸ ⟨_, _, hd1.cell⟩)⟩
      refine ⟨rfl, ⟨_, ⟨hg2, ⟨v, ve, hd2⟩, h.rel.add hx _, ⟨h.low.1, h.low.2.1, fun q hq => ?_⟩, Nat.le_trans hB1 hm2.size⟩⟩, ?_⟩
      · rcases List.mem_append.1 hq with hq | hq
        · exact h.low.2.2 q hq
        · rw [List.mem_singleton.1 hq]; exact h.big
      · have m1 : Mod (Turn w B) w w1 := hm.mono fun j hj e => ⟨e ▸ h.low.2.1, .inl (hmap j e)⟩
        exact m1.trans hm2 fun j hj e => by
          subst e
          exact ⟨hd.low, .inr (.inl ⟨_, _, hd.cell⟩)⟩

end Go.Proofs.Ytjnkiloomdeljaa

namespace Go.Proofs.Ytjnkiloomdeljaa
open Go.RowKit Go.ChangeMaps

/-- the program's graph, of the call's own, is the document's -/
structure GP (B p m : Nat) (Q : Gr) (N : List Int) (E : Eg) (w : World) : Prop where
  g : GrAt w p m Q
  rel : Rel Q N E
  low : B ≤ p ∧ B ≤ m ∧ ∀ q ∈ Q, B ≤ q.2.1
  big : B ≤ w.heap.size

theorem GS.gp {B p m c : Nat} {Q : Gr} {N : List Int} {E : Eg} {w : World} (h : GS B p m c Q N E w) : GP B p m Q N E w := ⟨h.g, h.rel, h.low, h.big⟩

theorem GP.below {B p m : Nat} {Q : Gr} {N : List Int} {E : Eg} {w w' : World} (h : GP B p m Q N E w) (hb : Below w.heap.size w w') : GP B p m Q N E w' :=
  ⟨h.g.kept fun k hk => hb.block k hk, h.rel, h.low, Nat.le_trans h.big hb.size⟩

theorem GP.shut {B p m : Nat} {Q : Gr} {N : List Int} {E : Eg} {w : World} (h : GP B p m Q N E w) : ShutQ Q := h.rel.shut h.g.keys

theorem GP.len {B p m : Nat} {Q : Gr} {N : List Int} {E : Eg} {w : World} (h : GP B p m Q N E w) : Q.length = N.length := by
  have h1 := nodup_le h.g.keys fun x hx => (h.rel.keys x).1 hx
  have h2 := nodup_le (sorted_nodup h.rel.sorted) fun x hx => (h.rel.keys x).2 hx
  simp only [List.length_map] at h1 h2
  omega

theorem GP.to {B p m : Nat} {Q Q' : Gr} {N : List Int} {E E' : Eg} {w w' : World} (h : GP B p m Q N E w) (hn : SameN Q Q') (hr : Rel Q' N E') (hg : GrAt w' p m Q') (hm : Mod (BlocksOf Q) w w') : GP B p m Q' N E' w' ∧ Mod (Turn w B) w w' := by
  refine ⟨⟨hg, hr, ⟨h.low.1, h.low.2.1, fun q hq => ?_⟩, Nat.le_trans h.big hm.size⟩, hm.mono fun j _ hf => ⟨by obtain ⟨q, hq, e⟩ := hf; rw [e]; exact h.low.2.2 q hq, .inl (h.g.blocks_map j hf)⟩⟩
  have : q.2.1 ∈ Q'.map (fun q => q.2.1) := List.mem_map_of_mem (f := fun q => q.2.1) hq
  rw [hn.1, List.mem_map] at this
  obtain ⟨r, hr, e⟩ := this
  rw [← e]; exact h.low.2.2 r hr

theorem GP.link {B p m : Nat} {Q : Gr} {N : List Int} {E : Eg} {w : World} (h : GP B p m Q N E w) (x y : Int) :
    Calls Try.prog 23 #[.pointer (some ⟨p, 0, none⟩), .int .u64 x, .int .u64 y] w fun e w1 => e = .returned (.int .i64 (linkD N E x y).1) ∧ (∃ Q', GP B p m Q' N (linkD N E x y).2 w1) ∧ Mod (Turn w B) w w1 := by
  refine (gLink w p m Q x y h.g).mono ?_
  rintro e w1 ⟨rfl, hg, hm⟩
  obtain ⟨h1, h2, h3⟩ := h.rel.link x y
  have := h.to h3 h2 hg hm
  exact ⟨by rw [h1], ⟨_, this.1⟩, this.2⟩

/-- one node more -/
def addD (N : List Int) (x : Int) : Int × List Int := if x ∈ N then (7, N) else (0, putZ N x)

theorem GP.add {B p m : Nat} {Q : Gr} {N : List Int} {E : Eg} {w : World} (h : GP B p m Q N E w) (x : Int) :
    Calls Try.prog 21 #[.pointer (some ⟨p, 0, none⟩), .int .u64 x] w fun e w1 => e = .returned (.int .i64 (addD N x).1) ∧ (∃ Q', GP B p m Q' (addD N x).2 E w1) ∧ Mod (Turn w B) w w1 := by
  refine (gAdd w p m Q x h.g).mono ?_
  rintro e w1 (⟨hh, rfl, rfl⟩ | ⟨hh, rfl, hg, hm⟩)
  · have hx : x ∈ N := (h.rel.keys x).1 (hasB_iff.1 hh)
    have ha : addD N x = (7, N) := by unfold addD; rw [if_pos hx]
    rw [ha]
    exact ⟨rfl, ⟨Q, h⟩, Mod.refl _ _⟩
  · have hx : x ∉ N := fun hx => by rw [hasB_iff.2 ((h.rel.keys x).2 hx)] at hh; cases hh
    have ha : addD N x = (0, putZ N x) := by unfold addD; rw [if_neg hx]
    rw [ha]
    refine ⟨rfl, ⟨_, ⟨hg, h.rel.add hx _, ⟨h.low.1, h.low.2.1, fun q hq => ?_⟩, Nat.le_trans h.big hm.size⟩⟩, hm.mono fun j hj e => ⟨e ▸ h.low.2.1, .inl (e ▸ h.g.outer.isMap)⟩⟩
    rcases List.mem_append.1 hq with hq | hq
    · exact h.low.2.2 q hq
    · rw [List.mem_singleton.1 hq]; exact h.big

theorem GP.near {B p m : Nat} {Q : Gr} {N : List Int} {E : Eg} {w : World} (h : GP B p m Q N E w) (hl : N.length ≤ 100000) (x : Int) :
    Calls Try.prog 14 #[.pointer (some ⟨p, 0, none⟩), .int .u64 x] w (NewL w (nearD E x false)) := by
  have := gNear w p m Q x h.g (near_len h.g h.shut (by rw [h.len]; omega))
  rw [h.rel.near h.g.inn] at this
  exact this

theorem NewL.nil {w : World} {e : Ending} (he : e = .returned (.slice none 0 0)) {w' : World} (hw : w' = w) : NewL w [] e w' := by
  subst hw
  exact ⟨_, he, ⟨rfl, .inl ⟨rfl, rfl⟩⟩, Below.refl _ _⟩

theorem GP.has {B p m : Nat} {Q : Gr} {N : List Int} {E : Eg} {w : World} (h : GP B p m Q N E w) (x : Int) :
    Calls Try.prog 39 #[.pointer (some ⟨p, 0, none⟩), .int .u64 x] w fun e w' => e = .returned (.bool (decide (x ∈ N))) ∧ w' = w := by
  have := gHas w p m Q x h.g
  rwa [show hasB Q x = decide (x ∈ N) from by rw [Bool.eq_iff_iff, hasB_iff, h.rel.keys, decide_eq_true_eq]] at this

theorem GP.keys {B p m : Nat} {Q : Gr} {N : List Int} {E : Eg} {w : World} (h : GP B p m Q N E w) (hl : N.length ≤ 100000) :
    Calls Try.prog 19 #[.pointer (some ⟨p, 0, none⟩)] w (NewL w N) := by
  have := gKeys w p m Q h.g (by rw [h.len]; omega)
  rw [sortedI_ext (sortZ_sorted h.g.keys) h.rel.sorted fun x => by rw [mem_sortZ, h.rel.keys]] at this
  exact this

theorem GP.length {B p m : Nat} {Q : Gr} {N : List Int} {E : Eg} {w : World} (h : GP B p m Q N E w) :
    Calls Try.prog 16 #[.pointer (some ⟨p, 0, none⟩)] w fun e w' => e = .returned (.int .i64 N.length) ∧ w' = w := by
  have := gLen w p m Q h.g
  rwa [h.len] at this

/-- a new graph of these nodes -/
theorem mem_addAll0 {xs : List Int} {x : Int} : x ∈ addAll [] xs ↔ x ∈ xs := by rw [mem_addAll]; simp

theorem GP.new (w : World) (xs N : List Int) (v : Value) (hN : Nums w .u64 v xs) (hb : LiesIn (fun b => b < w.heap.size) v xs.length) (hn : xs.length ≤ 1000000) (hs : N.Pairwise (· < ·)) (hm : ∀ x, x ∈ xs ↔ x ∈ N) :
    Calls Try.prog 20 #[v] w fun e w' => ∃ p m Q, e = .returned (.pointer (some ⟨p, 0, none⟩)) ∧ GP w.heap.size p m Q N [] w' ∧ Below w.heap.size w w' := by
  refine (gNew w xs v hN hb hn).mono ?_
  rintro e w' ⟨p, m, Q, rfl, hG, hB⟩
  exact ⟨p, m, Q, rfl, ⟨hG.at_, Rel.start hs (fun k => by rw [hG.nodes, mem_addAll0, hm]) (fun q hq => (hG.bare q hq).1), ⟨hG.base.1, hG.base.2, fun q hq => (hG.bare q hq).2⟩, hB.size⟩, hB⟩

end Go.Proofs.Ytjnkiloomdeljaa

namespace Go.Proofs.Ytjnkiloomdeljaa
open Go.RowKit Go.ChangeMaps

/-- a field: two graphs side by side, and how far their nodes are -/
structure Fld (w0 w : World) (f x p m c : Nat) (Q : Gr) (N : List Int) (E : Eg) (lv : Value) (L : List Hz) : Prop where
  fcell : w.heap[f]? = some (.cells #[.pointer (some ⟨p, 0, none⟩), .pointer (some ⟨x, 0, none⟩)] 34 (0, 0))
  xcell : w.heap[x]? = some (.cells #[.pointer (some ⟨c, 0, none⟩), lv] 50 (0, 0))
  gs : GS w0.heap.size p m c Q N E w
  row : w.ownsRow w0.heap.size 43 3 lv L.length (flat3 (L.map bareV))
  low : w0.heap.size ≤ f ∧ w0.heap.size ≤ x
  old : Below w0.heap.size w0 w

theorem Fld.below {w0 w w' : World} {f x p m c : Nat} {Q : Gr} {N : List Int} {E : Eg} {lv : Value} {L : List Hz} (h : Fld w0 w f x p m c Q N E lv L) (hb : Below w.heap.size w w') : Fld w0 w' f x p m c Q N E lv L :=
  ⟨(hb.block f (lt_block h.fcell)).trans h.fcell, (hb.block x (lt_block h.xcell)).trans h.xcell, h.gs.below hb, own_below h.row hb, h.low, h.old.trans (hb.mono h.old.size)⟩

theorem Fld.hits {w0 w : World} {f x p m c : Nat} {Q : Gr} {N : List Int} {E : Eg} {lv : Value} {L : List Hz} (h : Fld w0 w f x p m c Q N E lv L) (hb : ∀ y ∈ L, y.vec = []) : HitsF w (fun k => lv.ownBlock = some k) lv L :=
  HitsF.of_own h.row (fun b hb => hb) (bare_rows hb)

set_option maxRecDepth 100000 in
theorem fieldFar (w : World) (f x : Nat) (lv : Value) (F : Nat → Prop) (l : List Hz) (k : Int) (hf : w.cell? ⟨f, 1, none⟩ = some (.pointer (some ⟨x, 0, none⟩))) (hx : w.cell? ⟨x, 1, none⟩ = some lv) (hl : HitsF w F lv l) :
    Calls Try.prog 107 #[.pointer (some ⟨f, 0, none⟩), .int .u64 k] w fun e w' => ∃ v, e = .returned v ∧ v = .tuple #[.int .u64 ((farL l k).getD 0), .bool (farL l k).isSome] ∧ Below w.heap.size w w' := by
  have cF := Lib.hid (refFar w x lv F l k hx hl)
  clear hx hl
  go_enter Try.func107, Try.ntmps107
  go_wp2_with (go_at_call 13; (with_reducible refine cF.out.mono ?_); rintro e w1 ⟨v, rfl, rfl, hb⟩; have B := Lib.hid hb; clear hb)
  go_ret2
  exact ⟨_, rfl, rfl, B.out⟩

/-- a method's lookup -/
theorem field_far (w : World) (f : Nat) : Sem.run Try.prog (method (Try.prog.types.size + 100) 26 (.pointer (some ⟨f, 0, none⟩)) "Far") w = .ok (107, .pointer (some ⟨f, 0, none⟩)) w := by
  kernel_rfl

theorem field_near0 (w : World) (f : Nat) : Sem.run Try.prog (method (Try.prog.types.size + 100) 26 (.pointer (some ⟨f, 0, none⟩)) "Near") w = Sem.run Try.prog (loadVar 31 ⟨f, 0, none⟩ >>= fun v => pure (14, v)) w := by
  kernel_rfl

theorem field_near (w : World) (f p : Nat) (h : w.cell? ⟨f, 0, none⟩ = some (.pointer (some ⟨p, 0, none⟩))) : Sem.run Try.prog (method (Try.prog.types.size + 100) 26 (.pointer (some ⟨f, 0, none⟩)) "Near") w = .ok (14, .pointer (some ⟨p, 0, none⟩)) w := by
  rw [field_near0]
  go_simp

theorem enter_far (args : Array Value) (w : World) : (callFunc 107 args).run Try.prog w = .ok (.enter 107 args) w := by
  kernel_rfl

theorem enter_near (args : Array Value) (w : World) : (callFunc 14 args).run Try.prog w = .ok (.enter 14 args) w := by
  kernel_rfl

/-- a field is a space -/
theorem Fld.space {w0 w : World} {f x p m c : Nat} {Q : Gr} {N : List Int} {E : Eg} {lv : Value} {L : List Hz} (h : Fld w0 w f x p m c Q N E lv L) (hb : ∀ y ∈ L, y.vec = []) (hN : N.length ≤ 100000) :
    SpaceAt w 26 (.pointer (some ⟨f, 0, none⟩)) (farL L) (fun k => nearD E k false) 107 (.pointer (some ⟨f, 0, none⟩)) 14 (.pointer (some ⟨p, 0, none⟩)) where
  mF := fun W _ => field_far W f
  eF := enter_far
  cF := fun W hW k => by
    have h2 := h.below hW
    exact fieldFar W f x lv _ L k (cellsB h2.fcell 1) (cellsB h2.xcell 1) (h2.hits hb)
  mN := fun W hW => field_near W f p (cellsB (h.below hW).fcell 0)
  eN := enter_near
  cN := fun W hW k => (h.below hW).gs.gp.near hN k

end Go.Proofs.Ytjnkiloomdeljaa

namespace Go.Proofs.Ytjnkiloomdeljaa
open Go.RowKit Go.ChangeMaps

section
variable {B p m c : Nat} {Q : Gr} {N : List Int} {E : Eg} {w : World}

theorem GS.addOld (h : GS B p m c Q N E w) {x : Int} (hx : x ∈ N) :
    Calls Try.prog 21 #[.pointer (some ⟨p, 0, none⟩), .int .u64 x] w fun e w1 => e = .returned (.int .i64 7) ∧ w1 = w := by
  refine (gAdd w p m Q x h.g).mono ?_
  rintro e w1 (⟨hh, rfl, rfl⟩ | ⟨hh, -⟩)
  · exact ⟨rfl, rfl⟩
  · rw [hasB_iff.2 ((h.rel.keys x).2 hx)] at hh; cases hh

theorem GS.addNew (h : GS B p m c Q N E w) (hl : N.length ≤ 900000) {x : Int} (hx : x ∉ N) :
    Calls Try.prog 21 #[.pointer (some ⟨p, 0, none⟩), .int .u64 x] w fun e w1 =>
      e = .returned (.int .i64 0) ∧ Mod (Turn w B) w w1 ∧ ∀ W, Below w1.heap.size w1 W → Calls Try.prog 22 #[.pointer (some ⟨c, 0, none⟩), .int .u64 x] W fun e w2 =>
        e = .returned (.int .i64 0) ∧ (∃ Q', GS B p m c Q' (putZ N x) E w2) ∧ Mod (Turn w B) w w2 := by
  refine (gAdd w p m Q x h.g).mono ?_
  obtain ⟨vn, ve, hd⟩ := h.d
  rintro e w1 (⟨hh, -⟩ | ⟨hh, rfl, hg, hm⟩)
  · exact absurd ((h.rel.keys x).1 (hasB_iff.1 hh)) hx
  have hmap : ∀ j, j = m → IsMap w j := fun j e => e ▸ h.g.outer.isMap
  have m1 : Mod (Turn w B) w w1 := hm.mono fun j hj e => ⟨e ▸ h.low.2.1, .inl (hmap j e)⟩
  refine ⟨rfl, m1, fun W hW => ?_⟩
  have hd1 := (hd.maps hm hmap).below hW
  have hg1 := hg.kept fun k hk => hW.block k hk
  have hB1 := Nat.le_trans h.big (Nat.le_trans hm.size hW.size)
  refine (dAdd W B c N E vn ve x hd1 hl hB1).mono ?_
  rintro e w2 (⟨hn, -⟩ | ⟨-, rfl, v, hd2, hm2⟩)
  · exact absurd hn hx
  · have hg2 := hg1.doc (B := B) hm2 fun j e => ⟨e ▸ hd.low, .inl (e ▸ ⟨_, _, hd1.cell⟩)⟩
    refine ⟨rfl, ⟨_, ⟨hg2, ⟨v, ve, hd2⟩, h.rel.add hx _, ⟨h.low.1, h.low.2.1, fun q hq => ?_⟩, Nat.le_trans hB1 hm2.size⟩⟩, ?_⟩
    · rcases List.mem_append.1 hq with hq | hq
      · exact h.low.2.2 q hq
      · rw [List.mem_singleton.1 hq]; exact h.big
    · exact (m1.andBelow hW).trans hm2 fun j hj e => by
        subst e
        exact ⟨hd.low, .inr (.inl ⟨_, _, hd.cell⟩)⟩

theorem GS.linkTwo (h : GS B p m c Q N E w) (hl : E.length ≤ 900000) (x y : Int) :
    Calls Try.prog 23 #[.pointer (some ⟨p, 0, none⟩), .int .u64 x, .int .u64 y] w fun e w1 =>
      e = .returned (.int .i64 (linkD N E x y).1) ∧ Mod (Turn w B) w w1 ∧ ∀ W, Below w1.heap.size w1 W → Calls Try.prog 24 #[.pointer (some ⟨c, 0, none⟩), .int .u64 x, .int .u64 y] W fun e w2 =>
        e = .returned (.int .i64 (linkD N E x y).1) ∧ (∃ Q', GS B p m c Q' N (linkD N E x y).2 w2) ∧ Mod (Turn w B) w w2 := by
  refine (gLink w p m Q x y h.g).mono ?_
  rintro e w1 ⟨rfl, hg, hm⟩
  obtain ⟨h1, h2, h3⟩ := h.rel.link x y
  obtain ⟨vn, ve, hd⟩ := h.d
  refine ⟨by rw [h1], hm.mono fun j _ hf => ⟨by obtain ⟨q, hq, e⟩ := hf; rw [e]; exact h.low.2.2 q hq, .inl (h.g.blocks_map j hf)⟩, fun W hW => ?_⟩
  have hmW := hm.andBelow hW
  have hgW := hg.kept fun k hk => hW.block k hk
  have hd1 := hd.maps hmW h.g.blocks_map
  refine (dLink W B c N E vn ve x y hd1 (Nat.le_trans h.big hmW.size) hl).mono ?_
  rintro e w2 ⟨rfl, v, hd2, hm2⟩
  have := h.after h3 h2 hgW hmW (fun _ _ => ⟨hd2, hm2⟩) hd
  exact ⟨rfl, ⟨_, this.1⟩, this.2⟩

/-- what turns is of other types than a graph's -/
theorem GS.other (h : GS B p m c Q N E w) {F : Nat → Prop} {w' : World} (hm : Mod F w w') (hF : ∀ j, F j → OfType w 43 j ∨ OfType w 50 j) : GS B p m c Q N E w' := by
  obtain ⟨vn, ve, hd⟩ := h.d
  have no : ∀ T, T ≠ 43 → T ≠ 50 → ∀ j, OfType w T j → ¬ F j := fun T h1 h2 j ht hf => by
    rcases hF j hf with e | e
    · exact h1 (ht.ne e)
    · exact h2 (ht.ne e)
  have hmap : ∀ j, IsMap w j → w'.heap[j]? = w.heap[j]? := fun j hj => by
    obtain ⟨es, c, h1⟩ := id hj
    refine hm.block j (lt_block h1) fun hf => ?_
    rcases hF j hf with ht | ht <;> exact hj.no ht
  refine ⟨⟨(hm.block p (lt_block h.g.cell) (no _ (by decide) (by decide) p ⟨_, _, h.g.cell⟩)).trans h.g.cell, h.g.outer.kept (hmap m h.g.outer.isMap), fun q hq => (h.g.inner q hq).kept (hmap _ (h.g.inner q hq).isMap), h.g.apart⟩, ⟨vn, ve, hd.kept hm (fun j _ ht => no _ (by decide) (by decide) j ht) (fun j _ ht => no _ (by decide) (by decide) j ht) (fun j _ ht => no _ (by decide) (by decide) j ht)⟩, h.rel, h.low, Nat.le_trans h.big hm.size⟩
end

section
variable {w0 w w' : World} {f x p m c : Nat} {Q Q' : Gr} {N N' : List Int} {E E' : Eg} {lv : Value} {L : List Hz}

theorem own_turnH {B : Nat} (hm : Mod (Turn w B) w w') {B' s n : Nat} {v : Value} {xs : List Value} (h : w.ownsRow B' 43 s v n xs) : w'.ownsRow B' 43 s v n xs :=
  own_agree h fun k hk => hm.block k (h.lt k hk).2 fun ⟨_, ht⟩ => by
    have h1 := own_type h hk
    rcases ht with ht | ht | ht
    · exact ht.no h1
    · exact absurd (h1.ne ht) (by decide)
    · exact absurd (h1.ne ht) (by decide)

/-- the graphs turn -/
theorem Fld.turn (h : Fld w0 w f x p m c Q N E lv L) (hm : Mod (Turn w w0.heap.size) w w') (g : GS w0.heap.size p m c Q' N' E' w') : Fld w0 w' f x p m c Q' N' E' lv L :=
  ⟨hm.box h.fcell (by decide) (by decide), hm.box h.xcell (by decide) (by decide), g, own_turnH hm h.row, h.low, h.old.trans (hm.below h.old.size fun _ hk => hk.1)⟩

/-- one node more that is so far -/
theorem Fld.push (h : Fld w0 w f x p m c Q N E lv L) (k d : Int) (hL : L.length ≤ 100000) : ∃ (g cp : Nat) (w' : World), (∀ ty, (Builtin.append_ #[22, 22] ty #[lv, .slice (some ⟨w.heap.size, 0, none⟩) 1 1]).run Try.prog (w.alloc (.cells #[.int .u64 k, .int .u64 d, .slice none 0 0] 43)) = .ok (.slice (some ⟨g, 0, none⟩) (L.length + 1) cp) w') ∧
    Fld w0 (w'.setCell ⟨x, 1, none⟩ (.slice (some ⟨g, 0, none⟩) (L.length + 1) cp)) f x p m c Q N E (.slice (some ⟨g, 0, none⟩) (L.length + 1) cp) (L ++ [hitK k d]) ∧ w'.heap[f]? = w.heap[f]? ∧ w'.heap[x]? = w.heap[x]? ∧ ∀ j, j < w.heap.size → lv.ownBlock ≠ some j → w'.heap[j]? = w.heap[j]? := by
  obtain ⟨g, cp, w', hrun, hown, hg, hat, hgl⟩ := run_push rowHit h.row h.old.size #[.int .u64 k, .int .u64 d, .slice none 0 0] rfl (by simp [Value.oneCell']) (by simp [maxLen]; omega) (by omega)
  have hb1 : Below w.heap.size w (w.alloc (.cells #[.int .u64 k, .int .u64 d, .slice none 0 0] 43)) := (Below.refl _ w).alloc (Nat.le_refl _) _
  have hmw : Mod (fun j => lv.ownBlock = some j) w w' := (Mod.of_below (F := fun j => lv.ownBlock = some j) hb1).grown hg (fun j hj => .inl hj)
  have nf : lv.ownBlock ≠ some f := fun e => absurd (OfType.ne (own_type h.row e) ⟨_, _, h.fcell⟩) (by decide)
  have nx : lv.ownBlock ≠ some x := fun e => absurd (OfType.ne (own_type h.row e) ⟨_, _, h.xcell⟩) (by decide)
  have hfx : f ≠ x := fun e => by have h1 := h.fcell; rw [e, h.xcell] at h1; cases h1
  have hcf := hmw.block f (lt_block h.fcell) nf
  have hcx := hmw.block x (lt_block h.xcell) nx
  have hset := setBk (hcx.trans h.xcell) 1 (.slice (some ⟨g, 0, none⟩) (L.length + 1) cp)
  have hgx : g ≠ x := by
    rcases hat with e | e
    · rintro rfl; exact nx e
    · have := lt_block h.xcell; omega
  have ef : flat3 ((L ++ [hitK k d]).map bareV) = flat3 (L.map bareV) ++ [.int .u64 k, .int .u64 d, .slice none 0 0] := by rw [List.map_append, flat3_append]; rfl
  have hown' : (w'.setCell ⟨x, 1, none⟩ (.slice (some ⟨g, 0, none⟩) (L.length + 1) cp)).ownsRow w0.heap.size 43 3 (.slice (some ⟨g, 0, none⟩) (L.length + 1) cp) (L ++ [hitK k d]).length (flat3 ((L ++ [hitK k d]).map bareV)) := by
    rw [ef, List.length_append]
    exact own_agree hown fun j hj => setBk_other (fun e => hgx ((show g = j from by simpa [Value.ownBlock] using hj).trans e))
  have hm2 : Mod (fun j => lv.ownBlock = some j ∨ j = x) w (w'.setCell ⟨x, 1, none⟩ (.slice (some ⟨g, 0, none⟩) (L.length + 1) cp)) := (hmw.mono fun j _ e => .inl e).setCell (p := ⟨x, 1, none⟩) (.inl (.inr rfl)) _
  refine ⟨g, cp, w', hrun, ⟨(setBk_other hfx).trans (hcf.trans h.fcell), by simpa using hset, h.gs.other hm2 (fun j hj => ?_), hown', h.low, h.old.trans (hm2.below h.old.size fun j hj => ?_)⟩, hcf, hcx, fun j hj hne => hmw.block j hj hne⟩
  · rcases hj with hj | rfl
    · exact .inl (own_type h.row hj)
    · exact .inr ⟨_, _, h.xcell⟩
  · rcases hj with hj | rfl
    · exact (h.row.lt j hj).1
    · exact h.low.2
end

end Go.Proofs.Ytjnkiloomdeljaa
