/-
  Are two lists of numbers alike (ref).
  graph's laws: both graphs in memory, side by side.
  A region that draws its order, its operations behind a name: each step's goal is small.
  graph's laws: one call on both.
  graph's laws: the program's graph alone, told by the document's nodes and edges; the document's example.
  graph's laws: the document's example.
  An argument that is a script of calls on a graph.
  graph's laws: what a script does to both graphs.
  graph's law: GraphBoth.
  graph's law: GraphNeeds.
  graph's law: GraphJoins (plain part).
-/
import Derived.Test.YtpjbkaibgajpcaaJ01
import Derived.Test.YtpjbkaibgajpcaaJ39
import Derived.Test.YtpjbkaibgajpcaaJ12
import Derived.Deep.Strs
namespace Go.Proofs.Ytpjbkaibgajpcaa
open Go.RowKit

end Go.Proofs.Ytpjbkaibgajpcaa

namespace Go.Proofs.Ytpjbkaibgajpcaa
open Go.RowKit Go.ChangeMaps

/-- block j holds a map -/
def IsMap (w : World) (j : Nat) : Prop := ∃ es c, w.heap[j]? = some (.map es c)

theorem MapAt.isMap {α : Type} {mk : α → Value} {w : World} {b : Nat} {L : List (α × Value)} (h : MapAt w mk b L) : IsMap w b := by
  obtain ⟨es, c, hi⟩ := h
  exact ⟨es, c, hi.obj⟩

theorem IsMap.no {w : World} {j : Nat} (h : IsMap w j) {T : TypeId} (g : OfType w T j) : False := by
  obtain ⟨es, c, h⟩ := h
  obtain ⟨cs, fr, g⟩ := g
  rw [h] at g
  cases g

theorem GrAt.blocks_map {w : World} {p m : Nat} {Q : Gr} (h : GrAt w p m Q) : ∀ j, BlocksOf Q j → IsMap w j := fun j ⟨q, hq, e⟩ => e ▸ (h.inner q hq).isMap

end Go.Proofs.Ytpjbkaibgajpcaa

namespace Go.Proofs.Ytpjbkaibgajpcaa
open Go.RowKit

section
variable {P : Program} {ops O : Array Oper} {Q : Exit → Act → World → Prop} {md : Region.Mode} {S : World → Prop}

end

end Go.Proofs.Ytpjbkaibgajpcaa

namespace Go.Proofs.Ytpjbkaibgajpcaa
open Go.RowKit Go.ChangeMaps

end Go.Proofs.Ytpjbkaibgajpcaa

namespace Go.Proofs.Ytpjbkaibgajpcaa
open Go.RowKit Go.ChangeMaps

/-- the program's graph, of the call's own, is the document's -/
structure GP (B p m : Nat) (Q : Gr) (N : List Int) (E : Eg) (w : World) : Prop where
  g : GrAt w p m Q
  rel : Rel Q N E
  low : B ≤ p ∧ B ≤ m ∧ ∀ q ∈ Q, B ≤ q.2.1
  big : B ≤ w.heap.size

theorem GP.below {B p m : Nat} {Q : Gr} {N : List Int} {E : Eg} {w w' : World} (h : GP B p m Q N E w) (hb : Below w.heap.size w w') : GP B p m Q N E w' :=
  ⟨h.g.kept fun k hk => hb.block k hk, h.rel, h.low, Nat.le_trans h.big hb.size⟩

theorem GP.shut {B p m : Nat} {Q : Gr} {N : List Int} {E : Eg} {w : World} (h : GP B p m Q N E w) : ShutQ Q := h.rel.shut h.g.keys

theorem GP.len {B p m : Nat} {Q : Gr} {N : List Int} {E : Eg} {w : World} (h : GP B p m Q N E w) : Q.length = N.length := by
  have h1 := nodup_le h.g.keys fun x hx => (h.rel.keys x).1 hx
  have h2 := nodup_le (sorted_nodup h.rel.sorted) fun x hx => (h.rel.keys x).2 hx
  simp only [List.length_map] at h1 h2
  omega

theorem GP.near {B p m : Nat} {Q : Gr} {N : List Int} {E : Eg} {w : World} (h : GP B p m Q N E w) (hl : N.length ≤ 100000) (x : Int) :
    Calls Try.prog 29 #[.pointer (some ⟨p, 0, none⟩), .int .u64 x] w (NewL w (nearD E x false)) := by
  have := gNear w p m Q x h.g (near_len h.g h.shut (by rw [h.len]; omega))
  rw [h.rel.near h.g.inn] at this
  exact this

theorem GP.soft {B p m : Nat} {Q : Gr} {N : List Int} {E : Eg} {w : World} (h : GP B p m Q N E w) (hl : N.length ≤ 100000) (x : Int) :
    Calls Try.prog 30 #[.pointer (some ⟨p, 0, none⟩), .int .u64 x] w (NewL w (nearD E x true)) := by
  have := gSoft w p m Q x h.g (near_len h.g h.shut (by rw [h.len]; omega))
  rw [h.rel.soft h.g.inn] at this
  exact this

theorem gReach_no (w : World) (p m : Nat) (Q : Gr) (k : Int) (h : GrAt w p m Q) (hb : hasB Q k = false) :
    Calls Try.prog 32 #[.pointer (some ⟨p, 0, none⟩), .int .u64 k] w fun e w' => e = .returned (.slice none 0 0) ∧ w' = w := by
  have cH := gHas w p m Q k h
  rw [hb] at cH
  clear h
  go_enter Try.func32, Try.ntmps32
  go_wp2_with (go_at_call 34; refine cH.mono ?_; rintro e w' ⟨rfl, rfl⟩)
  go_ret
  exact ⟨rfl, rfl⟩

theorem gReach_nil (w : World) (k : Int) :
    Calls Try.prog 32 #[.pointer none, .int .u64 k] w fun e w' => e = .returned (.slice none 0 0) ∧ w' = w := by
  have cH := gHas_nil w k
  go_enter Try.func32, Try.ntmps32
  go_wp2_with (go_at_call 34; refine cH.mono ?_; rintro e w' ⟨rfl, rfl⟩)
  go_ret
  exact ⟨rfl, rfl⟩

theorem NewL.nil {w : World} {e : Ending} (he : e = .returned (.slice none 0 0)) {w' : World} (hw : w' = w) : NewL w [] e w' := by
  subst hw
  exact ⟨_, he, ⟨rfl, .inl ⟨rfl, rfl⟩⟩, Below.refl _ _⟩

theorem GP.reach {B p m : Nat} {Q : Gr} {N : List Int} {E : Eg} {w : World} (h : GP B p m Q N E w) (hl : N.length ≤ 100000) (x : Int) :
    Calls Try.prog 32 #[.pointer (some ⟨p, 0, none⟩), .int .u64 x] w (NewL w (reachD N E x false)) := by
  unfold reachD
  cases hb : hasB Q x with
  | true =>
    rw [if_pos ((h.rel.keys x).1 (hasB_iff.1 hb))]
    refine (gReach w p m Q x h.g hb h.shut (by rw [h.len]; omega)).mono ?_
    rintro e w' ⟨L, hF, hN⟩
    rw [h.rel.reach hF] at hN
    exact hN
  | false =>
    rw [if_neg (fun hx => by rw [hasB_iff.2 ((h.rel.keys x).2 hx)] at hb; cases hb)]
    exact (gReach_no w p m Q x h.g hb).mono fun e w' hh => NewL.nil hh.1 hh.2

theorem GP.has {B p m : Nat} {Q : Gr} {N : List Int} {E : Eg} {w : World} (h : GP B p m Q N E w) (x : Int) :
    Calls Try.prog 34 #[.pointer (some ⟨p, 0, none⟩), .int .u64 x] w fun e w' => e = .returned (.bool (decide (x ∈ N))) ∧ w' = w := by
  have := gHas w p m Q x h.g
  rwa [show hasB Q x = decide (x ∈ N) from by rw [Bool.eq_iff_iff, hasB_iff, h.rel.keys, decide_eq_true_eq]] at this

theorem GP.keys {B p m : Nat} {Q : Gr} {N : List Int} {E : Eg} {w : World} (h : GP B p m Q N E w) (hl : N.length ≤ 100000) :
    Calls Try.prog 31 #[.pointer (some ⟨p, 0, none⟩)] w (NewL w N) := by
  have := gKeys w p m Q h.g (by rw [h.len]; omega)
  rw [sortedI_ext (sortZ_sorted h.g.keys) h.rel.sorted fun x => by rw [mem_sortZ, h.rel.keys]] at this
  exact this

theorem GP.length {B p m : Nat} {Q : Gr} {N : List Int} {E : Eg} {w : World} (h : GP B p m Q N E w) :
    Calls Try.prog 33 #[.pointer (some ⟨p, 0, none⟩)] w fun e w' => e = .returned (.int .i64 N.length) ∧ w' = w := by
  have := gLen w p m Q h.g
  rwa [h.len] at this

/-- a new graph of these nodes -/
theorem mem_addAll0 {xs : List Int} {x : Int} : x ∈ addAll [] xs ↔ x ∈ xs := by rw [mem_addAll]; simp

theorem GP.new (w : World) (xs N : List Int) (v : Value) (hN : Nums w .u64 v xs) (hb : LiesIn (fun b => b < w.heap.size) v xs.length) (hn : xs.length ≤ 1000000) (hs : N.Pairwise (· < ·)) (hm : ∀ x, x ∈ xs ↔ x ∈ N) :
    Calls Try.prog 23 #[v] w fun e w' => ∃ p m Q, e = .returned (.pointer (some ⟨p, 0, none⟩)) ∧ GP w.heap.size p m Q N [] w' ∧ Below w.heap.size w w' := by
  refine (gNew w xs v hN hb hn).mono ?_
  rintro e w' ⟨p, m, Q, rfl, hG, hB⟩
  exact ⟨p, m, Q, rfl, ⟨hG.at_, Rel.start hs (fun k => by rw [hG.nodes, mem_addAll0, hm]) (fun q hq => (hG.bare q hq).1), ⟨hG.base.1, hG.base.2, fun q hq => (hG.bare q hq).2⟩, hB.size⟩, hB⟩

end Go.Proofs.Ytpjbkaibgajpcaa

namespace Go.Proofs.Ytpjbkaibgajpcaa
open Go.RowKit Go.ChangeMaps

end Go.Proofs.Ytpjbkaibgajpcaa

namespace Go.Proofs.Ytpjbkaibgajpcaa
open Go.ChangeShapes Go.WideShapes Go.ChangeAt Go.RowKit Go.Deep

/-- a slice of calls (what to do; two numbers) reads so -/
def ScriptO (w : World) (v : Value) (l : List (Int × Int × Int)) : Prop :=
  ∃ p cap, v = .slice p l.length cap ∧ l.length ≤ cap ∧ cap ≤ 9223372036854775807 ∧
    ∀ i (hi : i < l.length), ∃ b off, p = some ⟨b, off, none⟩ ∧ w.cell? ⟨b, off + i * 3, none⟩ = some (.int .u8 l[i].1) ∧ w.cell? ⟨b, off + i * 3 + 1, none⟩ = some (.int .u64 l[i].2.1) ∧ w.cell? ⟨b, off + i * 3 + 2, none⟩ = some (.int .u64 l[i].2.2)

theorem ScriptO.below {w w' : World} {v : Value} {l : List (Int × Int × Int)} (h : ScriptO w v l) (hb : Below w.heap.size w w') : ScriptO w' v l := by
  obtain ⟨p, cap, hv, h1, h2, h3⟩ := h
  refine ⟨p, cap, hv, h1, h2, fun i hi => ?_⟩
  obtain ⟨b, off, hp, c0, c1, c2⟩ := h3 i hi
  exact ⟨b, off, hp, below_cells hb c0, below_cells hb c1, below_cells hb c2⟩

section
variable {H : Type} {enc : TypeId × Value → H} {W : World}

end

end Go.Proofs.Ytpjbkaibgajpcaa

namespace Go.Proofs.Ytpjbkaibgajpcaa
open Go.RowKit Go.ChangeMaps

end Go.Proofs.Ytpjbkaibgajpcaa

namespace Go.Proofs.Ytpjbkaibgajpcaa
open Go.RowKit Go.ChangeMaps

end Go.Proofs.Ytpjbkaibgajpcaa

namespace Go.Proofs.Ytpjbkaibgajpcaa
open Go.RowKit Go.ChangeMaps

end Go.Proofs.Ytpjbkaibgajpcaa

namespace Go.Proofs.Ytpjbkaibgajpcaa
open Go.RowKit Go.ChangeMaps

/-- a row of numbers grows: the graph lies elsewhere -/
theorem GP.grown {B p m : Nat} {Q : Gr} {N : List Int} {E : Eg} {w w' : World} (h : GP B p m Q N E w) {o : Option Nat} (hg : w.grownBy w' o) (ht : ∀ b, o = some b → OfType w 22 b) : GP B p m Q N E w' := by
  have key : ∀ k, k < w.heap.size → (∀ b, o = some b → k ≠ b) → w'.heap[k]? = w.heap[k]? := fun k hk hne => hg.block k hk (fun e => hne k e.symm rfl)
  have hmap : ∀ j, IsMap w j → w'.heap[j]? = w.heap[j]? := fun j hj => by
    obtain ⟨es, c, h1⟩ := id hj
    exact key j (lt_block h1) fun b hb e => hj.no (e ▸ ht b hb)
  refine ⟨⟨(key p (lt_block h.g.cell) fun b hb e => ?_).trans h.g.cell, h.g.outer.kept (hmap m h.g.outer.isMap), fun q hq => (h.g.inner q hq).kept (hmap _ (h.g.inner q hq).isMap), h.g.apart⟩, h.rel, h.low, Nat.le_trans h.big hg.size⟩
  have hp : OfType w 82 p := ⟨_, _, h.g.cell⟩
  exact absurd (hp.ne (e ▸ ht b hb)) (by decide)

end Go.Proofs.Ytpjbkaibgajpcaa
