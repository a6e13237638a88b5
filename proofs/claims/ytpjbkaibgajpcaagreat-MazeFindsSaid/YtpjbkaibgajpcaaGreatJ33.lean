/- graph's laws: the document's example. An argument that is a script of calls on a graph. graph's laws: what a script does to both graphs. graph's law: GraphBoth. graph's law: GraphNeeds. graph's law: GraphJoins (plain part). maze: what a walk keeps, in plain lists; what it tells. VecA -/
import Derived.Test.YtpjbkaibgajpcaaGreatJ32
import Derived.Test.YtpjbkaibgajpcaaGreatJ09
import Derived.Deep.Strs
import Derived.Test.YtpjbkaibgajpcaaGreatJ17
import Derived.Test.YtpjbkaibgajpcaaGreatJ01
namespace Go.Proofs.YtpjbkaibgajpcaaGreat
open Go.RowKit Go.ChangeMaps
set_option maxRecDepth 20000

end Go.Proofs.YtpjbkaibgajpcaaGreat

namespace Go.Proofs.YtpjbkaibgajpcaaGreat
open Go.ChangeShapes Go.WideShapes Go.ChangeAt Go.RowKit Go.Deep
set_option maxRecDepth 20000

def ScriptO (w : World) (v : Value) (l : List (Int × Int × Int)) : Prop :=
  ∃ p cap, v = .slice p l.length cap ∧ l.length ≤ cap ∧ cap ≤ 9223372036854775807 ∧
    ∀ i (hi : i < l.length), ∃ b off, p = some ⟨b, off, none⟩ ∧ w.cell? ⟨b, off + i * 3, none⟩ = some (.int .u8 l[i].1) ∧ w.cell? ⟨b, off + i * 3 + 1, none⟩ = some (.int .u64 l[i].2.1) ∧ w.cell? ⟨b, off + i * 3 + 2, none⟩ = some (.int .u64 l[i].2.2)

theorem ScriptO.below {w w' : World} {v : Value} {l : List (Int × Int × Int)} (h : ScriptO w v l) (hb : Below w.heap.size w w') : ScriptO w' v l := by
  obtain ⟨p, cap, hv, h1, h2, h3⟩ := h
  refine ⟨p, cap, hv, h1, h2, fun i hi => ?_⟩
  obtain ⟨b, off, hp, c0, c1, c2⟩ := h3 i hi
  exact ⟨b, off, hp, below_cells hb c0, below_cells hb c1, below_cells hb c2⟩

section
variable {H : Type} {enc : TypeId × Value → H} {W : World}

end

end Go.Proofs.YtpjbkaibgajpcaaGreat

namespace Go.Proofs.YtpjbkaibgajpcaaGreat
open Go.RowKit Go.ChangeMaps
set_option maxRecDepth 20000

theorem GS.start {B p m : Nat} {Q : Gr} {w : World} (h : GP B p m Q [] [] w) : GS B p m w.heap.size Q [] [] (w.alloc (.cells #[.slice none 0 0, .slice none 0 0] 96)) := by
  have hb : Below w.heap.size w (w.alloc (.cells #[.slice none 0 0, .slice none 0 0] 96)) := (Below.refl _ w).alloc (Nat.le_refl _) _
  exact ⟨h.g.kept fun k hk => hb.block k hk, ⟨.slice none 0 0, .slice none 0 0, ⟨heap_alloc_new _ _, ⟨rfl, .inl ⟨rfl, rfl⟩⟩, ⟨rfl, .inl ⟨rfl, rfl⟩⟩, h.big⟩⟩, h.rel, h.low, Nat.le_trans h.big hb.size⟩

end Go.Proofs.YtpjbkaibgajpcaaGreat

namespace Go.Proofs.YtpjbkaibgajpcaaGreat
open Go.RowKit Go.ChangeMaps
set_option maxRecDepth 20000

theorem way_in {N : List Int} {E : Eg} (h : Egs N E) {needed : Bool} {a b : Int} (hw : Way (adj E needed) a b) (ha : a ∈ N) : b ∈ N := by
  induction hw with
  | here => exact ha
  | step _ hr _ =>
    obtain ⟨e, he, -, h1, h2⟩ := mem_adj hr
    rename_i b c _ _
    have hen := h.ends e he
    rcases Int.le_total b c with hb | hb
    · rw [Int.max_eq_right hb] at h2; rw [← h2]; exact hen.2.2
    · rw [Int.min_eq_right hb] at h1; rw [← h1]; exact hen.2.1

theorem mem_reachD {N : List Int} {E : Eg} (h : Egs N E) {needed : Bool} {a b : Int} : b ∈ reachD N E a needed ↔ a ∈ N ∧ Way (adj E needed) a b := by
  unfold reachD
  by_cases ha : a ∈ N
  · rw [if_pos ha, mem_reachN h needed ha]; simp [ha]
  · rw [if_neg ha]; simp [ha]

end Go.Proofs.YtpjbkaibgajpcaaGreat

namespace Go.Proofs.YtpjbkaibgajpcaaGreat
open Go.RowKit Go.ChangeMaps
set_option maxRecDepth 20000

theorem cut_needs {N : List Int} {E : Eg} {a b : Int} {e : Int × Int × Bool} (he : e ∈ E) (hn : e.2.2 = true) : e ∈ (cutD N E a b).2 := by
  unfold cutD
  split
  · exact he
  · cases atE E a b with
    | none => exact he
    | some i =>
      simp only []
      split
      · exact he
      · next h =>
        rcases Nat.lt_or_ge i E.length with hi | hi
        · rw [List.getElem?_eq_getElem hi] at h
          simp only [Option.map_some, Option.some.injEq] at h
          have hs : E = E.take i ++ E[i] :: E.drop (i + 1) := by rw [← List.drop_eq_getElem_cons hi, List.take_append_drop]
          rw [hs] at he
          rw [List.eraseIdx_eq_take_drop_succ, List.mem_append]
          rcases List.mem_append.1 he with h1 | h1
          · exact .inl h1
          · rcases List.mem_cons.1 h1 with h1 | h1
            · exact absurd (h1 ▸ hn) h
            · exact .inr h1
        · rw [List.eraseIdx_of_length_le hi]; exact he

structure GC (B p m c : Nat) (Q : Gr) (N : List Int) (E E' : Eg) (w : World) : Prop where
  g : GP B p m Q N E' w
  d : ∃ vn ve, DGr w B c N E vn ve
  egs : Egs N E
  sub : ∀ e ∈ E, e.2.2 = true → e ∈ E'

theorem GC.below {B p m c : Nat} {Q : Gr} {N : List Int} {E E' : Eg} {w w' : World} (h : GC B p m c Q N E E' w) (hb : Below w.heap.size w w') : GC B p m c Q N E E' w' := by
  obtain ⟨vn, ve, hd⟩ := h.d
  exact ⟨h.g.below hb, ⟨vn, ve, hd.below hb⟩, h.egs, h.sub⟩

theorem GC.cut {B p m c : Nat} {Q : Gr} {N : List Int} {E E' : Eg} {w : World} (h : GC B p m c Q N E E' w) (x y : Int) :
    Calls Tryz.prog 87 #[.pointer (some ⟨p, 0, none⟩), .int .u64 x, .int .u64 y] w fun e w1 => e = .returned (.int .i64 (cutD N E' x y).1) ∧ (∃ Q', GC B p m c Q' N E (cutD N E' x y).2 w1) ∧ Below B w w1 := by
  refine (gCut w p m Q x y h.g.g).mono ?_
  rintro e w1 ⟨rfl, hg, hm⟩
  obtain ⟨h1, h2, h3⟩ := h.g.rel.cut x y
  obtain ⟨vn, ve, hd⟩ := h.d
  have := h.g.to h3 h2 hg hm
  exact ⟨by rw [h1], ⟨_, ⟨this.1, ⟨vn, ve, hd.maps hm h.g.g.blocks_map⟩, h.egs, fun e he hn => cut_needs (h.sub e he hn) hn⟩⟩, Turn.low this.2 h.g.big⟩

end Go.Proofs.YtpjbkaibgajpcaaGreat

namespace Go.Proofs.YtpjbkaibgajpcaaGreat
open Go.RowKit Go.ChangeMaps
set_option maxRecDepth 20000

theorem adj_false {E : Eg} {x y : Int} : adj E false x y ↔ (edgeD E x y).isSome = true := by
  unfold adj
  cases edgeD E x y <;> simp

theorem reachD_sorted (N : List Int) (E : Eg) (k : Int) (needed : Bool) : (reachD N E k needed).Pairwise (· < ·) := by
  unfold reachD
  split
  · exact reachN_sorted E needed k _
  · exact List.Pairwise.nil

theorem GP.grown {B p m : Nat} {Q : Gr} {N : List Int} {E : Eg} {w w' : World} (h : GP B p m Q N E w) {o : Option Nat} (hg : w.grownBy w' o) (ht : ∀ b, o = some b → OfType w 36 b) : GP B p m Q N E w' := by
  have key : ∀ k, k < w.heap.size → (∀ b, o = some b → k ≠ b) → w'.heap[k]? = w.heap[k]? := fun k hk hne => hg.block k hk (fun e => hne k e.symm rfl)
  have hmap : ∀ j, IsMap w j → w'.heap[j]? = w.heap[j]? := fun j hj => by
    obtain ⟨es, c, h1⟩ := id hj
    exact key j (lt_block h1) fun b hb e => hj.no (e ▸ ht b hb)
  refine ⟨⟨(key p (lt_block h.g.cell) fun b hb e => ?_).trans h.g.cell, h.g.outer.kept (hmap m h.g.outer.isMap), fun q hq => (h.g.inner q hq).kept (hmap _ (h.g.inner q hq).isMap), h.g.apart⟩, h.rel, h.low, Nat.le_trans h.big hg.size⟩
  have hp : OfType w 125 p := ⟨_, _, h.g.cell⟩
  exact absurd (hp.ne (e ▸ ht b hb)) (by decide)

end Go.Proofs.YtpjbkaibgajpcaaGreat

namespace Go.Proofs.YtpjbkaibgajpcaaGreat
open Go.RowKit
set_option maxRecDepth 20000

theorem farL_mem {L : List Hz} {k d : Int} (h : farL L k = some d) : ∃ y ∈ L, y.id = k ∧ y.dist = d := by
  unfold farL at h
  rw [Option.map_eq_some_iff] at h
  obtain ⟨y, h1, rfl⟩ := h
  exact ⟨y, List.mem_of_find?_eq_some h1, by simpa using List.find?_some h1, rfl⟩

theorem farL_key {L : List Hz} {k d : Int} (h : farL L k = some d) : k ∈ L.map (·.id) := by
  obtain ⟨y, hy, rfl, -⟩ := farL_mem h
  exact List.mem_map_of_mem (f := fun y : Hz => y.id) hy

theorem farL_of {L : List Hz} (ho : (L.map (·.id)).Nodup) {y : Hz} (hy : y ∈ L) : farL L y.id = some y.dist := by
  unfold farL
  have : L.find? (fun h => decide (h.id = y.id)) = some y := by
    induction L with
    | nil => cases hy
    | cons a L ih =>
      rw [List.map_cons, List.nodup_cons] at ho
      rcases List.mem_cons.1 hy with rfl | hy
      · rw [List.find?_cons_of_pos (by simp)]
      · rw [List.find?_cons_of_neg, ih ho.2 hy]
        simp only [decide_eq_true_eq]
        intro e
        exact ho.1 (e ▸ List.mem_map_of_mem (f := fun y : Hz => y.id) hy)
  rw [this]; rfl

def resW (L : List Hz) (E : Eg) (most : Nat) (ks : List Int) : List Hz × Nat :=
  goW (farL L) (fun k => nearD E k false) most (2 * (L.map fun y : Hz => y.id).length) (lookW (farL L) most true ⟨[], [], []⟩ ks)

theorem near_le_trans {a b c : Hz} (h : near a b = false) (g : near b c = false) : near a c = false := by
  simp only [near, nearB, Bool.or_eq_false_iff, Bool.and_eq_false_iff, decide_eq_false_iff_not] at *
  omega

theorem sorted_head {l : List Hz} (hs : Sorted l) {x z : Hz} (hx : l.head? = some x) (hz : z ∈ l) : near z x = false := by
  cases l with
  | nil => cases hz
  | cons a l =>
    obtain rfl : a = x := by simpa using hx
    rcases List.mem_cons.1 hz with rfl | hz
    · exact near_irrefl _
    · exact near_asymm ((List.pairwise_cons.1 hs).1 z hz)

theorem head_of_mem {l : List Hz} {z : Hz} (hz : z ∈ l) : ∃ x, l.head? = some x := by
  cases l with
  | nil => cases hz
  | cons a l => exact ⟨a, rfl⟩

theorem last_head {l : List Hz} (hs : Sorted l) {x y h : Hz} (hx : l.head? = some x) (hy : l.getLast? = some y) (hn : near h y = false) : near h x = false := by
  refine near_le_trans hn (sorted_head hs hx (List.mem_of_getLast? hy))

theorem addW_head {most : Nat} (hm : 1 ≤ most) {L : List Hz} (g : GoodL most L) {h : Hz} (hi : ∀ x ∈ L, x.id ≠ h.id) (hv : h.vec.length ≤ 1000000) :
    ∃ x, (addZ most L h).2.head? = some x ∧ near h x = false ∧ ∀ y, L.head? = some y → near y x = false := by
  have hS := (addZ_good hm g hv).sorted
  rw [addW_new hi] at hS ⊢
  by_cases hf : L.length = most
  · rw [if_pos hf] at hS ⊢
    by_cases hn : near h (L.getD (most - 1) h) = true
    · rw [if_pos hn] at hS ⊢
      obtain ⟨x, hx⟩ := head_of_mem (insZ_mem.2 (.inl rfl) : h ∈ insZ (L.take (most - 1)) h)
      refine ⟨x, hx, sorted_head hS hx (insZ_mem.2 (.inl rfl)), fun y hy => ?_⟩
      by_cases h1 : most = 1
      · subst h1
        have hxm : x ∈ insZ (L.take (1 - 1)) h := List.mem_of_head? hx
        rcases insZ_mem.1 hxm with rfl | h2
        · cases L with
          | nil => cases hy
          | cons a L =>
            obtain rfl : a = y := by simpa using hy
            exact near_asymm (by simpa using hn)
        · simp at h2
      · refine sorted_head hS hx (insZ_mem.2 (.inr ?_))
        cases L with
        | nil => cases hy
        | cons a L =>
          obtain rfl : a = y := by simpa using hy
          obtain ⟨m, rfl⟩ : ∃ m, most = m + 2 := ⟨most - 2, by omega⟩
          simp
    · rw [if_neg hn] at hS ⊢
      have hlt : most - 1 < L.length := by omega
      obtain ⟨x, hx⟩ := head_of_mem (List.getElem_mem hlt)
      refine ⟨x, hx, ?_, fun y hy => ?_⟩
      · rw [List.getD_eq_getElem?_getD, List.getElem?_eq_getElem hlt] at hn
        exact near_le_trans (by simpa using hn) (sorted_head hS hx (List.getElem_mem hlt))
      · rw [hx] at hy
        obtain rfl := Option.some.inj hy
        exact near_irrefl _
  · rw [if_neg hf] at hS ⊢
    obtain ⟨x, hx⟩ := head_of_mem (insZ_mem.2 (.inl rfl) : h ∈ insZ L h)
    exact ⟨x, hx, sorted_head hS hx (insZ_mem.2 (.inl rfl)), fun y hy => sorted_head hS hx (insZ_mem.2 (.inr (List.mem_of_head? hy)))⟩

section
variable {K : List Int} {far : Int → Option Int} {nr : Int → List Int} {most : Nat} {start : List Int}

structure SeenW (K : List Int) (far : Int → Option Int) (nr : Int → List Int) (most : Nat) (start : List Int) (s : Ws) (V : List Int) : Prop where
  once : V.Nodup
  sub : ∀ v ∈ V, v ∈ s.S
  apart : ∀ v ∈ V, ∀ x ∈ s.T, x.id ≠ v
  farl : ∀ x ∈ s.L, far x.id = some x.dist
  fart : ∀ x ∈ s.T, far x.id = some x.dist
  way : ∀ k ∈ s.S, ∃ a ∈ start, (far a).isSome = true ∧ (far k).isSome = true ∧ Way (fun a b => b ∈ nr a) a k
  told : ∀ x ∈ s.L, x.id ∈ V ∨ x ∈ s.T
  first : ∀ k ∈ s.S, ∀ d, far k = some d → ∃ x, s.L.head? = some x ∧ near (hitK k d) x = false
  full : K.length ≤ most → (∀ k ∈ s.S, k ∈ V ∨ ∃ x ∈ s.T, x.id = k) ∧ ∀ k ∈ s.S, ∃ x ∈ s.L, x.id = k

theorem SeenW.begin0 : SeenW K far nr most start ⟨[], [], []⟩ [] :=
  ⟨by simp, by simp, by simp, by simp, by simp, by simp, by simp, by simp, fun _ => ⟨by simp, by simp⟩⟩

theorem see_grow (far : Int → Option Int) (most : Nat) (all : Bool) (s : Ws) (k : Int) : (∀ x ∈ s.S, x ∈ (seeW far most all s k).S) ∧ ((far k).isSome = true → k ∈ (seeW far most all s k).S) := by
  unfold seeW
  cases hf : far k with
  | none => exact ⟨fun x h => h, fun h => by simp at h⟩
  | some d =>
    simp only
    by_cases hk : k ∈ s.S
    · rw [if_pos hk]; exact ⟨fun x h => h, fun _ => hk⟩
    · rw [if_neg hk]
      split
      · exact ⟨fun x h => List.mem_append.2 (.inl h), fun _ => List.mem_append.2 (.inr (by simp))⟩
      · exact ⟨fun x h => List.mem_append.2 (.inl h), fun _ => List.mem_append.2 (.inr (by simp))⟩

theorem look_grow (far : Int → Option Int) (most : Nat) (all : Bool) (ks : List Int) : ∀ s : Ws, (∀ x ∈ s.S, x ∈ (lookW far most all s ks).S) ∧ ∀ k ∈ ks, (far k).isSome = true → k ∈ (lookW far most all s ks).S := by
  induction ks with
  | nil => intro s; exact ⟨fun x h => h, by simp⟩
  | cons a ks ih =>
    intro s
    have h1 := see_grow far most all s a
    have h2 := ih (seeW far most all s a)
    refine ⟨fun x hx => h2.1 x (h1.1 x hx), fun k hk hf => ?_⟩
    rcases List.mem_cons.1 hk with rfl | hk
    · exact h2.1 _ (h1.2 hf)
    · exact h2.2 k hk hf

theorem room_for (hK : ∀ k d, far k = some d → k ∈ K) {s : Ws} (g : GoodW K far most s) {k d : Int} (hf : far k = some d) (hk : k ∉ s.S) : s.L.length < K.length := by
  have h1 : (s.S ++ [k]).Nodup := by
    rw [List.nodup_append]
    exact ⟨g.seen, by simp, fun a ha b hb e => hk (by simp at hb; rw [← hb, ← e]; exact ha)⟩
  have h2 := nodup_len h1 fun x hx => by
    rcases List.mem_append.1 hx with h | h
    · exact g.sub x h
    · obtain rfl : x = k := by simpa using h
      exact hK x d hf
  have h3 : (s.L.map (·.id)).Nodup := by
    have := g.best.ids
    unfold Ids at this
    unfold List.Nodup
    rw [List.pairwise_map]
    exact this
  have h4 := nodup_len h3 fun k hk => by
    obtain ⟨x, hx, rfl⟩ := List.mem_map.1 hk
    exact g.idl x hx
  simp at h2 h4
  omega

theorem SeenW.see (hK : ∀ k d, far k = some d → k ∈ K) (hm : 1 ≤ most) {s : Ws} {V : List Int} (g : GoodW K far most s) (h : SeenW K far nr most start s V) (all : Bool) {k : Int}
    (hw : (far k).isSome = true → ∃ a ∈ start, (far a).isSome = true ∧ Way (fun a b => b ∈ nr a) a k) : SeenW K far nr most start (seeW far most all s k) V := by
  unfold seeW
  cases hf : far k with
  | none => exact h
  | some d =>
    simp only
    by_cases hk : k ∈ s.S
    · rw [if_pos hk]; exact h
    · rw [if_neg hk]
      have hnL : ∀ x ∈ s.L, x.id ≠ (hitK k d).id := fun x hx e => hk (show k ∈ s.S from (show x.id = k from e) ▸ g.idl x hx)
      have hway : ∀ x ∈ s.S ++ [k], ∃ a ∈ start, (far a).isSome = true ∧ (far x).isSome = true ∧ Way (fun a b => b ∈ nr a) a x := fun x hx => by
        rcases List.mem_append.1 hx with hx | hx
        · exact h.way x hx
        · obtain rfl : x = k := by simpa using hx
          have hs : (far x).isSome = true := by rw [hf]; rfl
          obtain ⟨a, h1, h2, h3⟩ := hw hs
          exact ⟨a, h1, h2, hs, h3⟩
      by_cases hh : (hopeB most s.L (hitK k d) || all) = true
      · rw [if_pos hh]
        obtain ⟨x, hx, h1, h2⟩ := addW_head hm g.best hnL (by simp [hitK])
        refine ⟨h.once, fun v hv => List.mem_append.2 (.inl (h.sub v hv)), fun v hv y hy e => ?_, fun y hy => ?_, fun y hy => ?_, hway, fun y hy => ?_, fun k' hk' d' hf' => ?_, fun hfull => ⟨fun y hy => ?_, fun y hy => ?_⟩⟩
        · rcases mem_insD.1 hy with rfl | hy
          · exact hk ((show k = v from e) ▸ h.sub v hv)
          · exact h.apart v hv y hy e
        · rcases addW_mem hnL hy with rfl | hy
          · exact hf
          · exact h.farl y hy
        · rcases mem_insD.1 hy with rfl | hy
          · exact hf
          · exact h.fart y hy
        · rcases addW_mem hnL hy with rfl | hy
          · exact .inr (mem_insD.2 (.inl rfl))
          · exact (h.told y hy).imp id fun h => mem_insD.2 (.inr h)
        · rcases List.mem_append.1 hk' with hk' | hk'
          · obtain ⟨y, hy, hn⟩ := h.first k' hk' d' hf'
            exact ⟨x, hx, near_le_trans hn (h2 y hy)⟩
          · obtain rfl : k' = k := by simpa using hk'
            rw [hf] at hf'
            obtain rfl := Option.some.inj hf'
            exact ⟨x, hx, h1⟩
        · rcases List.mem_append.1 hy with hy | hy
          · rcases (h.full hfull).1 y hy with h3 | ⟨z, hz, e⟩
            · exact .inl h3
            · exact .inr ⟨z, mem_insD.2 (.inr hz), e⟩
          · obtain rfl : y = k := by simpa using hy
            exact .inr ⟨_, mem_insD.2 (.inl rfl), rfl⟩
        · have hne : s.L.length ≠ most := by have := room_for hK g hf hk; omega
          show ∃ x ∈ (addZ most s.L (hitK k d)).2, x.id = y
          rw [addW_new hnL, if_neg hne]
          rcases List.mem_append.1 hy with hy | hy
          · obtain ⟨z, hz, e⟩ := (h.full hfull).2 y hy
            exact ⟨z, insZ_mem.2 (.inr hz), e⟩
          · obtain rfl : y = k := by simpa using hy
            exact ⟨_, insZ_mem.2 (.inl rfl), rfl⟩
      · rw [if_neg hh]
        have hh1 : hopeB most s.L (hitK k d) = false := by
          cases h9 : hopeB most s.L (hitK k d)
          · rfl
          · rw [h9] at hh; simp at hh
        unfold hopeB at hh1
        simp only [Bool.or_eq_false_iff, Bool.not_eq_false', decide_eq_true_eq] at hh1
        obtain ⟨hl, hn⟩ := hh1
        refine ⟨h.once, fun v hv => List.mem_append.2 (.inl (h.sub v hv)), h.apart, h.farl, h.fart, hway, h.told, fun k' hk' d' hf' => ?_, fun hfull => ?_⟩
        · rcases List.mem_append.1 hk' with hk' | hk'
          · exact h.first k' hk' d' hf'
          · obtain rfl : k' = k := by simpa using hk'
            rw [hf] at hf'
            obtain rfl := Option.some.inj hf'
            have hlt : 0 < s.L.length := by omega
            obtain ⟨x, hx⟩ := head_of_mem (List.getElem_mem hlt)
            cases hy : s.L.getLast? with
            | none => rw [List.getLast?_eq_none_iff] at hy; rw [hy] at hlt; simp at hlt
            | some y =>
              rw [hy] at hn
              exact ⟨x, hx, last_head g.best.sorted hx hy hn⟩
        · have := room_for hK g hf hk
          omega

theorem SeenW.look (hK : ∀ k d, far k = some d → k ∈ K) (hm : 1 ≤ most) (all : Bool) {V : List Int} (ks : List Int) : ∀ {s : Ws}, GoodW K far most s → SeenW K far nr most start s V →
    (∀ k ∈ ks, (far k).isSome = true → ∃ a ∈ start, (far a).isSome = true ∧ Way (fun a b => b ∈ nr a) a k) → SeenW K far nr most start (lookW far most all s ks) V := by
  induction ks with
  | nil => intro s g h _; exact h
  | cons k ks ih =>
    intro s g h hw
    exact ih (g.see hK hm all k) (h.see hK hm g all (hw k (by simp))) fun k hk => hw k (by simp [hk])

def ShutV (far : Int → Option Int) (nr : Int → List Int) (s : Ws) (V : List Int) : Prop := ∀ v ∈ V, ∀ k ∈ nr v, (far k).isSome = true → k ∈ s.S

inductive RunsW (far : Int → Option Int) (nr : Int → List Int) (most : Nat) : Ws → List Int → Ws → List Int → Prop
  | done {s : Ws} {V : List Int} (h : ∀ x, s.T.getLast? = some x → overB most s.L x = true) : RunsW far nr most s V s V
  | step {s s' : Ws} {V V' : List Int} {x : Hz} (h : s.T.getLast? = some x) (ho : overB most s.L x = false) (hr : RunsW far nr most (lookW far most false ⟨s.L, s.S, s.T.dropLast⟩ (nr x.id)) (V ++ [x.id]) s' V') : RunsW far nr most s V s' V'

theorem goW_runs (hK : ∀ k d, far k = some d → k ∈ K) : ∀ (f : Nat) (s : Ws) (V : List Int), lessW K s ≤ f → ∃ s' V', RunsW far nr most s V s' V' ∧ (goW far nr most f s).1 = s'.L ∧ V'.length = V.length + (goW far nr most f s).2 := by
  intro f
  induction f with
  | zero =>
    intro s V h
    have hT : s.T = [] := List.eq_nil_of_length_eq_zero (by unfold lessW at h; omega)
    exact ⟨s, V, .done (by simp [hT]), rfl, rfl⟩
  | succ f ih =>
    intro s V h
    unfold goW
    cases hl : s.T.getLast? with
    | none => exact ⟨s, V, .done (by simp [hl]), rfl, rfl⟩
    | some x =>
      simp only
      cases ho : overB most s.L x with
      | true => exact ⟨s, V, .done (fun y hy => by rw [hl] at hy; obtain rfl := Option.some.inj hy; exact ho), rfl, rfl⟩
      | false =>
        rw [if_neg (by simp)]
        have hT : s.T ≠ [] := by rintro e; rw [e] at hl; cases hl
        have h1 := pop_less (K := K) hT
        have h2 := look_less (most := most) hK false (nr x.id) ⟨s.L, s.S, s.T.dropLast⟩
        obtain ⟨s', V', h3, h4, h5⟩ := ih (lookW far most false ⟨s.L, s.S, s.T.dropLast⟩ (nr x.id)) (V ++ [x.id]) (by omega)
        refine ⟨s', V', .step hl ho h3, h4, ?_⟩
        rw [h5]
        simp
        omega

theorem RunsW.over {s s' : Ws} {V V' : List Int} (h : RunsW far nr most s V s' V') : ∀ x, s'.T.getLast? = some x → overB most s'.L x = true := by
  induction h with
  | done h => exact h
  | step _ _ _ ih => exact ih

theorem RunsW.keeps (hK : ∀ k d, far k = some d → k ∈ K) (hm : 1 ≤ most) {s s' : Ws} {V V' : List Int} (h : RunsW far nr most s V s' V') : GoodW K far most s → SeenW K far nr most start s V → ShutV far nr s V →
    GoodW K far most s' ∧ SeenW K far nr most start s' V' ∧ ShutV far nr s' V' := by
  induction h with
  | done h => exact fun g k c => ⟨g, k, c⟩
  | @step s s' V V' x h ho _ ih =>
    intro g k c
    have hT : s.T = s.T.dropLast ++ [x] := by
      rw [List.getLast?_eq_some_iff] at h
      obtain ⟨ys, e⟩ := h
      rw [e]; simp
    have hx : x ∈ s.T := by rw [hT]; simp
    have hxS := g.ids x hx
    have hsplit : ∀ y ∈ s.T, y ∈ s.T.dropLast ∨ y = x := fun y hy => by
      rw [hT] at hy
      rcases List.mem_append.1 hy with h1 | h1
      · exact .inl h1
      · exact .inr (by simpa using h1)
    have hne : ∀ y ∈ s.T.dropLast, y.id ≠ x.id := fun y hy e => by
      have hd := g.desc
      rw [hT, List.pairwise_append] at hd
      have h1 := hd.2.2 y hy x (by simp)
      have h2 := k.fart y (List.dropLast_subset _ hy)
      have h3 := k.fart x hx
      rw [e, h3] at h2
      have h4 := Option.some.inj h2
      simp only [near, nearB, e, h4] at h1
      simp at h1
    have k1 : SeenW K far nr most start ⟨s.L, s.S, s.T.dropLast⟩ (V ++ [x.id]) := by
      refine ⟨?_, fun v hv => ?_, fun v hv y hy => ?_, k.farl, fun y hy => k.fart y (List.dropLast_subset _ hy), k.way, fun y hy => ?_, k.first, fun hf => ⟨fun y hy => ?_, (k.full hf).2⟩⟩
      · rw [List.nodup_append]
        exact ⟨k.once, by simp, fun a ha b hb e => k.apart a ha x hx (by simp at hb; rw [← hb, ← e])⟩
      · rcases List.mem_append.1 hv with hv | hv
        · exact k.sub v hv
        · obtain rfl : v = x.id := by simpa using hv
          exact hxS
      · rcases List.mem_append.1 hv with hv | hv
        · exact k.apart v hv y (List.dropLast_subset _ hy)
        · obtain rfl : v = x.id := by simpa using hv
          exact hne y hy
      · rcases k.told y hy with h1 | h1
        · exact .inl (List.mem_append.2 (.inl h1))
        · rcases hsplit y h1 with h2 | rfl
          · exact .inr h2
          · exact .inl (List.mem_append.2 (.inr (by simp)))
      · rcases (k.full hf).1 y hy with h1 | ⟨z, hz, rfl⟩
        · exact .inl (List.mem_append.2 (.inl h1))
        · rcases hsplit z hz with h2 | rfl
          · exact .inr ⟨z, h2, rfl⟩
          · exact .inl (List.mem_append.2 (.inr (by simp)))
    have g1 := g.pop
    obtain ⟨a, ha, hfa, -, hwa⟩ := k.way x.id hxS
    have k2 := k1.look hK hm false (nr x.id) g1 fun y hy hf => ⟨a, ha, hfa, .step hwa hy⟩
    have hg := look_grow far most false (nr x.id) ⟨s.L, s.S, s.T.dropLast⟩
    refine ih (g1.look hK hm false (nr x.id)) k2 fun v hv y hy hf => ?_
    rcases List.mem_append.1 hv with hv | hv
    · exact hg.1 y (c v hv y hy hf)
    · obtain rfl : v = x.id := by simpa using hv
      exact hg.2 y hy hf

structure EndW (K : List Int) (far : Int → Option Int) (nr : Int → List Int) (most : Nat) (start : List Int) (L : List Hz) (n : Nat) (s : Ws) (V : List Int) : Prop where
  list : s.L = L
  count : V.length = n
  good : GoodW K far most s
  seen : SeenW K far nr most start s V
  shut : ShutV far nr s V
  over : ∀ x, s.T.getLast? = some x → overB most s.L x = true
  begun : ∀ k ∈ start, (far k).isSome = true → k ∈ s.S

theorem RunsW.grow {s s' : Ws} {V V' : List Int} (h : RunsW far nr most s V s' V') : ∀ k ∈ s.S, k ∈ s'.S := by
  induction h with
  | done h => exact fun k hk => hk
  | @step s s' V V' x h ho _ ih => exact fun k hk => ih k ((look_grow far most false (nr x.id) ⟨s.L, s.S, s.T.dropLast⟩).1 k hk)

theorem less_start (hK : ∀ k d, far k = some d → k ∈ K) (ks : List Int) : lessW K (lookW far most true ⟨[], [], []⟩ ks) ≤ 2 * K.length := by
  have h1 := look_less (most := most) hK true ks ⟨[], [], []⟩
  have h2 : lessW K ⟨[], [], []⟩ ≤ K.length := by unfold lessW; simp; exact List.length_filter_le _ _
  omega

theorem endW (hK : ∀ k d, far k = some d → k ∈ K) (hm : 1 ≤ most) (ks : List Int) : ∃ s V, EndW K far nr most ks (goW far nr most (2 * K.length) (lookW far most true ⟨[], [], []⟩ ks)).1 (goW far nr most (2 * K.length) (lookW far most true ⟨[], [], []⟩ ks)).2 s V := by
  obtain ⟨s, V, h1, h2, h3⟩ := goW_runs (nr := nr) (most := most) hK (2 * K.length) (lookW far most true ⟨[], [], []⟩ ks) [] (less_start hK ks)
  have g0 := (GoodW.start (K := K) (far := far) hm).look hK hm true ks
  have k0 := (SeenW.begin0 (K := K) (far := far) (nr := nr) (most := most) (start := ks)).look hK hm true ks (GoodW.start hm) fun k hk hf => ⟨k, hk, hf, .here⟩
  obtain ⟨g, k, c⟩ := h1.keeps hK hm g0 k0 fun v hv => by simp at hv
  exact ⟨s, V, h2.symm, by simpa using h3, g, k, c, h1.over, fun k hk hf => h1.grow k ((look_grow far most true ks ⟨[], [], []⟩).2 k hk hf)⟩

theorem EndW.whole {ks : List Int} {L : List Hz} {n : Nat} {s : Ws} {V : List Int} (h : EndW K far nr most ks L n s V) (hf : K.length ≤ most) : (∀ k, k ∈ s.S ↔ k ∈ V) ∧ (L.map (·.id)).Perm V ∧ (∀ k ∈ V, ∀ x ∈ nr k, (far x).isSome = true → x ∈ V) := by
  have hT : s.T = [] := by
    cases hl : s.T.getLast? with
    | none => rwa [List.getLast?_eq_none_iff] at hl
    | some x =>
      have h1 := h.over x hl
      unfold overB at h1
      have hx : x ∈ s.T := List.mem_of_getLast? hl
      obtain ⟨z, hz, e⟩ := (h.seen.full hf).2 x.id (h.good.ids x hx)
      obtain rfl : z = x := by
        have h2 := h.seen.farl z hz
        have h3 := h.seen.fart x hx
        rw [e, h3] at h2
        have h4 := h.good.plain z hz
        have h5 := h.good.bare x hx
        have h6 := Option.some.inj h2
        cases z; cases x
        simp_all
      exfalso
      cases hy : s.L.getLast? with
      | none => rw [List.getLast?_eq_none_iff] at hy; rw [hy] at hz; cases hz
      | some y =>
        rw [hy] at h1
        simp only [Bool.and_eq_true, decide_eq_true_eq] at h1
        have h7 := h1.2
        rw [List.getLast?_eq_some_iff] at hy
        obtain ⟨ys, e2⟩ := hy
        have hs := h.good.best.sorted
        rw [e2] at hs hz
        rcases List.mem_append.1 hz with h8 | h8
        · rw [near_asymm ((List.pairwise_append.1 hs).2.2 z h8 y (by simp))] at h7
          cases h7
        · obtain rfl : z = y := by simpa using h8
          rw [near_irrefl] at h7; cases h7
  have hS : ∀ k, k ∈ s.S ↔ k ∈ V := fun k => by
    refine ⟨fun hk => ?_, h.seen.sub k⟩
    rcases (h.seen.full hf).1 k hk with h1 | ⟨x, hx, -⟩
    · exact h1
    · rw [hT] at hx; cases hx
  refine ⟨hS, ?_, fun k hk x hx hfx => (hS x).1 (h.shut k hk x hx hfx)⟩
  rw [← h.list]
  have h1 : (s.L.map (·.id)).Nodup := by
    have := h.good.best.ids
    unfold Ids at this
    unfold List.Nodup
    rw [List.pairwise_map]
    exact this
  rw [List.perm_ext_iff_of_nodup h1 h.seen.once]
  intro a
  rw [← hS a]
  constructor
  · intro ha
    obtain ⟨x, hx, rfl⟩ := List.mem_map.1 ha
    exact h.good.idl x hx
  · intro ha
    obtain ⟨x, hx, rfl⟩ := (h.seen.full hf).2 a ha
    exact List.mem_map_of_mem (f := fun y : Hz => y.id) hx

theorem EndW.ends {ks : List Int} {L : List Hz} {n : Nat} {s : Ws} {V : List Int} (h : EndW K far nr 1 ks L n s V) {x : Hz} (hx : L = [x]) : ∀ k ∈ nr x.id, ∀ d, far k = some d → near (hitK k d) x = false := by
  have hl := h.list
  rw [hx] at hl
  have hV : x.id ∈ V := by
    rcases h.seen.told x (by rw [hl]; simp) with h1 | h1
    · exact h1
    · exfalso
      cases hy : s.T.getLast? with
      | none => rw [List.getLast?_eq_none_iff] at hy; rw [hy] at h1; cases h1
      | some y =>
        have ho := h.over y hy
        unfold overB at ho
        rw [hl] at ho
        simp only [List.getLast?_singleton, List.length_singleton, decide_true, Bool.true_and] at ho
        rw [List.getLast?_eq_some_iff] at hy
        obtain ⟨ys, e⟩ := hy
        rw [e] at h1
        rcases List.mem_append.1 h1 with h2 | h2
        · have hd := h.good.desc
          rw [e, List.pairwise_append] at hd
          have := near_asymm (hd.2.2 x h2 y (by simp))
          rw [this] at ho; cases ho
        · obtain rfl : x = y := by simpa using h2
          rw [near_irrefl] at ho; cases ho
  intro k hk d hd
  obtain ⟨y, hy, hn⟩ := h.seen.first k (h.shut _ hV k hk (by rw [hd]; rfl)) d hd
  rw [hl] at hy
  obtain rfl : x = y := by simpa using hy
  exact hn
end

def farHit (L : List Hz) (k : Int) : Hz := hitK k ((farL L k).getD 0)

theorem near_adj {N : List Int} {E : Eg} (eg : Egs N E) (a b : Int) : b ∈ nearD E a false ↔ adj E false a b := by
  rw [mem_nearD eg, adj_false]
  constructor
  · rintro ⟨v, h, -⟩; rw [h]; rfl
  · intro h
    obtain ⟨v, hv⟩ := Option.isSome_iff_exists.1 h
    exact ⟨v, hv, rfl⟩

theorem endR {L : List Hz} (E : Eg) {most : Nat} (hm : 1 ≤ most) (ks : List Int) : ∃ s V, EndW (L.map (·.id)) (farL L) (fun k => nearD E k false) most ks (resW L E most ks).1 (resW L E most ks).2 s V :=
  endW (fun _k _d => farL_key) hm ks

theorem ids_far {K : List Int} {L l : List Hz} {nr : Int → List Int} {most : Nat} {ks : List Int} {n : Nat} {s : Ws} {V : List Int} (h : EndW K (farL L) nr most ks l n s V) : l = (l.map (·.id)).map (farHit L) := by
  rw [List.map_map]
  have : l.map (farHit L ∘ fun h => h.id) = l.map id := List.map_congr_left fun y hy => by
    rw [← h.list] at hy
    have h1 := h.seen.farl y hy
    have h2 := h.good.plain y hy
    simp only [Function.comp, farHit, h1, Option.getD_some, hitK, id]
    exact hz_ext rfl rfl h2.symm
  rw [this, List.map_id]

end Go.Proofs.YtpjbkaibgajpcaaGreat

namespace Go.Proofs.YtpjbkaibgajpcaaGreat
open Go.RowKit
set_option maxRecDepth 20000

def outB (n : Int) : Bool := decide (n < -268435456) || decide (268435456 < n)

theorem right1 (n : Int) (w : World) :
    Calls Tryz.prog 90 #[.int .i32 n] w fun e w' => e = .returned (.bool (outB n)) ∧ w = w' := by
  by_cases h : n < -268435456
  all_goals
    go_enter Tryz.func90, Tryz.ntmps90
    go_wp2
    go_ret
    exact ⟨by simp [outB, h]; try omega, rfl⟩

def idx (xs : List Int) : Int := match xs.findIdx? outB with | some k => k | none => -1

theorem idx_at (xs : List Int) (k : Nat) (hk : k < xs.length) (hall : ∀ j (h : j < xs.length), j < k → outB xs[j] = false) (hx : outB xs[k] = true) : idx xs = k := by
  have : xs.findIdx? outB = some k := by
    rw [List.findIdx?_eq_some_iff_getElem]
    exact ⟨hk, hx, fun j hj => by simpa using hall j (by omega) hj⟩
  simp [idx, this]

theorem idx_none (xs : List Int) (hall : ∀ j (h : j < xs.length), outB xs[j] = false) : idx xs = -1 := by
  have : xs.findIdx? outB = none := by
    rw [List.findIdx?_eq_none_iff]
    intro x hx
    obtain ⟨i, hi, rfl⟩ := List.mem_iff_getElem.1 hx
    exact hall i hi
  simp [idx, this]

theorem vIndexFunc (xs : List Int) (v : Value) (w : World) (h : Nums w .i32 v xs) :
    Calls Tryz.prog 116 #[v, .func (.func 90) #[] #[]] w fun e w' => e = .returned (.int .i64 (idx xs)) ∧ w = w' := by
  obtain ⟨p, cap, rfl, hcap, hbig, -, hc⟩ := h.slice
  have hl : xs.length ≤ 9223372036854775807 := by omega
  clear hcap hbig
  go_enter Tryz.func116, Tryz.ntmps116
  go_wp2_with fail
  go_loop [5, 8] (fun _ i => ∃ k : Nat, k ≤ xs.length ∧ i = .int .i64 k ∧ ∀ j (h : j < xs.length), j < k → outB xs[j] = false) (fun _ i => xs.length - (intOf i).toNat)
  case atStart => exact ⟨0, by omega, rfl, by omega⟩
  case round =>
    obtain ⟨k, hk, rfl, hall⟩ := hrel
    have H := Lib.hid hall
    have H2 := Lib.hid hc
    have H3 := Lib.hid h
    clear hall hc h
    by_cases hlt : k < xs.length
    · obtain ⟨b, off, rfl, hcell⟩ := H2.out k hlt
      cases hx : outB xs[k]
      · go_wp2_with (go_at_call 90; refine (right1 _ _).mono ?_; rintro e w' ⟨rfl, rfl⟩)
        go_round
        case rel => exact ⟨k + 1, by omega, by go_num, fun j h hj => by
          by_cases e : j = k
          · subst e; exact hx
          · exact H.out j h (by omega)⟩
        case measure => simp [intOf]; omega
      · go_wp2_with (go_at_call 90; refine (right1 _ _).mono ?_; rintro e w' ⟨rfl, rfl⟩)
        go_ret
        exact ⟨ret_int (idx_at xs k hlt H.out hx).symm, rfl⟩
    · go_wp2_with fail
      go_ret
      exact ⟨ret_int (idx_none xs fun j h => H.out j h (by omega)).symm, rfl⟩


def rightB (xs : List Int) : Bool := decide (0 < xs.length) && decide (xs.length ≤ 8) && !xs.any outB

theorem idx_ge (xs : List Int) : decide (0 ≤ idx xs) = xs.any outB := by
  unfold idx
  cases h : xs.findIdx? outB with
  | none =>
    rw [List.findIdx?_eq_none_iff] at h
    have : xs.any outB = false := by simp only [List.any_eq_false]; exact fun x hx => by simp [h x hx]
    simp [this]
  | some k =>
    rw [List.findIdx?_eq_some_iff_getElem] at h
    obtain ⟨hk, hx, _⟩ := h
    have : xs.any outB = true := by simp only [List.any_eq_true]; exact ⟨_, List.getElem_mem hk, hx⟩
    simp [this]

theorem containsFunc (xs : List Int) (v : Value) (w : World) (h : Nums w .i32 v xs) :
    Calls Tryz.prog 89 #[v, .func (.func 90) #[] #[]] w fun e w' => e = .returned (.bool (xs.any outB)) ∧ w = w' := by
  have H := Lib.hid h
  clear h
  go_enter Tryz.func89, Tryz.ntmps89
  go_wp2_with fail
  refine (vIndexFunc xs _ _ H.out).mono ?_
  rintro e w' ⟨rfl, rfl⟩
  go_wp2_with fail
  go_ret
  exact ⟨ret_bool (idx_ge xs), rfl⟩

theorem right (xs : List Int) (v : Value) (w : World) (h : Nums w .i32 v xs) :
    Calls Tryz.prog 68 #[v] w fun e w' => e = .returned (.bool (rightB xs)) ∧ w = w' := by
  obtain ⟨p, cap, rfl, hcap, hbig, -, hc⟩ := h.slice
  have hl : xs.length ≤ 9223372036854775807 := by omega
  clear hcap hbig
  clear hc
  have H := Lib.hid h
  clear h
  by_cases h1 : 0 < xs.length
  · by_cases h2 : xs.length ≤ 8
    · go_enter Tryz.func68, Tryz.ntmps68
      go_wp2_with (go_at_call 89; refine (containsFunc xs _ _ H.out).mono ?_; rintro e w' ⟨rfl, rfl⟩)
      go_ret
      exact ⟨ret_bool (by simp [rightB, h1, h2]), rfl⟩
    · go_enter Tryz.func68, Tryz.ntmps68
      go_wp2_with fail
      go_ret
      exact ⟨ret_bool (by simp [rightB, h1, h2]), rfl⟩
  · go_enter Tryz.func68, Tryz.ntmps68
    go_wp2_with fail
    go_ret
    exact ⟨ret_bool (by simp [rightB, h1]), rfl⟩

end Go.Proofs.YtpjbkaibgajpcaaGreat
