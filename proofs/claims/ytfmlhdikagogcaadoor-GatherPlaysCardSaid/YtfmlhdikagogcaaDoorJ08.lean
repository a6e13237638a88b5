/-
  best: the worst; all; many are added.
  best: all hits are told, anew.
  best, the plain law: a good list stays good.
  best: many are added.
  The document's Hits: the first n, each vector cut.
-/
import Derived.Test.YtfmlhdikagogcaaDoorJ07
import Derived.Test.YtfmlhdikagogcaaDoorJ01
namespace Go.Proofs.YtfmlhdikagogcaaDoor
open Go.RowKit
set_option maxRecDepth 20000

/-- Worst of a list with hits: a copy of the last -/
def WorstIs (w : World) (h : Hz) (e : Ending) (w' : World) : Prop :=
  ∃ u, e = .returned (.tuple #[.agg #[.int .u64 h.id, .int .u64 h.dist, u], .bool true]) ∧ w'.ownsRow w.heap.size 21 1 u h.vec.length (h.vec.map (Value.int .i32)) ∧ Below w.heap.size w w'

def WorstNo (w : World) (e : Ending) (w' : World) : Prop :=
  e = .returned (.tuple #[.agg #[.int .u64 0, .int .u64 0, .slice none 0 0], .bool false]) ∧ Below w.heap.size w w'

theorem results_cell_tmp {P : Program} {fn : Func} {p q : Tmp} {ty : TypeId} (h : fn.results = #[.cell p ty, .tmp q]) (tmps : Array Value) (w : World) (g o : Nat) (cs : List Value) (d : TypeDesc)
    (hp : tmps.getD p undef = .pointer (some ⟨g, o, none⟩)) (hc : w.rangeAt g o cs) (hu : P.underlying ty = some d) (hd : d.isRow = true) (hi : (P.info? ty).map (·.size) = some cs.length) :
    (results fn tmps).run P w = .ok (.tuple #[.agg cs.toArray, tmps.getD q undef]) w := by
  have hp' : tmps[p]?.getD undef = .pointer (some ⟨g, o, none⟩) := by simpa using hp
  simp [results, h, hp', asAddr, run_loadVar_mid w g o ty cs d hc hu hd hi]

theorem range3 {w : World} {g : Nat} {x y z : Value} (h0 : w.cell? ⟨g, 0, none⟩ = some x) (h1 : w.cell? ⟨g, 1, none⟩ = some y) (h2 : w.cell? ⟨g, 2, none⟩ = some z) : w.rangeAt g 0 [x, y, z] := by
  intro j v hj
  match j, hj with
  | 0, hj => simp at hj; subst hj; exact h0
  | 1, hj => simp at hj; subst hj; exact h1
  | 2, hj => simp at hj; subst hj; exact h2
  | (n + 3), hj => simp at hj

/-- a struct of three cells is written whole -/
theorem range_set3 {w : World} {g : Nat} {x y z x' y' z' : Value} (h0 : w.cell? ⟨g, 0, none⟩ = some x') (h1 : w.cell? ⟨g, 1, none⟩ = some y') (h2 : w.cell? ⟨g, 2, none⟩ = some z') :
    (((w.setCell ⟨g, 0, none⟩ x).setCell ⟨g, 1, none⟩ y).setCell ⟨g, 2, none⟩ z).rangeAt g 0 [x, y, z] := by
  have x1 : (w.setCell ⟨g, 0, none⟩ x).cell? ⟨g, 1, none⟩ = some y' := by rw [World.cell?_setCell_other _ _ _ _ (by simp)]; exact h1
  have x2 : ((w.setCell ⟨g, 0, none⟩ x).setCell ⟨g, 1, none⟩ y).cell? ⟨g, 2, none⟩ = some z' := by rw [World.cell?_setCell_other _ _ _ _ (by simp), World.cell?_setCell_other _ _ _ _ (by simp)]; exact h2
  refine range3 ?_ ?_ ?_
  · rw [World.cell?_setCell_other _ _ _ _ (by simp), World.cell?_setCell_other _ _ _ _ (by simp), World.cell?_setCell_same _ _ _ h0]
  · rw [World.cell?_setCell_other _ _ _ _ (by simp), World.cell?_setCell_same _ _ _ x1]
  · rw [World.cell?_setCell_same _ _ _ x2]

theorem cell_set3 {w : World} {g : Nat} {x y z v : Value} {a : Addr} (h : g ≠ a.block) (hv : w.cell? a = some v) : (((w.setCell ⟨g, 0, none⟩ x).setCell ⟨g, 1, none⟩ y).setCell ⟨g, 2, none⟩ z).cell? a = some v := by
  have hn : ∀ i : Nat, (⟨g, i, none⟩ : Addr) ≠ a := fun i e => h (by rw [← e])
  rw [World.cell?_setCell_other _ _ _ _ (hn _), World.cell?_setCell_other _ _ _ _ (hn _), World.cell?_setCell_other _ _ _ _ (hn _)]
  exact hv

/-- written over below what is owned -/
theorem own_set3 {w : World} {B e n g : Nat} {v x y z : Value} {xs : List Value} (h : w.ownsRow B e 1 v n xs) (hg : g < B) : (((w.setCell ⟨g, 0, none⟩ x).setCell ⟨g, 1, none⟩ y).setCell ⟨g, 2, none⟩ z).ownsRow B e 1 v n xs := by
  have hlt : ∀ b, v.ownBlock = some b → B ≤ b := fun b hb => (h.lt b hb).1
  refine ownsRow_setCell_other (ownsRow_setCell_other (ownsRow_setCell_other h ?_ _) ?_ _) ?_ _
  all_goals exact fun e => by have := hlt _ e; dsimp only at this; omega

end Go.Proofs.YtfmlhdikagogcaaDoor

namespace Go.Proofs.YtfmlhdikagogcaaDoor
open Go.RowKit
set_option maxRecDepth 20000

/-- hits whose vectors are rows of their own -/
structure Held3 (w : World) (B E : Nat) (rs : List Hv) (l : List Hz) : Prop where
  len : rs.length = l.length
  own : ∀ i (h1 : i < rs.length) (h2 : i < l.length), (rs[i].id = l[i].id ∧ rs[i].dist = l[i].dist) ∧ w.ownsRow B E 1 rs[i].vec l[i].vec.length (l[i].vec.map (Value.int .i32))
  apart : rs.Pairwise fun p q => p.vec.ownBlock = none ∨ p.vec.ownBlock ≠ q.vec.ownBlock

theorem Held3.nil (w : World) (B E : Nat) : Held3 w B E [] [] := ⟨rfl, fun i h _ => absurd h (by simp), List.Pairwise.nil⟩

theorem Held3.below {w w' : World} {B E : Nat} {rs : List Hv} {l : List Hz} (h : Held3 w B E rs l) (hb : Below w.heap.size w w') : Held3 w' B E rs l :=
  ⟨h.len, fun i h1 h2 => ⟨(h.own i h1 h2).1, own_below (h.own i h1 h2).2 hb⟩, h.apart⟩

theorem Held3.other {w w' : World} {B E B' e size n : Nat} {v : Value} {xs : List Value} {rs : List Hv} {l : List Hz} (h : Held3 w B E rs l) (ho : w.ownsRow B' e size v n xs) (hne : E ≠ e) (hg : w.grownBy w' v.ownBlock) : Held3 w' B E rs l :=
  ⟨h.len, fun i h1 h2 => ⟨(h.own i h1 h2).1, (h.own i h1 h2).2.kept hg (own_apart (h.own i h1 h2).2 ho hne)⟩, h.apart⟩

theorem Held3.lt {w : World} {B E : Nat} {rs : List Hv} {l : List Hz} (h : Held3 w B E rs l) {r : Hv} (hr : r ∈ rs) : ∀ b, r.vec.ownBlock = some b → B ≤ b ∧ b < w.heap.size := by
  obtain ⟨i, hi, rfl⟩ := List.mem_iff_getElem.1 hr
  exact (h.own i hi (by rw [← h.len]; exact hi)).2.lt

theorem Held3.snoc {w : World} {B E : Nat} {rs : List Hv} {l : List Hz} (h : Held3 w B E rs l) {z : Hz} {u : Value} (hn : w.ownsRow B E 1 u z.vec.length (z.vec.map (Value.int .i32)))
    (hap : ∀ r ∈ rs, r.vec.ownBlock = none ∨ r.vec.ownBlock ≠ u.ownBlock) : Held3 w B E (rs ++ [⟨z.id, z.dist, u⟩]) (l ++ [z]) := by
  refine ⟨by simp [h.len], fun i h1 h2 => ?_, ?_⟩
  · simp only [List.length_append, List.length_cons, List.length_nil] at h1 h2
    rcases Nat.lt_or_ge i rs.length with hi | hi
    · rw [List.getElem_append_left hi, List.getElem_append_left (by rw [← h.len]; exact hi)]
      exact h.own i hi _
    · have e1 : i = rs.length := by omega
      subst e1
      rw [List.getElem_append_right (by omega)]
      have e2 : l.length ≤ rs.length := by rw [h.len]; exact Nat.le_refl _
      rw [List.getElem_append_right e2]
      simp [h.len, hn]
  · refine List.pairwise_append.2 ⟨h.apart, List.pairwise_singleton _ _, fun p hp q hq => ?_⟩
    rw [List.mem_singleton.1 hq]
    exact hap p hp

theorem Held3.rows {w : World} {B E : Nat} {rs : List Hv} {l : List Hz} (h : Held3 w B E rs l) : Rows3 w (fun k => B ≤ k ∧ k < w.heap.size) rs l :=
  ⟨h.len, fun i h1 h2 => by
    obtain ⟨⟨a, b⟩, c⟩ := h.own i h1 h2
    exact ⟨a, b, Nums.of_own c, fun _ k hk => c.lt k hk⟩⟩

/-- a new row of hits of the call's own -/
def NewHits (w : World) (e : Nat) (l : List Hz) (r : Ending) (w' : World) : Prop :=
  ∃ v rs, r = .returned v ∧ w'.ownsRow w.heap.size e 3 v rs.length (flat3 rs) ∧ Held3 w' w.heap.size 21 rs l ∧ Below w.heap.size w w'

theorem hits_step {l : List Hz} {z : Hz} {rs : List Hv} {w wr w4 w5 : World} {v v5 : Value} {u4 : Value} {e E B4 : Nat} {o : Obj} (hown : wr.ownsRow w.heap.size e 3 v rs.length (flat3 rs)) (hheld : Held3 wr w.heap.size E rs l) (hb : Below w.heap.size w wr)
    (hu : w4.ownsRow B4 E 1 u4 z.vec.length (z.vec.map (Value.int .i32))) (hB4 : wr.heap.size ≤ B4) (hne : E ≠ e) (hb4 : Below wr.heap.size wr w4)
    (hown5 : w5.ownsRow w.heap.size e 3 v5 (rs.length + 1) (flat3 rs ++ (#[.int .u64 z.id, .int .u64 z.dist, u4] : Array Value).toList)) (hg5 : (w4.alloc o).grownBy w5 v.ownBlock) :
    w5.ownsRow w.heap.size e 3 v5 (rs ++ [(⟨z.id, z.dist, u4⟩ : Hv)]).length (flat3 (rs ++ [(⟨z.id, z.dist, u4⟩ : Hv)])) ∧ Held3 w5 w.heap.size E (rs ++ [⟨z.id, z.dist, u4⟩]) (l ++ [z]) ∧ Below w.heap.size w w5 := by
  have hown4 := (own_below hown hb4).alloc o
  have hheld4 := (hheld.below hb4).below ((Below.refl _ _).alloc (Nat.le_refl _) o)
  have hsz := hb.size
  have hsz4 := hb4.size
  refine ⟨by rw [flat3_snoc]; simpa using hown5, ?_, ((hb.trans (hb4.mono hsz)).alloc (by omega) o).grown hg5 (by simp; omega) (fun b hbk => (hown.lt b hbk).1)⟩
  refine (hheld4.other hown4 hne hg5).snoc ?_ fun r hr => ?_
  · have := (hu.alloc o).kept hg5 (own_apart (hu.alloc o) hown4 hne)
    exact own_mono this (by omega)
  · cases hrb : r.vec.ownBlock with
    | none => exact .inl rfl
    | some b =>
      right
      intro he
      have h1 := hheld.lt hr b hrb
      have h2 := hu.lt b he.symm
      omega

theorem take_snoc {α : Type} (l : List α) (k : Nat) (h : k < l.length) : l.take (k + 1) = l.take k ++ [l[k]] := by rw [List.take_succ_eq_append_getElem h]

theorem hits_nil (w : World) : Calls Tryd.prog 62 #[.pointer none] w (NewHits w 40 []) := by
  go_enter Tryd.func62, Tryd.ntmps62
  go_wp2_with fail
  go_ret
  exact ⟨_, [], rfl, World.ownsRow_nil _ _ _ _, Held3.nil _ _ _, Below.refl _ _⟩

set_option maxHeartbeats 4000000 in
theorem hits (B c : Nat) (most : Int) (v : Value) (rs0 : List Hv) (G : Nat → Prop) (l : List Hz) (hn : l.length ≤ 1000000) (hx : ∀ r ∈ l, r.vec.length ≤ 1000000) (w : World) (h : ListOwn w B c most v rs0 G l) :
    Calls Tryd.prog 62 #[.pointer (some ⟨c, 0, none⟩)] w (NewHits w 40 l) := by
  have A := Lib.hid h
  obtain ⟨p, cap, rfl, hcap, hbig, -, -⟩ := h.hits
  obtain ⟨-, k1, -⟩ := h.cells
  have X := Lib.hid hx
  clear hx h hcap hbig
  go_enter Tryd.func62, Tryd.ntmps62
  go_wp2_with fail
  go_loopg [3, 13] l.length (fun q out i wr => ∃ (k : Nat) (rs : List Hv), q = l.length - k ∧ k ≤ l.length ∧ i = .int .i64 k ∧ rs.length = k ∧ wr.ownsRow w.heap.size 40 3 out rs.length (flat3 rs) ∧ Held3 wr w.heap.size 21 rs (l.take k) ∧ Below w.heap.size w wr)
  case atStart => exact ⟨0, [], rfl, by omega, rfl, rfl, World.ownsRow_nil _ _ _ _, Held3.nil _ _ _, Below.refl _ _⟩
  case round =>
    obtain ⟨k, rs, rfl, hk, rfl, hlen, hown, hheld, hb⟩ := hrel
    by_cases hlt : k < l.length
    · obtain ⟨rs', -, -, hel⟩ := (A.out.below hb).hits.rows
      obtain ⟨b, off, up, ucap, -, rfl, -, -, c0, c1, c2, hu, -⟩ := hel k hlt
      have O := Lib.hid (And.intro hown (And.intro hheld (And.intro hb hlen)))
      have U := Lib.hid hu
      have hsz := hb.size
      clear hown hheld hb hu hlen hel
      go_wp2_with fail
      have hbW := (Below.refl wr.heap.size wr).alloc (Nat.le_refl _) (Obj.cells #[Value.int IntKind.u64 l[k].id, Value.int IntKind.u64 l[k].dist, Value.slice up l[k].vec.length ucap] 40)
      refine (copyOf l[k] _ _ (U.out.below hbW) (X.out _ (List.getElem_mem hlt))).mono ?_
      rintro e w4 ⟨u4, rfl, hu4, hb4⟩
      obtain ⟨q4, n4, c4, rfl⟩ := own_form hu4
      have hb04 := hbW.trans (hb4.mono (by simp))
      obtain ⟨g5, c5, w5, hrun, hown5, hg5, hat5, -⟩ := run_push rowHit (own_below O.out.1 hb04) (by have := hb04.size; omega) #[.int .u64 l[k].id, .int .u64 l[k].dist, .slice q4 n4 c4] rfl (by simp [Value.oneCell']) (by have := O.out.2.2.2; simp [maxLen]; omega) (by have := O.out.2.2.2; omega)
      have F := Lib.hid (hits_step O.out.1 O.out.2.1 O.out.2.2.1 hu4 (by simp) (by decide) hb04 hown5 hg5)
      clear hbW hb04 hown5 hg5 hat5 hu4 hb4
      go_wp2_with (refine wpList_append_eq hrun rfl _ _ rfl rfl rfl ?_)
      go_roundg (l.length - (k + 1))
      case measure => omega
      case rel => exact ⟨k + 1, rs ++ [⟨l[k].id, l[k].dist, .slice q4 n4 c4⟩], rfl, by omega, by go_num, by have := O.out.2.2.2; rw [List.length_append, this]; rfl, F.out.1, by rw [take_snoc l k hlt]; exact F.out.2.1, F.out.2.2⟩
    · obtain rfl : k = l.length := by omega
      go_wp2_with fail
      go_ret
      exact ⟨_, rs, rfl, hown, by rw [List.take_length] at hheld; exact hheld, hb⟩

end Go.Proofs.YtfmlhdikagogcaaDoor

namespace Go.Proofs.YtfmlhdikagogcaaDoor
open Go.RowKit
set_option maxRecDepth 20000

theorem near_of_take {l : List Hz} {h x : Hz} (hx : x ∈ l.take (rankZ l h)) : near x h = true := by
  obtain ⟨i, hi, rfl⟩ := List.mem_iff_getElem.1 hx
  rw [List.length_take] at hi
  rw [List.getElem_take]
  exact rankZ_below _ (by omega)

theorem not_near_of_drop {l : List Hz} (hs : Sorted l) {h x : Hz} (hx : x ∈ l.drop (rankZ l h)) : near x h = false := by
  obtain ⟨i, hi, rfl⟩ := List.mem_iff_getElem.1 hx
  rw [List.getElem_drop]
  exact rankZ_above hs _ (by omega)

theorem insZ_perm (l : List Hz) (h : Hz) : (insZ l h).Perm (h :: l) := by
  unfold insZ
  refine List.perm_middle.trans ?_
  rw [List.take_append_drop]

theorem insZ_length (l : List Hz) (h : Hz) : (insZ l h).length = l.length + 1 := by
  have := (insZ_perm l h).length_eq
  simpa using this

theorem insZ_mem {l : List Hz} {h x : Hz} : x ∈ insZ l h ↔ x = h ∨ x ∈ l := by
  rw [(insZ_perm l h).mem_iff]; simp

theorem insZ_sorted {l : List Hz} (hs : Sorted l) {h : Hz} (hi : ∀ x ∈ l, x.id ≠ h.id) : Sorted (insZ l h) := by
  unfold insZ
  have hl : Sorted (l.take (rankZ l h) ++ l.drop (rankZ l h)) := by rw [List.take_append_drop]; exact hs
  obtain ⟨h1, h2, h3⟩ := List.pairwise_append.1 hl
  refine List.pairwise_append.2 ⟨h1, List.pairwise_cons.2 ⟨fun y hy => ?_, h2⟩, fun a ha b hb => ?_⟩
  · rcases near_total (hi y (List.mem_of_mem_drop hy)) with h4 | h4
    · rw [not_near_of_drop hs hy] at h4; cases h4
    · exact h4
  · rcases List.mem_cons.1 hb with rfl | hb
    · exact near_of_take ha
    · exact h3 a ha b hb

/-- each ID once -/
def Ids (l : List Hz) : Prop := l.Pairwise fun a b => a.id ≠ b.id

theorem Ids.perm {l m : List Hz} (h : Ids l) (p : l.Perm m) : Ids m := (p.pairwise_iff (fun {a b} hab => Ne.symm hab)).1 h

theorem insZ_ids {l : List Hz} (hd : Ids l) {h : Hz} (hi : ∀ x ∈ l, x.id ≠ h.id) : Ids (insZ l h) :=
  Ids.perm (List.pairwise_cons.2 ⟨fun a ha => (hi a ha).symm, hd⟩) (insZ_perm l h).symm

/-- what a list is at any time -/
structure GoodL (most : Nat) (l : List Hz) : Prop where
  sorted : Sorted l
  ids : Ids l
  len : l.length ≤ most
  vecs : ∀ x ∈ l, x.vec.length ≤ 1000000

theorem GoodL.nil (most : Nat) : GoodL most [] := ⟨List.Pairwise.nil, List.Pairwise.nil, Nat.zero_le _, fun x h => absurd h (by simp)⟩

theorem GoodL.ins {most : Nat} {l : List Hz} (g : GoodL most l) (hl : l.length < most) {h : Hz} (hi : ∀ x ∈ l, x.id ≠ h.id) (hx : h.vec.length ≤ 1000000) : GoodL most (insZ l h) :=
  ⟨insZ_sorted g.sorted hi, insZ_ids g.ids hi, by rw [insZ_length]; omega, fun x hm => by rcases insZ_mem.1 hm with rfl | hm; exact hx; exact g.vecs x hm⟩

theorem GoodL.sub {most : Nat} {l m : List Hz} (g : GoodL most l) (h : m.Sublist l) : GoodL most m :=
  ⟨g.sorted.sublist h, g.ids.sublist h, Nat.le_trans h.length_le g.len, fun x hm => g.vecs x (h.mem hm)⟩

theorem posZ_out {i : Int} {l : List Hz} (h : posZ i l = -1) : ∀ x ∈ l, x.id ≠ i := by
  cases hf : l.findIdx? (fun x => decide (x.id = i)) with
  | some k => simp [posZ, hf] at h
  | none =>
    intro x hx
    have := List.findIdx?_eq_none_iff.1 hf x hx
    simpa using this

theorem erase_ids {l : List Hz} (hd : Ids l) {k : Nat} (hk : k < l.length) : ∀ x ∈ l.eraseIdx k, x.id ≠ l[k].id := by
  intro x hx
  obtain ⟨j, hj, hjk, rfl⟩ := List.mem_eraseIdx_iff_getElem.1 hx
  rcases Nat.lt_or_ge j k with h | h
  · exact List.pairwise_iff_getElem.1 hd j k _ _ h
  · exact (List.pairwise_iff_getElem.1 hd k j _ _ (by omega)).symm

theorem posZ_in {i : Int} {l : List Hz} {k : Nat} (hk : k < l.length) (h : posZ i l = k) : l[k].id = i := by
  cases hf : l.findIdx? (fun x => decide (x.id = i)) with
  | some j =>
    simp [posZ, hf] at h
    obtain rfl : j = k := by omega
    have := (List.findIdx?_eq_some_iff_getElem.1 hf).2.1
    simpa using this
  | none => simp [posZ, hf] at h

theorem addZ_good {most : Nat} (hm : 1 ≤ most) {l : List Hz} (g : GoodL most l) {h : Hz} (hx : h.vec.length ≤ 1000000) : GoodL most (addZ most l h).2 := by
  rcases add_cases most l h hm g.len with ⟨k, hk, hp, ⟨-, ha⟩ | ⟨-, ha⟩⟩ | ⟨hp, ⟨hne, ha⟩ | ⟨heq, hk, ⟨-, ha⟩ | ⟨-, ha⟩⟩⟩
  · rw [ha]; exact g
  · rw [ha]
    have hg := g.len
    refine (g.sub (List.eraseIdx_sublist _ _)).ins (by rw [List.length_eraseIdx_of_lt hk]; omega) (fun x hm => ?_) hx
    rw [← posZ_in hk hp]
    exact erase_ids g.ids hk x hm
  · rw [ha]
    have hg := g.len
    exact g.ins (by omega) (posZ_out hp) hx
  · rw [ha]; exact g
  · rw [ha]
    exact (g.sub (List.take_sublist _ _)).ins (by rw [List.length_take]; omega) (fun x hm => posZ_out hp x (List.mem_of_mem_take hm)) hx

/-- many are added -/
def addsZ (most : Nat) (l ms : List Hz) : Nat × List Hz := ms.foldl (fun p h => ((if (addZ most p.2 h).1 then p.1 + 1 else p.1), (addZ most p.2 h).2)) (0, l)

theorem addsZ_snoc (most : Nat) (l ms : List Hz) (h : Hz) : addsZ most l (ms ++ [h]) = ((if (addZ most (addsZ most l ms).2 h).1 then (addsZ most l ms).1 + 1 else (addsZ most l ms).1), (addZ most (addsZ most l ms).2 h).2) := by
  unfold addsZ; rw [List.foldl_append]; rfl

theorem addsZ_nil (most : Nat) (l : List Hz) : addsZ most l [] = (0, l) := rfl

theorem addsZ_good {most : Nat} (hm : 1 ≤ most) {l : List Hz} (g : GoodL most l) (ms : List Hz) (hx : ∀ h ∈ ms, h.vec.length ≤ 1000000) : GoodL most (addsZ most l ms).2 := by
  unfold addsZ
  generalize (0 : Nat) = n
  induction ms generalizing n l with
  | nil => exact g
  | cons h ms ih =>
    rw [List.foldl_cons]
    exact ih (addZ_good hm g (hx h (by simp))) (fun x hx' => hx x (by simp [hx'])) _

theorem addsZ_le (most : Nat) (l ms : List Hz) : (addsZ most l ms).1 ≤ ms.length := by
  have : ∀ (n : Nat) (l : List Hz), (ms.foldl (fun p h => ((if (addZ most p.2 h).1 then p.1 + 1 else p.1), (addZ most p.2 h).2)) (n, l)).1 ≤ n + ms.length := by
    induction ms with
    | nil => intro n l; simp
    | cons h ms ih =>
      intro n l
      rw [List.foldl_cons, List.length_cons]
      refine Nat.le_trans (ih _ _) ?_
      split <;> omega
  have := this 0 l
  unfold addsZ
  omega

end Go.Proofs.YtfmlhdikagogcaaDoor

namespace Go.Proofs.YtfmlhdikagogcaaDoor
open Go.RowKit
set_option maxRecDepth 20000

def AddsTo (B c : Nat) (F : Nat → Prop) (most : Nat) (r : Nat × List Hz) (w : World) (e : Ending) (w' : World) : Prop :=
  e = .returned (.int .i64 r.1) ∧ ListAt w' B (Plus F w w') c most r.2 ∧ Mod F w w'

/-- one more was added -/
theorem adds_step {B c : Nat} {F : Nat → Prop} {most : Nat} {m : List Hz} {w wr w' : World} {o : Obj} (hm : Mod F w wr) (h1 : ListAt w' B (Plus (Plus F w wr) (wr.alloc o) w') c most m) (h2 : Mod (Plus F w wr) (wr.alloc o) w') :
    ListAt w' B (Plus F w w') c most m ∧ Mod F w w' := by
  have hs := h2.size
  have hs0 := hm.size
  have ho : (wr.alloc o).heap.size = wr.heap.size + 1 := by simp
  rw [ho] at hs
  refine ⟨h1.mono fun k hk => ?_, ?_⟩
  · rcases hk with (hk | ⟨ha, hb⟩) | ⟨ha, hb⟩
    · exact .inl hk
    · exact .inr ⟨ha, by omega⟩
    · rw [ho] at ha
      exact .inr ⟨by omega, hb⟩
  · refine (hm.andBelow ((Below.refl _ _).alloc (Nat.le_refl _) o)).trans h2 fun k hk hp => ?_
    rcases hp with hp | ⟨hp, _⟩
    · exact hp
    · omega

theorem adds_nil (v : Value) (w : World) : Calls Tryd.prog 61 #[.pointer none, v] w fun e w' => e = .returned (.int .i64 0) ∧ w = w' := by
  go_enter Tryd.func61, Tryd.ntmps61
  go_wp2_with fail
  go_ret
  exact ⟨rfl, rfl⟩

set_option maxHeartbeats 4000000 in
theorem adds (B c : Nat) (F E : Nat → Prop) (most : Nat) (l ms : List Hz) (v : Value) (w : World) (hm1 : 1 ≤ most) (hm2 : most ≤ 100000) (hL : ListAt w B F c most l) (hF : ∀ k, F k → k < w.heap.size) (hB : B ≤ w.heap.size)
    (hg : GoodL most l) (hv : HitsF w E v ms) (hE : ∀ k, E k → k < w.heap.size ∧ ¬ F k) (hx : ∀ h ∈ ms, h.vec.length ≤ 1000000) (hml : ms.length ≤ 1000000) :
    Calls Tryd.prog 61 #[.pointer (some ⟨c, 0, none⟩), v] w (AddsTo B c F most (addsZ most l ms) w) := by
  obtain ⟨p, cap, rfl, hcap, hbig, -, -⟩ := id hv
  have H := Lib.hid (And.intro hF (And.intro hB (And.intro hg (And.intro hv (And.intro hE hx)))))
  have L0 := Lib.hid hL
  have M2 := Lib.hid hm2
  clear hL hF hB hg hv hE hx hcap hbig hm2
  go_enter Tryd.func61, Tryd.ntmps61
  go_wp2_with fail
  go_loopg [5, 12] ms.length (fun q n i wr => ∃ k : Nat, q = ms.length - k ∧ k ≤ ms.length ∧ i = .int .i64 k ∧ n = .int .i64 (addsZ most l (ms.take k)).1 ∧ ListAt wr B (Plus F w wr) c most (addsZ most l (ms.take k)).2 ∧ Mod F w wr)
  case atStart => exact ⟨0, rfl, by omega, rfl, rfl, L0.out.mono fun _ => .inl, Mod.refl _ _⟩
  case round =>
    obtain ⟨k, rfl, hk, rfl, rfl, hl, hmod⟩ := hrel
    by_cases hlt : k < ms.length
    · obtain ⟨hF, hB, hg, hv, hE, hx⟩ := H.out
      have hvr := hv.agree (Agree.of_mod hmod (fun k hk => (hE k hk).1) fun k hk => (hE k hk).2)
      obtain ⟨rs', -, -, hel⟩ := hvr.rows
      obtain ⟨b, off, up, ucap, -, rfl, hEb, -, c0, c1, c2, hu, hlu⟩ := hel k hlt
      have hs := hmod.size
      have hgk := addsZ_good (most := most) hm1 hg (ms.take k) fun h hh => hx h (List.mem_of_mem_take hh)
      have hxk := hx _ (List.getElem_mem hlt)
      have hle := addsZ_le most l (ms.take k)
      have hb1 := (Below.refl wr.heap.size wr).alloc (Nat.le_refl _) (Obj.cells #[Value.int IntKind.u64 ms[k].id, Value.int IntKind.u64 ms[k].dist, Value.slice up ms[k].vec.length ucap] 40)
      have AD := Lib.hid (add B c (Plus F w wr) most (addsZ most l (ms.take k)).2 ms[k] (.slice up ms[k].vec.length ucap) (wr.alloc (Obj.cells #[Value.int IntKind.u64 ms[k].id, Value.int IntKind.u64 ms[k].dist, Value.slice up ms[k].vec.length ucap] 40)) hm1 M2.out (hl.below hb1) (fun j hj => by
          have := hb1.size
          rcases hj with hj | ⟨-, hj⟩
          · have := hF j hj; omega
          · omega) (Nat.le_trans hB (Nat.le_trans hs hb1.size)) hgk.len hgk.sorted (hu.below hb1) hxk (fun hn b hb hp => by
          obtain ⟨h1, h2⟩ := hE b (hlu hn b hb)
          rcases hp with hp | ⟨hp, -⟩
          · exact h2 hp
          · omega))
      have MO := Lib.hid hmod
      have SN := Lib.hid (addsZ_snoc most l (ms.take k) ms[k])
      rw [← take_snoc ms k hlt] at SN
      have hnk : (addsZ most l (ms.take k)).1 ≤ k := by rw [List.length_take] at hle; omega
      clear hF hB hg hv hE hx hvr hel hEb hu hlu hgk hxk hle hb1 hl hmod
      generalize addsZ most l (ms.take k) = pr at *
      obtain ⟨n, m⟩ := pr
      simp only at hnk
      cases hr : (addZ most m ms[k]).1
      · rw [hr] at SN
        have R := Lib.hid hr
        clear hr
        go_wp2_with fail
        refine AD.out.mono ?_
        rintro e w4 ⟨rfl, h1, h2⟩
        have ST := Lib.hid (adds_step MO.out h1 h2)
        clear h1 h2
        simp only [R.out]
        go_wp2_with fail
        go_roundg (ms.length - (k + 1))
        case measure => omega
        case rel => exact ⟨k + 1, rfl, by omega, by go_num, by rw [SN.out]; rfl, by rw [SN.out]; exact ST.out.1, ST.out.2⟩
      · rw [hr] at SN
        have R := Lib.hid hr
        clear hr
        go_wp2_with fail
        refine AD.out.mono ?_
        rintro e w4 ⟨rfl, h1, h2⟩
        have ST := Lib.hid (adds_step MO.out h1 h2)
        clear h1 h2
        simp only [R.out]
        go_wp2_with fail
        go_roundg (ms.length - (k + 1))
        case measure => omega
        case rel => exact ⟨k + 1, rfl, by omega, by go_num, by rw [SN.out]; simp, by rw [SN.out]; exact ST.out.1, ST.out.2⟩
    · obtain rfl : k = ms.length := by omega
      rw [List.take_length] at *
      go_wp2_with fail
      go_ret
      exact ⟨rfl, hl, hmod⟩

end Go.Proofs.YtfmlhdikagogcaaDoor

namespace Go.Proofs.YtfmlhdikagogcaaDoor
open Go.RowKit
set_option maxRecDepth 20000

/-- the first n of them, each vector cut at 8 -/
def hitsZ (n : Nat) (l : List Hz) : List Hz := (l.take n).map fun h => ⟨h.id, h.dist, h.vec.take 8⟩

theorem hitsZ_snoc (n : Nat) (l : List Hz) (k : Nat) (hk : k < l.length) (hn : k < n) : hitsZ n (l.take (k + 1)) = hitsZ n (l.take k) ++ [⟨l[k].id, l[k].dist, l[k].vec.take 8⟩] := by
  unfold hitsZ
  have h1 : (l.take (k + 1)).take n = l.take (k + 1) := List.take_of_length_le (by simp; omega)
  have h2 : (l.take k).take n = l.take k := List.take_of_length_le (by simp; omega)
  rw [h1, h2, List.take_succ_eq_append_getElem hk, List.map_append]
  rfl

theorem hitsZ_same (n : Nat) (l : List Hz) (k : Nat) (hn : n ≤ k) : hitsZ n (l.take (k + 1)) = hitsZ n (l.take k) := by
  unfold hitsZ
  rw [List.take_take, List.take_take]
  congr 2
  omega

theorem hitsZ_length (n : Nat) (l : List Hz) : (hitsZ n l).length = min n l.length := by simp [hitsZ]

theorem hitsZ_vec {n : Nat} {l : List Hz} {h : Hz} (hh : h ∈ hitsZ n l) : h.vec.length ≤ 8 := by
  unfold hitsZ at hh
  obtain ⟨x, -, rfl⟩ := List.mem_map.1 hh
  simp only [List.length_take]; omega

theorem refHits (n : Nat) (hn9 : n ≤ 1000) (l : List Hz) (F : Nat → Prop) (v : Value) (w : World) (h : HitsF w F v l) :
    Calls Tryd.prog 45 #[v, .int .i64 n] w (NewHits w 40 (hitsZ n l)) := by
  obtain ⟨p, cap, rfl, hcap, hbig, -, -⟩ := id h
  have hl : l.length ≤ 9223372036854775807 := by omega
  clear hcap hbig
  have H := Lib.hid h
  clear h
  go_enter Tryd.func45, Tryd.ntmps45
  go_wp2_with fail
  go_loopg [5, 10] l.length (fun q out i wr => ∃ (k : Nat) (rs : List Hv), q = l.length - k ∧ k ≤ l.length ∧ i = .int .i64 k ∧ rs.length = min n k ∧ wr.ownsRow w.heap.size 40 3 out rs.length (flat3 rs) ∧ Held3 wr w.heap.size 21 rs (hitsZ n (l.take k)) ∧ Below w.heap.size w wr)
  case atStart => exact ⟨0, [], rfl, by omega, rfl, by simp, World.ownsRow_nil _ _ _ _, by simpa [hitsZ] using Held3.nil _ _ _, Below.refl _ _⟩
  case round =>
    obtain ⟨k, rs, rfl, hk, rfl, hlen, hown, hheld, hb⟩ := hrel
    by_cases hlt : k < l.length
    · obtain ⟨rs', -, -, hel⟩ := (H.out.below hb).rows
      obtain ⟨b, off, up, ucap, -, rfl, -, -, c0, c1, c2, hu, -⟩ := hel k hlt
      have O := Lib.hid (And.intro hown (And.intro hheld hb))
      have hl20 : rs.length ≤ n := by omega
      have L := Lib.hid hlen
      clear hlen
      have U := Lib.hid hu
      have hsz := hb.size
      clear hown hheld hb hu hel
      by_cases h20 : k < n
      · go_wp2_with fail
        refine region_go (fun w' => w'.cell? ⟨wr.heap.size, 0, none⟩ = some (.int .u64 l[k].id) ∧ w'.cell? ⟨wr.heap.size, 1, none⟩ = some (.int .u64 l[k].dist) ∧ w'.cell? ⟨wr.heap.size, 2, none⟩ = some (.slice up l[k].vec.length ucap)) (by kernel_rfl) ?hS0 (fun hH => ?_)
        case hS0 =>
          exact ⟨by go_simp, by go_simp, by go_simp⟩
        refine kY 0 hH ?_
        repeat simp only [Act.put, uA1, uB1, uC1]
        refine kY 1 hH ?_
        repeat simp only [Act.put, uA1, uB1, uC1]
        refine kY 2 hH ?_
        repeat simp only [Act.put, uA1, uB1, uC1]
        refine kY 3 hH ?_
        repeat simp only [Act.put, uA1, uB1, uC1]
        refine kY 4 hH ?_
        repeat simp only [Act.put, uA1, uB1, uC1]
        refine kY 5 hH ?_
        repeat simp only [Act.put, uA1, uB1, uC1]
        refine kY 6 hH ?_
        repeat simp only [Act.put, uA1, uB1, uC1]
        refine spk 7 rfl (by decide +kernel) (by rfl) (fun K' hK => ?_)
        go_simp
        have hbW := ((Below.refl wr.heap.size wr).alloc (Nat.le_refl _) (Obj.cells #[Value.int IntKind.u64 l[k].id, Value.int IntKind.u64 l[k].dist, Value.slice up l[k].vec.length ucap] 40)).drew
        refine (cutVec l[k].vec _ 8 _ (U.out.below hbW) (by decide) (.inr (by decide))).mono ?_
        intro e w4 hN
        obtain ⟨u4, rfl, hu4, hb4⟩ := hN
        obtain ⟨q4, n4, c4, rfl⟩ := own_form hu4
        have hb04 := hbW.trans (hb4.mono (by simp))
        obtain ⟨g5, c5, w5, hrun, hown5, hg5, hat5, -⟩ := run_push rowHit (own_below O.out.1 hb04) (by have := hb04.size; omega) #[.int .u64 l[k].id, .int .u64 l[k].dist, .slice q4 n4 c4] rfl (by simp [Value.oneCell']) (by simp [maxLen]; omega) (by omega)
        have hk5 : ∀ (j : Nat) (v : Value), (w4.alloc (.cells #[.int .u64 l[k].id, .int .u64 l[k].dist, .slice q4 n4 c4] 40)).cell? ⟨wr.heap.size, j, none⟩ = some v → w5.cell? ⟨wr.heap.size, j, none⟩ = some v := fun j v hc => hg5.cell hc (fun e => Nat.lt_irrefl _ (O.out.1.lt _ e.symm).2)
        have F := Lib.hid (hits_step (z := ⟨l[k].id, l[k].dist, l[k].vec.take 8⟩) O.out.1 O.out.2.1 O.out.2.2 hu4 (by simp) (by decide) hb04 hown5 hg5)
        clear hbW hb04 hown5 hg5 hat5 hu4
        try dsimp only
        refine hK.out _ _ ?hS (fun hH' => ?_)
        case hS =>
          exact ⟨below_cells hb4 hH.1, below_cells hb4 hH.2.1, below_cells hb4 hH.2.2⟩
        clear hK K' hH; have hH := hH'; clear hH'; repeat simp only [Act.put, uA1, uB1, uC1]
        refine kY 8 hH ?_
        repeat simp only [Act.put, uA1, uB1, uC1]
        refine spk 9 rfl (by decide +kernel) (by rfl) (fun K' hK => ?_)
        go_simp
        try dsimp only
        refine hK.out _ _ ?hS (fun hH' => ?_)
        case hS =>
          exact ⟨by rw [World.cell?_alloc_lt _ _ _ (lt_of_cell hH.1)]; exact hH.1, by rw [World.cell?_alloc_lt _ _ _ (lt_of_cell hH.2.1)]; exact hH.2.1, by rw [World.cell?_alloc_lt _ _ _ (lt_of_cell hH.2.2)]; exact hH.2.2⟩
        clear hK K' hH; have hH := hH'; clear hH'; repeat simp only [Act.put, uA1, uB1, uC1]
        refine spk 10 rfl (by decide +kernel) (by rfl) (fun K' hK => ?_)
        refine wp_append_eq hrun _ _ rfl rfl rfl ?_
        try dsimp only
        refine hK.out _ _ ?hS (fun hH' => ?_)
        case hS =>
          exact ⟨hk5 _ _ hH.1, hk5 _ _ hH.2.1, hk5 _ _ hH.2.2⟩
        clear hK K' hH; have hH := hH'; clear hH'; repeat simp only [Act.put, uA1, uB1, uC1]
        refine kY 11 hH ?_
        repeat simp only [Act.put, uA1, uB1, uC1]
        refine wpAnyH_done (by decide +kernel) ?_ _
        go_wp2_with fail
        go_roundg (l.length - (k + 1))
        case measure => omega
        case rel => exact ⟨k + 1, rs ++ [⟨l[k].id, l[k].dist, .slice q4 n4 c4⟩], rfl, by omega, by go_num, by have := L.out; rw [List.length_append, this]; simp; omega, F.out.1, by rw [hitsZ_snoc n l k hlt h20]; exact F.out.2.1, F.out.2.2⟩
      · go_wp2_with fail
        go_roundg (l.length - (k + 1))
        case measure => omega
        case rel => exact ⟨k + 1, rs, rfl, by omega, by go_num, by have := L.out; omega, O.out.1.alloc _, by rw [hitsZ_same n l k (by omega)]; exact O.out.2.1.below ((Below.refl _ _).alloc (Nat.le_refl _) _), O.out.2.2.alloc hsz _⟩
    · obtain rfl : k = l.length := by omega
      go_wp2_with fail
      go_ret
      exact ⟨_, rs, rfl, hown, by rw [List.take_length] at hheld; exact hheld, hb⟩

end Go.Proofs.YtfmlhdikagogcaaDoor
