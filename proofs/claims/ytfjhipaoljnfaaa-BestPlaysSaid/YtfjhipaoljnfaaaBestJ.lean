/-
  best: all hits are told, anew.
-/
import Derived.Test.YtfjhipaoljnfaaaBestI
namespace Go.Proofs.Ytfjhipaoljnfaaa
open Go.RowKit

/-- hits whose vectors are rows of their own -/
structure Held3 (w : World) (B E : Nat) (rs : List Hv) (l : List Hz) : Prop where
  len : rs.length = l.length
  own : ∀ i (h1 : i < rs.length) (h2 : i < l.length), (rs[i].id = l[i].id ∧ rs[i].dist = l[i].dist) ∧ w.ownsRow B E 1 rs[i].vec l[i].vec.length (l[i].vec.map (Value.int .i32))
  apart : rs.Pairwise fun p q => p.vec.ownBlock = none ∨ p.vec.ownBlock ≠ q.vec.ownBlock

theorem Held3.nil (w : World) (B E : Nat) : Held3 w B E [] [] := ⟨rfl, fun i h _ => absurd h (by simp), List.Pairwise.nil⟩

theorem Held3.below {w w' : World} {B E : Nat} {rs : List Hv} {l : List Hz} (h : Held3 w B E rs l) (hb : Below w.heap.size w w') : Held3 w' B E rs l :=
  ⟨h.len, fun i h1 h2 => ⟨(h.own i h1 h2).1, own_below (h.own i h1 h2).2 hb⟩, h.apart⟩

theorem Held3.other {w w' : World} {B E B' e size n : Nat} {v : Value} {xs : List Value} {rs : List Hv} {l : List Hz} (h : Held3 w B E rs l) (ho : w.ownsRow B' e size v n xs) (hne : E ≠ e) (hg : w.grownBy w' v.ownBlock) : Held3 w' B E rs l :=
  ⟨h.len, fun i h1 h2 => ⟨(h.own i h1 h2).1, (h.own i h1 h2).2.kept hg (own_apart (h.own i h1 h2).2 ho hne)⟩, h.apart⟩

theorem Held3.lt {w : World} {B E : Nat} {rs : List Hv} {l : List Hz} (h : Held3 w B E rs l) {r : Hv} (hr : r ∈ rs) : ∀ b, r.vec.ownBlock = some b → B ≤ b ∧ b < w.heap.size := by
  obtain ⟨i, hi, rfl⟩ := List.mem_iff_getElem.1 hr
  exact (h.own i hi (by rw [← h.len]; exact hi)).2.lt

theorem Held3.snoc {w : World} {B E : Nat} {rs : List Hv} {l : List Hz} (h : Held3 w B E rs l) {z : Hz} {u : Value} (hn : w.ownsRow B E 1 u z.vec.length (z.vec.map (Value.int .i32)))
    (hap : ∀ r ∈ rs, r.vec.ownBlock = none ∨ r.vec.ownBlock ≠ u.ownBlock) : Held3 w B E (rs ++ [⟨z.id, z.dist, u⟩]) (l ++ [z]) := by
  refine ⟨by simp [h.len], fun i h1 h2 => ?_, ?_⟩
  · simp only [List.length_append, List.length_cons, List.length_nil] at h1 h2
    rcases Nat.lt_or_ge i rs.length with hi | hi
    · rw [List.getElem_append_left hi, List.getElem_append_left (by rw [← h.len]; exact hi)]
      exact h.own i hi _
    · have e1 : i = rs.length := by omega
      subst e1
      rw [List.getElem_append_right (by omega)]
      have e2 : l.length ≤ rs.length := by rw [h.len]; exact Nat.le_refl _
      rw [List.getElem_append_right e2]
      simp [h.len, hn]
  · refine List.pairwise_append.2 ⟨h.apart, List.pairwise_singleton _ _, fun p hp q hq => ?_⟩
    rw [List.mem_singleton.1 hq]
    exact hap p hp

theorem Held3.rows {w : World} {B E : Nat} {rs : List Hv} {l : List Hz} (h : Held3 w B E rs l) : Rows3 w (fun k => B ≤ k ∧ k < w.heap.size) rs l :=
  ⟨h.len, fun i h1 h2 => by
    obtain ⟨⟨a, b⟩, c⟩ := h.own i h1 h2
    exact ⟨a, b, Nums.of_own c, fun _ k hk => c.lt k hk⟩⟩

/-- a new row of hits of the call's own -/
def NewHits (w : World) (e : Nat) (l : List Hz) (r : Ending) (w' : World) : Prop :=
  ∃ v rs, r = .returned v ∧ w'.ownsRow w.heap.size e 3 v rs.length (flat3 rs) ∧ Held3 w' w.heap.size 21 rs l ∧ Below w.heap.size w w'

theorem hits_step {l : List Hz} {z : Hz} {rs : List Hv} {w wr w4 w5 : World} {v v5 : Value} {u4 : Value} {e E B4 : Nat} {o : Obj} (hown : wr.ownsRow w.heap.size e 3 v rs.length (flat3 rs)) (hheld : Held3 wr w.heap.size E rs l) (hb : Below w.heap.size w wr)
    (hu : w4.ownsRow B4 E 1 u4 z.vec.length (z.vec.map (Value.int .i32))) (hB4 : wr.heap.size ≤ B4) (hne : E ≠ e) (hb4 : Below wr.heap.size wr w4)
    (hown5 : w5.ownsRow w.heap.size e 3 v5 (rs.length + 1) (flat3 rs ++ (#[.int .u64 z.id, .int .u64 z.dist, u4] : Array Value).toList)) (hg5 : (w4.alloc o).grownBy w5 v.ownBlock) :
    w5.ownsRow w.heap.size e 3 v5 (rs ++ [(⟨z.id, z.dist, u4⟩ : Hv)]).length (flat3 (rs ++ [(⟨z.id, z.dist, u4⟩ : Hv)])) ∧ Held3 w5 w.heap.size E (rs ++ [⟨z.id, z.dist, u4⟩]) (l ++ [z]) ∧ Below w.heap.size w w5 := by
  have hown4 := (own_below hown hb4).alloc o
  have hheld4 := (hheld.below hb4).below ((Below.refl _ _).alloc (Nat.le_refl _) o)
  have hsz := hb.size
  have hsz4 := hb4.size
  refine ⟨by rw [flat3_snoc]; simpa using hown5, ?_, ((hb.trans (hb4.mono hsz)).alloc (by omega) o).grown hg5 (by simp; omega) (fun b hbk => (hown.lt b hbk).1)⟩
  refine (hheld4.other hown4 hne hg5).snoc ?_ fun r hr => ?_
  · have := (hu.alloc o).kept hg5 (own_apart (hu.alloc o) hown4 hne)
    exact own_mono this (by omega)
  · cases hrb : r.vec.ownBlock with
    | none => exact .inl rfl
    | some b =>
      right
      intro he
      have h1 := hheld.lt hr b hrb
      have h2 := hu.lt b he.symm
      omega

theorem take_snoc {α : Type} (l : List α) (k : Nat) (h : k < l.length) : l.take (k + 1) = l.take k ++ [l[k]] := by rw [List.take_succ_eq_append_getElem h]

theorem hits_nil (w : World) : Calls Try.prog 13 #[.pointer none] w (NewHits w 35 []) := by
  go_enter Try.func13, Try.ntmps13
  go_wp2_with fail
  go_ret
  exact ⟨_, [], rfl, World.ownsRow_nil _ _ _ _, Held3.nil _ _ _, Below.refl _ _⟩

set_option maxHeartbeats 4000000 in
theorem hits (B c : Nat) (most : Int) (v : Value) (rs0 : List Hv) (G : Nat → Prop) (l : List Hz) (hn : l.length ≤ 1000000) (hx : ∀ r ∈ l, r.vec.length ≤ 1000000) (w : World) (h : ListOwn w B c most v rs0 G l) :
    Calls Try.prog 13 #[.pointer (some ⟨c, 0, none⟩)] w (NewHits w 35 l) := by
  have A := Lib.hid h
  obtain ⟨p, cap, rfl, hcap, hbig, -, -⟩ := h.hits
  obtain ⟨-, k1, -⟩ := h.cells
  have X := Lib.hid hx
  clear hx h hcap hbig
  go_enter Try.func13, Try.ntmps13
  go_wp2_with fail
  go_loopg [3, 13] l.length (fun q out i wr => ∃ (k : Nat) (rs : List Hv), q = l.length - k ∧ k ≤ l.length ∧ i = .int .i64 k ∧ rs.length = k ∧ wr.ownsRow w.heap.size 35 3 out rs.length (flat3 rs) ∧ Held3 wr w.heap.size 21 rs (l.take k) ∧ Below w.heap.size w wr)
  case atStart => exact ⟨0, [], rfl, by omega, rfl, rfl, World.ownsRow_nil _ _ _ _, Held3.nil _ _ _, Below.refl _ _⟩
  case round =>
    obtain ⟨k, rs, rfl, hk, rfl, hlen, hown, hheld, hb⟩ := hrel
    by_cases hlt : k < l.length
    · obtain ⟨rs', -, -, hel⟩ := (A.out.below hb).hits.rows
      obtain ⟨b, off, up, ucap, -, rfl, -, -, c0, c1, c2, hu, -⟩ := hel k hlt
      have O := Lib.hid (And.intro hown (And.intro hheld (And.intro hb hlen)))
      have U := Lib.hid hu
      have hsz := hb.size
      clear hown hheld hb hu hlen hel
      go_wp2_with fail
      have hbW := (Below.refl wr.heap.size wr).alloc (Nat.le_refl _) (Obj.cells #[Value.int IntKind.u64 l[k].id, Value.int IntKind.u64 l[k].dist, Value.slice up l[k].vec.length ucap] 35)
      refine (copyOf l[k] _ _ (U.out.below hbW) (X.out _ (List.getElem_mem hlt))).mono ?_
      rintro e w4 ⟨u4, rfl, hu4, hb4⟩
      obtain ⟨q4, n4, c4, rfl⟩ := own_form hu4
      have hb04 := hbW.trans (hb4.mono (by simp))
      obtain ⟨g5, c5, w5, hrun, hown5, hg5, hat5, -⟩ := run_push rowHit (own_below O.out.1 hb04) (by have := hb04.size; omega) #[.int .u64 l[k].id, .int .u64 l[k].dist, .slice q4 n4 c4] rfl (by simp [Value.oneCell']) (by have := O.out.2.2.2; simp [maxLen]; omega) (by have := O.out.2.2.2; omega)
      have F := Lib.hid (hits_step O.out.1 O.out.2.1 O.out.2.2.1 hu4 (by simp) (by decide) hb04 hown5 hg5)
      clear hbW hb04 hown5 hg5 hat5 hu4 hb4
      go_wp2_with (refine wpList_append_eq hrun rfl _ _ rfl rfl rfl ?_)
      go_roundg (l.length - (k + 1))
      case measure => omega
      case rel => exact ⟨k + 1, rs ++ [⟨l[k].id, l[k].dist, .slice q4 n4 c4⟩], rfl, by omega, by go_num, by have := O.out.2.2.2; rw [List.length_append, this]; rfl, F.out.1, by rw [take_snoc l k hlt]; exact F.out.2.1, F.out.2.2⟩
    · obtain rfl : k = l.length := by omega
      go_wp2_with fail
      go_ret
      exact ⟨_, rs, rfl, hown, by rw [List.take_length] at hheld; exact hheld, hb⟩

end Go.Proofs.Ytfjhipaoljnfaaa
