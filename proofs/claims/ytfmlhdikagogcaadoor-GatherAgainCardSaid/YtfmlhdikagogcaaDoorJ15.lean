/-
  gather: how it lies; its small calls.
-/
import Derived.Test.YtfmlhdikagogcaaDoorJ14
namespace Go.Proofs.YtfmlhdikagogcaaDoor
open Go.RowKit
set_option maxRecDepth 20000

/-- a gather -/
structure Gz where
  shards : Int
  dim : Int
  last : Int
  l : List Qs

/-- where a question lies -/
structure Qp where
  b : Nat
  mb : Nat
  vp : Value
  vo : Value
  vv : Value
  vh : Value
  pv : Value

def Qp.ptr (q : Qp) : Value := .pointer (some ⟨q.b, 0, none⟩)

/-- a gather's parts: its questions' places, the row of them -/
structure GIn (w : World) (B c : Nat) (F R : Nat → Prop) (g : Gz) (lv : Value) (Q : List Qp) : Prop where
  obj : w.heap[c]? = some (.cells #[.int .i64 g.shards, .int .i64 g.dim, .int .u64 g.last, lv] 80 (0, 0))
  row : w.ownsRow B 82 1 lv g.l.length (Q.map Qp.ptr)
  len : Q.length = g.l.length
  each : ∀ i (h : i < Q.length) (h' : i < g.l.length), QAt w R Q[i].b Q[i].mb g.l[i] Q[i].vp Q[i].vo Q[i].vv Q[i].vh Q[i].pv
  bs : (Q.map Qp.b).Nodup
  mbs : (Q.map Qp.mb).Nodup
  lvF : ∀ k, lv.ownBlock = some k → F k ∧ k ≠ c
  mbF : ∀ q ∈ Q, F q.mb ∧ q.mb ≠ c ∧ lv.ownBlock ≠ some q.mb
  here : F c
  low : ∀ k, F k → B ≤ k ∧ k < w.heap.size
  apart : ∀ k, R k → k < w.heap.size ∧ ¬ F k

def GAt (w : World) (B c : Nat) (F R : Nat → Prop) (g : Gz) : Prop := ∃ lv Q, GIn w B c F R g lv Q

theorem QAt.agree {w w' : World} {R : Nat → Prop} {b mb : Nat} {q : Qs} {vp vo vv vh pv : Value} (h : QAt w R b mb q vp vo vv vh pv) (ha : Agree R w w') (hm : w'.heap[mb]? = w.heap[mb]?) : QAt w' R b mb q vp vo vv vh pv := by
  obtain ⟨L, h1, h2⟩ := h.told
  exact ⟨fun j u hj => by rw [ha.cell h.own]; exact h.cells j u hj, by obtain ⟨ca, ta, ho⟩ := h.obj; exact ⟨ca, ta, (ha b h.own).trans ho⟩, h.own, h.note.agree ha, h.parts.agree h.lies ha, h.lies, h.empty, L, h1.kept hm, h2.agree ha⟩

theorem QAt.mono {w : World} {R R' : Nat → Prop} {b mb : Nat} {q : Qs} {vp vo vv vh pv : Value} (h : QAt w R b mb q vp vo vv vh pv) (hs : ∀ k, R k → R' k) : QAt w R' b mb q vp vo vv vh pv := by
  obtain ⟨L, h1, h2⟩ := h.told
  exact ⟨h.cells, h.obj, hs _ h.own, h.note.mono hs, h.parts, h.lies.mono hs, h.empty, L, h1, h2.mono hs⟩

theorem GIn.below {w w' : World} {B c : Nat} {F R : Nat → Prop} {g : Gz} {lv : Value} {Q : List Qp} (h : GIn w B c F R g lv Q) (hb : Below w.heap.size w w') : GIn w' B c F R g lv Q :=
  ⟨(hb.block c (h.low c h.here).2).trans h.obj, own_below h.row hb, h.len, fun i h1 h2 => (h.each i h1 h2).below hb, h.bs, h.mbs, h.lvF, h.mbF, h.here, fun k hk => ⟨(h.low k hk).1, Nat.lt_of_lt_of_le (h.low k hk).2 hb.size⟩, fun k hk => ⟨Nat.lt_of_lt_of_le (h.apart k hk).1 hb.size, (h.apart k hk).2⟩⟩

theorem GAt.below {w w' : World} {B c : Nat} {F R : Nat → Prop} {g : Gz} (h : GAt w B c F R g) (hb : Below w.heap.size w w') : GAt w' B c F R g := by
  obtain ⟨lv, Q, h⟩ := h
  exact ⟨lv, Q, h.below hb⟩

theorem GIn.get {w : World} {B c : Nat} {F R : Nat → Prop} {g : Gz} {lv : Value} {Q : List Qp} (h : GIn w B c F R g lv Q) :
    w.cell? ⟨c, 0, none⟩ = some (.int .i64 g.shards) ∧ w.cell? ⟨c, 1, none⟩ = some (.int .i64 g.dim) ∧ w.cell? ⟨c, 2, none⟩ = some (.int .u64 g.last) ∧ w.cell? ⟨c, 3, none⟩ = some lv ∧ (∀ j, w.frozen? ⟨c, j, none⟩ = false) := by
  refine ⟨by simp [World.cell?, h.obj], by simp [World.cell?, h.obj], by simp [World.cell?, h.obj], by simp [World.cell?, h.obj], fun j => by simp [World.frozen?, h.obj]⟩

/-- the row's elements -/
theorem row_elem {w : World} {B e n : Nat} {p : Option Addr} {m cap : Nat} {xs : List Value} (h : w.ownsRow B e 1 (.slice p m cap) n xs) {i : Nat} (hi : i < xs.length) :
    ∃ b, p = some ⟨b, 0, none⟩ ∧ m = n ∧ w.cell? ⟨b, i, none⟩ = some xs[i] := by
  obtain ⟨h1, ⟨h2, h3⟩ | ⟨g, cp, cur, hv, hb, hg, hn, hc, hs, ht⟩⟩ := h
  · omega
  · obtain ⟨rfl, rfl, rfl⟩ := Value.slice.inj hv
    refine ⟨g, rfl, rfl, ?_⟩
    have : (cur.toList.take (m * 1))[i]? = some xs[i] := by rw [ht]; exact List.getElem?_eq_getElem hi
    rw [List.getElem?_take] at this
    split at this
    · simp only [World.cell?, hg]; simpa using this
    · cases this

theorem newG (shards dim base : Int) (w : World) (h : 1 ≤ shards ∧ shards ≤ 4 ∧ 1 ≤ dim ∧ dim ≤ 8) :
    Calls Tryd.prog 10 #[.int .i64 shards, .int .i64 dim, .int .u64 base] w fun e w' => ∃ c, e = .returned (.tuple #[.pointer (some ⟨c, 0, none⟩), .int .i64 0]) ∧ GAt w' w.heap.size c (fun k => k = c) (fun _ => False) ⟨shards, dim, base, []⟩ ∧ w.heap.size ≤ c ∧ Below w.heap.size w w' := by
  obtain ⟨h1, h2, h3, h4⟩ := h
  go_enter Tryd.func10, Tryd.ntmps10
  go_wp2_with fail
  go_ret2
  refine ⟨_, rfl, ⟨.slice none 0 0, [], ?_⟩, Nat.le_refl _, (Below.refl _ _).alloc (Nat.le_refl _) _⟩
  exact ⟨heap_alloc_new _ _, World.ownsRow_nil _ _ _ _, rfl, fun i h => absurd h (by simp), by simp, by simp, fun k h => by simp [Value.ownBlock] at h, fun q h => absurd h (by simp), rfl, fun k (h : k = _) => by rw [h]; simp, fun _ h => h.elim⟩

theorem newG_none (shards dim base : Int) (w : World) (h : ¬ (1 ≤ shards ∧ shards ≤ 4 ∧ 1 ≤ dim ∧ dim ≤ 8)) :
    Calls Tryd.prog 10 #[.int .i64 shards, .int .i64 dim, .int .u64 base] w fun e w' => e = .returned (.tuple #[.pointer none, .int .i64 1]) ∧ w' = w := by
  by_cases h1 : shards < 1
  · go_enter Tryd.func10, Tryd.ntmps10
    go_wp2_with fail
    go_ret2
    exact ⟨rfl, rfl⟩
  · by_cases h2 : 4 < shards
    · go_enter Tryd.func10, Tryd.ntmps10
      go_wp2_with fail
      go_ret2
      exact ⟨rfl, rfl⟩
    · by_cases h3 : dim < 1
      · go_enter Tryd.func10, Tryd.ntmps10
        go_wp2_with fail
        go_ret2
        exact ⟨rfl, rfl⟩
      · have h4 : 8 < dim := by omega
        clear h
        go_enter Tryd.func10, Tryd.ntmps10
        go_wp2_with fail
        go_ret2
        exact ⟨rfl, rfl⟩

theorem glen (B c : Nat) (F R : Nat → Prop) (g : Gz) (w : World) (h : GAt w B c F R g) :
    Calls Tryd.prog 15 #[.pointer (some ⟨c, 0, none⟩)] w fun e w' => e = .returned (.int .i64 g.l.length) ∧ w = w' := by
  obtain ⟨lv, Q, h⟩ := h
  obtain ⟨-, -, -, z3, -⟩ := h.get
  obtain ⟨p, m, cap, rfl⟩ := own_form h.row
  obtain rfl : m = g.l.length := by
    rcases h.row.2 with ⟨h2, h3⟩ | ⟨_, _, _, hv, _⟩
    · cases h2; exact h3.symm
    · cases hv; rfl
  clear h
  go_enter Tryd.func15, Tryd.ntmps15
  go_wp2_with fail
  go_ret
  exact ⟨rfl, rfl⟩

theorem glen_nil (w : World) : Calls Tryd.prog 15 #[.pointer none] w fun e w' => e = .returned (.int .i64 0) ∧ w = w' := by
  go_enter Tryd.func15, Tryd.ntmps15
  go_wp2_with fail
  go_ret
  exact ⟨rfl, rfl⟩

end Go.Proofs.YtfmlhdikagogcaaDoor
