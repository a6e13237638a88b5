/- Ground words of this family: how a slice in memory reads as a list of cells, and what a call leaves as it was. Rows that the call itself owns, several side by side; one more element at the end of one of them. Slices of pairs: a number and a vector each (api.Op, chain.Version, maze's nodes). Appends to a row of the call's own, as run equations: of a slice that is read, of an element that lies in a block of its own. What a call may turn: the blocks of a set F, and new ones. Data with the set of blocks that it is read from. Slices of hits: an ID, a distance and a vector each. A vector is cut, a new one: for seats without vec.Right. Are two vectors the same (ref): for seats without vec.Right. Small laws for walking a region that draws its order: one operation at a time, what may be taken first first, an operation whose guard is false among them. A row of the call's own is written in its midst: cells, structs. best: which of two goes ahead; a vector, a hit are copied. -/
import Derived.Test.YtpjbkaibgajpcaaGreatRows
import Derived.WalkKit
import Derived.WalkSpells
import Derived.WalkLawsBesides
import Derived.Lib.Hide
import Derived.Deep.LoopGhost
import Derived.Deep.QuietTactic
import Derived.BigQuiet
import Derived.Handy
import Derived.Deep.AppendLies
import Derived.Laws.OwnMore
import Derived.Maps.AppendAt
import Derived.Laws.AppendOwnNone
import Derived.Deep.RegionHeld3
import Derived.Deep.MidRow
import Derived.Deep.Upon
namespace Go.Proofs.YtpjbkaibgajpcaaGreat
open Go.RowKit
set_option maxRecDepth 20000

theorem uA1 {α : Type} (l : List α) (i : Nat) (a : α) : l.toArray.setIfInBounds i a = (l.set i a).toArray := List.setIfInBounds_toArray ..
theorem uB1 {α : Type} (x : α) (xs : List α) (a : α) : (x :: xs).set 0 a = a :: xs := List.set_cons_zero ..
theorem uC1 {α : Type} (x : α) (xs : List α) (n : Nat) (a : α) : (x :: xs).set (n + 1) a = x :: xs.set n a := List.set_cons_succ ..

def Reads (w : World) (v : Value) (size n : Nat) (xs : List Value) : Prop :=
  xs.length = n * size ∧ ∃ p cap, v = .slice p n cap ∧ n ≤ cap ∧ cap ≤ 9223372036854775807 ∧ (p = none → cap = 0) ∧
    ∀ j u, xs[j]? = some u → ∃ b off, p = some ⟨b, off, none⟩ ∧ w.cell? ⟨b, off + j, none⟩ = some u

def Nums (w : World) (k : IntKind) (v : Value) (xs : List Int) : Prop := Reads w v 1 xs.length (xs.map (Value.int k))

theorem Nums.slice {w : World} {k : IntKind} {v : Value} {xs : List Int} (h : Nums w k v xs) : ∃ p cap, v = .slice p xs.length cap ∧ xs.length ≤ cap ∧ cap ≤ 9223372036854775807 ∧ (p = none → cap = 0) ∧
    ∀ i (hi : i < xs.length), ∃ b off, p = some ⟨b, off, none⟩ ∧ w.cell? ⟨b, off + i, none⟩ = some (.int k xs[i]) := by
  obtain ⟨_, p, cap, hv, h1, h2, h3, h4⟩ := h
  exact ⟨p, cap, hv, h1, h2, h3, fun i hi => h4 i _ (by simp [List.getElem?_eq_getElem hi])⟩

theorem Nums.mk {w : World} {k : IntKind} {p : Option Addr} {cap : Nat} {xs : List Int} (h1 : xs.length ≤ cap) (h2 : cap ≤ 9223372036854775807) (h3 : p = none → cap = 0)
    (h4 : ∀ i (hi : i < xs.length), ∃ b off, p = some ⟨b, off, none⟩ ∧ w.cell? ⟨b, off + i, none⟩ = some (.int k xs[i])) : Nums w k (.slice p xs.length cap) xs := by
  refine ⟨by simp, p, cap, rfl, h1, h2, h3, fun j u hj => ?_⟩
  rw [List.getElem?_map, Option.map_eq_some_iff] at hj
  obtain ⟨x, hx, rfl⟩ := hj
  obtain ⟨hj', rfl⟩ := List.getElem?_eq_some_iff.1 hx
  exact h4 j hj'

theorem lt_of_cell {w : World} {a : Addr} {v : Value} (h : w.cell? a = some v) : a.block < w.heap.size := by
  refine Nat.lt_of_not_le fun hge => ?_
  simp [World.cell?, Array.getElem?_eq_none hge] at h

theorem Reads.below {w w' : World} {v : Value} {size n : Nat} {xs : List Value} (h : Reads w v size n xs) (hb : Below w.heap.size w w') : Reads w' v size n xs := by
  obtain ⟨h0, p, cap, hv, h1, h2, h3, h4⟩ := h
  refine ⟨h0, p, cap, hv, h1, h2, h3, fun j u hj => ?_⟩
  obtain ⟨b, off, hp, hc⟩ := h4 j u hj
  exact ⟨b, off, hp, by rw [hb.cell (lt_of_cell hc)]; exact hc⟩

theorem Nums.below {w w' : World} {k : IntKind} {v : Value} {xs : List Int} (h : Nums w k v xs) (hb : Below w.heap.size w w') : Nums w' k v xs := Reads.below h hb

theorem Nums.elem {w : World} {k : IntKind} {p : Option Addr} {n cap : Nat} {xs : List Int} (h : Nums w k (.slice p n cap) xs) {j : Nat} (hj : j < xs.length) :
    ∃ b off, p = some ⟨b, off, none⟩ ∧ w.cell? ⟨b, off + j, none⟩ = some (.int k xs[j]) := by
  obtain ⟨p', cap', hv, _, _, _, h⟩ := h.slice
  simp only [Value.slice.injEq] at hv
  obtain ⟨rfl, _, _⟩ := hv
  exact h j hj

theorem below_cells {w w' : World} (hb : Below w.heap.size w w') {a : Addr} {v : Value} (h : w.cell? a = some v) : w'.cell? a = some v := by
  rw [hb.cell (lt_of_cell h)]; exact h

def Drawn (w w' : World) : Prop := ∃ n, w' = w.drewN n
theorem Drawn.refl (w : World) : Drawn w w := ⟨0, rfl⟩
theorem Drawn.drewN {w w' : World} (h : Drawn w w') (m : Nat) : Drawn w (w'.drewN m) := by
  obtain ⟨n, rfl⟩ := h; exact ⟨n + m, by simp⟩
theorem Drawn.below {w w' : World} (h : Drawn w w') : Below w.heap.size w w' := by
  obtain ⟨n, rfl⟩ := h; exact below_drewN (Below.refl _ _) n

theorem sw {P : Program} {f : FuncId} {args : Array Value} {w : World} {v : Value} (h : Calls P f args w fun e w' => e = .returned v ∧ w = w') :
    Calls P f args w fun e w' => e = .returned v ∧ w' = w := h.mono fun _ _ ⟨a, b⟩ => ⟨a, b.symm⟩

theorem ret_eq {a b : Value} (h : a = b) : Ending.returned a = .returned b := by rw [h]
theorem ret_int {k : IntKind} {a b : Int} (h : a = b) : Ending.returned (.int k a) = .returned (.int k b) := by rw [h]
theorem ret_bool {a b : Bool} (h : a = b) : Ending.returned (.bool a) = .returned (.bool b) := by rw [h]
theorem ret_ii {k k' : IntKind} {a b c d : Int} (h : a = c) (h' : b = d) : Ending.returned (.tuple #[.int k a, .int k' b]) = .returned (.tuple #[.int k c, .int k' d]) := by rw [h, h']
theorem ret_two {a b c d : Value} (h : a = c) (h' : b = d) : Ending.returned (.tuple #[a, b]) = .returned (.tuple #[c, d]) := by rw [h, h']

end Go.Proofs.YtpjbkaibgajpcaaGreat

namespace Go.Proofs.YtpjbkaibgajpcaaGreat
open Go.RowKit
set_option maxRecDepth 20000

section
variable {P : Program}

structure RowTy (P : Program) (t e size bytes : Nat) (z : Value) : Prop where
  ty : P.underlying t = some (.slice e)
  info : (P.info? e).map (fun i => (i.zero, i.size, i.bytes)) = some (some z, size, bytes)
  zs : z.cells.size = size
  pos : 0 < size

theorem run_push {t e size bytes : Nat} {z : Value} (R : RowTy P t e size bytes z) {w : World} {base : Nat} {v : Value} {n : Nat} {xs : List Value} (hown : w.ownsRow base e size v n xs) (hbase : base ≤ w.heap.size)
    (cs : Array Value) (hcs : cs.size = size) (h1 : ∀ u ∈ cs.toList, u.oneCell' = true) (h63 : n + 1 ≤ maxLen) (hbytes : (n + 1) * bytes ≤ 140737488355328) :
    ∃ g cap w', (∀ ty, (Builtin.append_ #[t, t] ty #[v, .slice (some ⟨w.heap.size, 0, none⟩) 1 1]).run P (w.alloc (.cells cs e)) = .ok (.slice (some ⟨g, 0, none⟩) (n + 1) cap) w') ∧
      w'.ownsRow base e size (.slice (some ⟨g, 0, none⟩) (n + 1) cap) (n + 1) (xs ++ cs.toList) ∧ (w.alloc (.cells cs e)).grownBy w' v.ownBlock ∧ (v.ownBlock = some g ∨ g = w.heap.size + 1) ∧ g < w'.heap.size := by
  obtain ⟨i, hi, hz, hs, hb⟩ := info_parts R.info
  obtain ⟨g, cap, w', hr, h2, h3, h4, h5⟩ := run_append_lies (P := P) (w.alloc (.cells cs e)) t 0 base e i z size bytes R.ty hi hz hs hb R.zs R.pos v n xs (hown.alloc _) ⟨w.heap.size, 0, none⟩ 1 1 cs.toList (by simp [hcs])
    (World.news_of_block (cs := cs) (t := e) (fr := (0, 0)) (heap_alloc_new w _)) h1 (by omega) h63 hbytes (by simp; omega) (w.heap.size + 1) (by simp)
  exact ⟨g, cap, w', fun ty => hr, h2, h3, h4, h5⟩

theorem wpList_append_eq {w : World} {ops : Array Oper} {rest : List Oper} {o : Oper} {a : Act} {Q : Exit → Act → World → Prop} {t : TypeId} {vs vx v' : Value} {w' : World}
    (hrun : ∀ ty, (Builtin.append_ #[t, t] ty #[vs, vx]).run P w = .ok v' w') (hg : o.guard = none) (s x : Operand)
    (hop : o.op = Op.call { callee := Callee.builtin Builtin.append, args := #[s, x], argTypes := #[t, t] }) (hs : a.eval s = vs) (hx : a.eval x = vx)
    (h : wpList P ops Q rest (a.put o.dst v') w') : wpList P ops Q (o :: rest) a w := by
  refine wpList_plain hg fun K hK => ?_
  have hr := hrun o.type
  unfold Oper.wp execOp
  simp only [hop, resolve, invoke, builtin, Sem.run_bind, Sem.run_pure, Result.andThen_ok, List.map_toArray, List.map_cons, List.map_nil, hs, hx, hr]
  exact hK _ _ h

theorem wp_append_eq {w : World} {o : Oper} {a : Act} {K : Act → World → Prop} {Q : Exit → Act → World → Prop} {t : TypeId} {vs vx v' : Value} {w' : World}
    (hrun : ∀ ty, (Builtin.append_ #[t, t] ty #[vs, vx]).run P w = .ok v' w') (s x : Operand)
    (hop : o.op = Op.call { callee := Callee.builtin Builtin.append, args := #[s, x], argTypes := #[t, t] }) (hs : a.eval s = vs) (hx : a.eval x = vx)
    (h : K (a.put o.dst v') w') : o.wp P a w K Q := by
  have hr := hrun o.type
  unfold Oper.wp execOp
  simp only [hop, resolve, invoke, builtin, Sem.run_bind, Sem.run_pure, Result.andThen_ok, List.map_toArray, List.map_cons, List.map_nil, hs, hx, hr]
  exact h

theorem own_form {w : World} {base e size n : Nat} {v : Value} {xs : List Value} (h : w.ownsRow base e size v n xs) : ∃ q m c, v = .slice q m c := by
  rcases h.2 with ⟨rfl, _⟩ | ⟨g, cap, cur, hv, _⟩
  · exact ⟨_, _, _, rfl⟩
  · exact ⟨_, _, _, hv⟩

theorem own_mono {w : World} {base base' e size n : Nat} {v : Value} {xs : List Value} (h : w.ownsRow base e size v n xs) (hb : base' ≤ base) : w.ownsRow base' e size v n xs := by
  refine ⟨h.1, ?_⟩
  rcases h.2 with h2 | ⟨g, cap, cur, hv, hg, r⟩
  · exact .inl h2
  · exact .inr ⟨g, cap, cur, hv, Nat.le_trans hb hg, r⟩

theorem own_below {w w' : World} {base e size n : Nat} {v : Value} {xs : List Value} (h : w.ownsRow base e size v n xs) (hb : Below w.heap.size w w') : w'.ownsRow base e size v n xs :=
  h.kept (row := none) ⟨hb.os, hb.tape, hb.output, hb.size, fun k hk _ => hb.block k hk⟩ (by
    cases hv : v.ownBlock with
    | none => exact .inl rfl
    | some b => exact .inr (by simp))

structure OwnList (w : World) (B e size : Nat) (l : List (Value × Nat × List Value)) : Prop where
  own : ∀ p ∈ l, w.ownsRow B e size p.1 p.2.1 p.2.2
  apart : l.Pairwise fun p q => p.1.ownBlock = none ∨ p.1.ownBlock ≠ q.1.ownBlock

theorem OwnList.kept {w w' : World} {B e size : Nat} {l : List (Value × Nat × List Value)} (h : OwnList w B e size l) (hg : w.grownBy w' none) : OwnList w' B e size l :=
  ⟨fun p hp => (h.own p hp).kept hg (by
    cases hb : p.1.ownBlock with
    | none => exact .inl rfl
    | some b => exact .inr (by simp)), h.apart⟩

theorem OwnList.get {w : World} {B e size : Nat} {l : List (Value × Nat × List Value)} (h : OwnList w B e size l) (i : Nat) {p : Value × Nat × List Value} (hp : l[i]? = some p) : w.ownsRow B e size p.1 p.2.1 p.2.2 :=
  h.own p (List.mem_of_getElem? hp)

theorem OwnList.push {t e size bytes : Nat} {z : Value} (R : RowTy P t e size bytes z) {w : World} {B : Nat} {l : List (Value × Nat × List Value)} (h : OwnList w B e size l) (hB : B ≤ w.heap.size) (i : Nat) {v : Value} {n : Nat} {xs : List Value}
    (hi : l[i]? = some (v, n, xs)) (cs : Array Value) (hcs : cs.size = size) (h1 : ∀ u ∈ cs.toList, u.oneCell' = true) (h63 : n + 1 ≤ maxLen) (hbytes : (n + 1) * bytes ≤ 140737488355328) :
    ∃ g cap w', (∀ ty, (Builtin.append_ #[t, t] ty #[v, .slice (some ⟨w.heap.size, 0, none⟩) 1 1]).run P (w.alloc (.cells cs e)) = .ok (.slice (some ⟨g, 0, none⟩) (n + 1) cap) w') ∧
      OwnList w' B e size (l.set i (.slice (some ⟨g, 0, none⟩) (n + 1) cap, n + 1, xs ++ cs.toList)) ∧ Below B w w' ∧ w.heap.size + 1 ≤ w'.heap.size := by
  have hown := h.get i hi
  obtain ⟨g, cap, w', hr, h2, h3, h4, h5⟩ := run_push R hown hB cs hcs h1 h63 hbytes
  have hlt : ∀ p ∈ l, ∀ b, p.1.ownBlock = some b → B ≤ b ∧ b < w.heap.size := fun p hp b hb => (h.own p hp).lt b hb
  obtain ⟨hil, hie⟩ := List.getElem?_eq_some_iff.1 hi
  have hne : ∀ j (hj : j < l.length), j ≠ i → l[j].1.ownBlock = none ∨ (l[j].1.ownBlock ≠ v.ownBlock ∧ l[j].1.ownBlock ≠ some g) := by
    intro j hj hji
    have hp := List.pairwise_iff_getElem.1 h.apart
    cases hb : l[j].1.ownBlock with
    | none => exact .inl rfl
    | some b =>
      right
      have hbl := hlt l[j] (List.getElem_mem hj) b hb
      have hnv : some b ≠ v.ownBlock := by
        rcases Nat.lt_or_ge j i with hlt' | hge
        · have := hp j i hj hil hlt'
          rw [hie, hb] at this
          simpa using this
        · have := hp i j hil hj (by omega)
          rw [hie, hb] at this
          rcases this with h0 | h0
          · simp only at h0; rw [h0]; simp
          · exact fun e => h0 e.symm
      refine ⟨hnv, fun e => ?_⟩
      simp only [Option.some.injEq] at e
      subst e
      rcases h4 with h4 | h4
      · exact hnv h4.symm
      · omega
  refine ⟨g, cap, w', hr, ⟨fun p hp => ?_, ?_⟩, ?_, by have := h3.size; simp at this; omega⟩
  · obtain ⟨j, hj, rfl⟩ := List.mem_iff_getElem.1 hp
    simp only [List.length_set] at hj
    rw [List.getElem_set]
    split
    · exact h2
    · rename_i hij
      have := hne j hj (fun e => hij e.symm)
      refine ((h.own l[j] (List.getElem_mem hj)).alloc _).kept h3 ?_
      rcases this with h0 | ⟨h0, _⟩
      · exact .inl h0
      · exact .inr h0
  · rw [List.pairwise_iff_getElem]
    intro a b ha hb hab
    simp only [List.length_set] at ha hb
    rw [List.getElem_set, List.getElem_set]
    have hp := List.pairwise_iff_getElem.1 h.apart a b ha hb hab
    split
    · rename_i hia
      subst hia
      rw [if_neg (by omega)]
      right
      have := hne b hb (by omega)
      show some g ≠ l[b].1.ownBlock
      rcases this with h0 | ⟨_, h0⟩
      · rw [h0]; simp
      · exact fun e => h0 e.symm
    · rename_i hia
      split
      · rename_i hib
        subst hib
        have := hne a ha (fun e => hia e.symm)
        rcases this with h0 | ⟨_, h0⟩
        · exact .inl h0
        · exact .inr h0
      · exact hp
  · exact ((Below.refl B w).alloc hB _).grown h3 (by simp; omega) (by intro b hb; exact (hown.lt b hb).1)

end

end Go.Proofs.YtpjbkaibgajpcaaGreat

namespace Go.Proofs.YtpjbkaibgajpcaaGreat
open Go.RowKit
set_option maxRecDepth 20000

theorem Nums.of_own {w : World} {base e : Nat} {k : IntKind} {v : Value} {n : Nat} {xs : List Int} (h : w.ownsRow base e 1 v n (xs.map (Value.int k))) : Nums w k v xs := by
  obtain ⟨h1, h2⟩ := h
  have hn : n = xs.length := by simpa using h1.symm
  subst hn
  rcases h2 with ⟨h2, h3⟩ | ⟨g, cap, cur, hv, hb, hg, hn, hc, hs, ht⟩
  · obtain rfl : xs = [] := List.eq_nil_of_length_eq_zero h3
    exact ⟨by simp, none, 0, h2, by simp, by simp, by simp, fun j u hj => by simp at hj⟩
  · refine ⟨by simp, _, cap, hv, hn, by simpa [maxLen] using hc, by simp, fun j u hj => ⟨g, 0, rfl, ?_⟩⟩
    rw [← ht, List.getElem?_take] at hj
    split at hj
    · simp [World.cell?, hg]; simpa using hj
    · cases hj

theorem lt_block {w : World} {b : Nat} {o : Obj} (h : w.heap[b]? = some o) : b < w.heap.size := (Array.getElem?_eq_some_iff.1 h).1

def Recs (w : World) (v : Value) (l : List (Int × List Int)) : Prop :=
  ∃ p cap, v = .slice p l.length cap ∧ l.length ≤ cap ∧ cap ≤ 9223372036854775807 ∧ (p = none → cap = 0) ∧
    ∀ i (hi : i < l.length), ∃ b off u, p = some ⟨b, off, none⟩ ∧ w.cell? ⟨b, off + i * 2, none⟩ = some (.int .u64 l[i].1) ∧ w.cell? ⟨b, off + i * 2 + 1, none⟩ = some u ∧ Nums w .i32 u l[i].2

theorem Recs.below {w w' : World} {v : Value} {l : List (Int × List Int)} (h : Recs w v l) (hb : Below w.heap.size w w') : Recs w' v l := by
  obtain ⟨p, cap, hv, h1, h2, h3, h4⟩ := h
  refine ⟨p, cap, hv, h1, h2, h3, fun i hi => ?_⟩
  obtain ⟨b, off, u, hp, c0, c1, hn⟩ := h4 i hi
  exact ⟨b, off, u, hp, by rw [hb.cell (lt_of_cell c0)]; exact c0, by rw [hb.cell (lt_of_cell c1)]; exact c1, hn.below hb⟩

theorem Recs.elem {w : World} {p : Option Addr} {n cap : Nat} {l : List (Int × List Int)} (h : Recs w (.slice p n cap) l) {i : Nat} (hi : i < l.length) :
    ∃ b off u, p = some ⟨b, off, none⟩ ∧ w.cell? ⟨b, off + i * 2, none⟩ = some (.int .u64 l[i].1) ∧ w.cell? ⟨b, off + i * 2 + 1, none⟩ = some u ∧ Nums w .i32 u l[i].2 := by
  obtain ⟨p', cap', hv, _, _, _, h⟩ := h
  simp only [Value.slice.injEq] at hv
  obtain ⟨rfl, _, _⟩ := hv
  exact h i hi

def flat2 : List (Int × Value) → List Value
  | [] => []
  | r :: rs => .int .u64 r.1 :: r.2 :: flat2 rs

theorem flat2_length (rs : List (Int × Value)) : (flat2 rs).length = rs.length * 2 := by
  induction rs with
  | nil => rfl
  | cons r rs ih => simp [flat2, ih]; omega

theorem flat2_get (rs : List (Int × Value)) (i : Nat) (hi : i < rs.length) : (flat2 rs)[i * 2]? = some (.int .u64 rs[i].1) ∧ (flat2 rs)[i * 2 + 1]? = some rs[i].2 := by
  induction rs generalizing i with
  | nil => simp at hi
  | cons r rs ih =>
    cases i with
    | zero => simp [flat2]
    | succ i =>
      have := ih i (by simpa using hi)
      have e1 : (i + 1) * 2 = i * 2 + 1 + 1 := by omega
      rw [e1]
      simp only [flat2, List.getElem?_cons_succ, List.getElem_cons_succ]
      exact this

theorem own_apart {w : World} {B B' e e' size size' n n' : Nat} {v u : Value} {xs ys : List Value} (h : w.ownsRow B e size v n xs) (g : w.ownsRow B' e' size' u n' ys) (hne : e ≠ e') : v.ownBlock = none ∨ v.ownBlock ≠ u.ownBlock := by
  rcases h.2 with ⟨rfl, _⟩ | ⟨b, cap, cur, rfl, _, hb, _⟩
  · exact .inl rfl
  · right
    rcases g.2 with ⟨rfl, _⟩ | ⟨b', cap', cur', rfl, _, hb', _⟩
    · simp [Value.ownBlock]
    · simp only [Value.ownBlock, ne_eq, Option.some.injEq]
      rintro rfl
      rw [hb] at hb'
      simp only [Option.some.injEq, Obj.cells.injEq] at hb'
      exact hne hb'.2.1

structure Held2 (w : World) (B E : Nat) (rs : List (Int × Value)) (l : List (Int × List Int)) : Prop where
  len : rs.length = l.length
  own : ∀ i (h1 : i < rs.length) (h2 : i < l.length), rs[i].1 = l[i].1 ∧ w.ownsRow B E 1 rs[i].2 l[i].2.length (l[i].2.map (Value.int .i32))
  apart : rs.Pairwise fun p q => p.2.ownBlock = none ∨ p.2.ownBlock ≠ q.2.ownBlock

theorem Held2.nil (w : World) (B E : Nat) : Held2 w B E [] [] := ⟨rfl, fun i h _ => absurd h (by simp), List.Pairwise.nil⟩

theorem Held2.below {w w' : World} {B E : Nat} {rs : List (Int × Value)} {l : List (Int × List Int)} (h : Held2 w B E rs l) (hb : Below w.heap.size w w') : Held2 w' B E rs l :=
  ⟨h.len, fun i h1 h2 => ⟨(h.own i h1 h2).1, own_below (h.own i h1 h2).2 hb⟩, h.apart⟩

theorem Held2.other {w w' : World} {B E B' e size n : Nat} {v : Value} {xs : List Value} {rs : List (Int × Value)} {l : List (Int × List Int)} (h : Held2 w B E rs l) (ho : w.ownsRow B' e size v n xs) (hne : E ≠ e) (hg : w.grownBy w' v.ownBlock) : Held2 w' B E rs l :=
  ⟨h.len, fun i h1 h2 => ⟨(h.own i h1 h2).1, (h.own i h1 h2).2.kept hg (own_apart (h.own i h1 h2).2 ho hne)⟩, h.apart⟩

theorem Held2.lt {w : World} {B E : Nat} {rs : List (Int × Value)} {l : List (Int × List Int)} (h : Held2 w B E rs l) {r : Int × Value} (hr : r ∈ rs) : ∀ b, r.2.ownBlock = some b → B ≤ b ∧ b < w.heap.size := by
  obtain ⟨i, hi, rfl⟩ := List.mem_iff_getElem.1 hr
  exact (h.own i hi (by rw [← h.len]; exact hi)).2.lt

theorem Held2.snoc {w : World} {B E : Nat} {rs : List (Int × Value)} {l : List (Int × List Int)} (h : Held2 w B E rs l) {x : Int} {u : Value} {xs : List Int} (hn : w.ownsRow B E 1 u xs.length (xs.map (Value.int .i32)))
    (hap : ∀ r ∈ rs, r.2.ownBlock = none ∨ r.2.ownBlock ≠ u.ownBlock) : Held2 w B E (rs ++ [(x, u)]) (l ++ [(x, xs)]) := by
  refine ⟨by simp [h.len], fun i h1 h2 => ?_, ?_⟩
  · simp only [List.length_append, List.length_cons, List.length_nil] at h1 h2
    rcases Nat.lt_or_ge i rs.length with hi | hi
    · rw [List.getElem_append_left hi, List.getElem_append_left (by rw [← h.len]; exact hi)]
      exact h.own i hi _
    · have e1 : i = rs.length := by omega
      subst e1
      rw [List.getElem_append_right (by omega)]
      have e2 : l.length ≤ rs.length := by rw [h.len]; exact Nat.le_refl _
      rw [List.getElem_append_right e2]
      simp [h.len, hn]
  · rw [List.pairwise_append]
    exact ⟨h.apart, List.pairwise_singleton _ _, fun r hr y hy => by simp only [List.mem_singleton] at hy; subst hy; exact hap r hr⟩

theorem Recs.of_own {w : World} {B e n : Nat} {v : Value} {rs : List (Int × Value)} {l : List (Int × List Int)} {B' E : Nat} (h : w.ownsRow B e 2 v n (flat2 rs)) (hh : Held2 w B' E rs l) : Recs w v l := by
  obtain ⟨h1, h2⟩ := h
  rw [flat2_length] at h1
  have hn : n = l.length := by have := hh.len; omega
  subst hn
  rcases h2 with ⟨h2, h3⟩ | ⟨g, cap, cur, hv, hb, hg, hn, hc, hs, ht⟩
  · have : l = [] := List.eq_nil_of_length_eq_zero h3
    subst this
    exact ⟨none, 0, h2, by simp, by simp, by simp, fun i hi => absurd hi (by simp)⟩
  · refine ⟨_, cap, hv, hn, by simpa [maxLen] using hc, by simp, fun i hi => ?_⟩
    have hir : i < rs.length := by rw [hh.len]; exact hi
    have hf := flat2_get rs i hir
    have ha := hh.own i hir hi
    have hcell : ∀ j u, (flat2 rs)[j]? = some u → w.cell? ⟨g, j, none⟩ = some u := by
      intro j u hj
      rw [← ht, List.getElem?_take] at hj
      split at hj
      · simp only [World.cell?, hg]; simpa using hj
      · cases hj
    refine ⟨g, 0, rs[i].2, rfl, ?_, ?_, Nums.of_own ha.2⟩
    · rw [Nat.zero_add, ← ha.1]; exact hcell _ _ hf.1
    · rw [Nat.zero_add]; exact hcell _ _ hf.2

end Go.Proofs.YtpjbkaibgajpcaaGreat

namespace Go.Proofs.YtpjbkaibgajpcaaGreat
open Go.RowKit
set_option maxRecDepth 20000

structure SrcAt (w : World) (p : Option Addr) (m c size : Nat) (news : List Value) : Prop where
  len : news.length = m * size
  nil : p = none → m = 0 ∧ c = 0
  cells : ∀ a, p = some a → ∀ j u, news[j]? = some u → w.cell? (a.add j) = some u

theorem SrcAt.agree {w w' : World} {p : Option Addr} {m c size : Nat} {news : List Value} (h : SrcAt w p m c size news) (hk : ∀ (a : Addr) (u : Value), w.cell? a = some u → w'.cell? a = some u) : SrcAt w' p m c size news :=
  ⟨h.len, h.nil, fun a ha j u hj => hk _ _ (h.cells a ha j u hj)⟩

theorem SrcAt.below {w w' : World} {p : Option Addr} {m c size : Nat} {news : List Value} (h : SrcAt w p m c size news) (hb : Below w.heap.size w w') : SrcAt w' p m c size news :=
  h.agree fun _ _ => below_cells hb

theorem SrcAt.of_own {w : World} {base e size n m c : Nat} {p : Option Addr} {xs : List Value} (h : w.ownsRow base e size (.slice p m c) n xs) : SrcAt w p n c size xs := by
  obtain ⟨h1, ⟨h2, h3⟩ | ⟨g, cap, cur, hv, hb, hg, hn, hc, hs, ht⟩⟩ := h
  · obtain ⟨rfl, rfl, rfl⟩ := Value.slice.inj h2
    exact ⟨h1, fun _ => ⟨h3, rfl⟩, fun a ha => by cases ha⟩
  · obtain ⟨rfl, rfl, rfl⟩ := Value.slice.inj hv
    refine ⟨h1, (by simp), fun a ha j u hj => ?_⟩
    obtain rfl := Option.some.inj ha
    rw [← ht, List.getElem?_take] at hj
    split at hj
    · rw [Addr.add_lit, Nat.zero_add]
      simp only [World.cell?, hg]; simpa using hj
    · cases hj

theorem SrcAt.of_nums {w : World} {k : IntKind} {p : Option Addr} {m c : Nat} {xs : List Int} (h : Nums w k (.slice p m c) xs) : SrcAt w p xs.length c 1 (xs.map (Value.int k)) := by
  obtain ⟨p', cap, hv, h1, h2, h3, h4⟩ := h.slice
  obtain ⟨rfl, rfl, rfl⟩ := Value.slice.inj hv
  refine ⟨by simp, fun hp => ?_, fun a ha j u hj => ?_⟩
  · have := h3 hp; exact ⟨by omega, this⟩
  · rw [List.getElem?_map, Option.map_eq_some_iff] at hj
    obtain ⟨x, hx, rfl⟩ := hj
    obtain ⟨hj', rfl⟩ := List.getElem?_eq_some_iff.1 hx
    obtain ⟨b, off, hp, hc⟩ := h4 j hj'
    rw [ha] at hp
    obtain rfl := Option.some.inj hp
    rw [Addr.add_lit]
    exact hc

section
variable {P : Program}

theorem run_app {t e size bytes : Nat} {z : Value} (R : RowTy P t e size bytes z) {w : World} {base : Nat} {v : Value} {n : Nat} {xs : List Value} (hown : w.ownsRow base e size v n xs) (hbase : base ≤ w.heap.size)
    {p : Option Addr} {m c : Nat} {news : List Value} (hs : SrcAt w p m c size news) (h1 : ∀ u ∈ news, u.oneCell' = true) (h63 : n + m ≤ maxLen) (hbytes : (n + m) * bytes ≤ 140737488355328) :
    ∃ q k c' w', (∀ ty, (Builtin.append_ #[t, t] ty #[v, .slice p m c]).run P w = .ok (.slice q k c') w') ∧ w'.ownsRow base e size (.slice q k c') (n + m) (xs ++ news) ∧ w.grownBy w' v.ownBlock ∧
      ((Value.slice q k c').ownBlock = v.ownBlock ∨ (Value.slice q k c').ownBlock = some w.heap.size) := by
  obtain ⟨i, hi, hz, hsz, hb⟩ := info_parts R.info
  cases p with
  | none =>
    obtain ⟨rfl, rfl⟩ := hs.nil rfl
    have hn : news = [] := List.eq_nil_of_length_eq_zero (by rw [hs.len]; simp)
    subst hn
    obtain ⟨q, k, c', rfl⟩ := own_form hown
    exact ⟨q, k, c', w, fun ty => run_append_owned_none w base t ty e i size R.ty hi _ n xs hown, by simpa using hown, World.grownBy.refl w _, .inl rfl⟩
  | some a =>
    obtain ⟨v', w', hr, h2, h3, _, h5⟩ := run_append_own_at (P := P) w base t 0 e i z size bytes R.ty hi hz hsz hb R.zs R.pos v n xs hown a m c news hs.len (hs.cells a rfl) h1 h63 hbytes hbase
    obtain ⟨q, k, c', rfl⟩ := own_form h2
    exact ⟨q, k, c', w', fun ty => hr, h2, h3, h5⟩

theorem run_push_at {t e size bytes : Nat} {z : Value} (R : RowTy P t e size bytes z) {w : World} {base : Nat} {v : Value} {n : Nat} {xs : List Value} (hown : w.ownsRow base e size v n xs) (hbase : base ≤ w.heap.size)
    {g0 : Nat} {cs : Array Value} {te : TypeId} {fr : Nat × Nat} (hg : w.heap[g0]? = some (.cells cs te fr)) (hcs : cs.size = size) (h1 : ∀ u ∈ cs.toList, u.oneCell' = true) (h63 : n + 1 ≤ maxLen) (hbytes : (n + 1) * bytes ≤ 140737488355328) :
    ∃ g cap w', (∀ ty, (Builtin.append_ #[t, t] ty #[v, .slice (some ⟨g0, 0, none⟩) 1 1]).run P w = .ok (.slice (some ⟨g, 0, none⟩) (n + 1) cap) w') ∧
      w'.ownsRow base e size (.slice (some ⟨g, 0, none⟩) (n + 1) cap) (n + 1) (xs ++ cs.toList) ∧ w.grownBy w' v.ownBlock ∧ (v.ownBlock = some g ∨ g = w.heap.size) ∧ g < w'.heap.size := by
  obtain ⟨i, hi, hz, hs, hb⟩ := info_parts R.info
  obtain ⟨g, cap, w', hr, h2, h3, h4, h5⟩ := run_append_lies (P := P) w t 0 base e i z size bytes R.ty hi hz hs hb R.zs R.pos v n xs hown ⟨g0, 0, none⟩ 1 1 cs.toList (by simp [hcs])
    (World.news_of_block (cs := cs) (t := te) (fr := fr) hg) h1 (by omega) h63 hbytes hbase w.heap.size rfl
  exact ⟨g, cap, w', fun ty => hr, h2, h3, h4, h5⟩

end

theorem own_empty (w : World) (base e size : Nat) (hb : base ≤ w.heap.size) : (w.alloc (.cells #[] e)).ownsRow base e size (.slice (some ⟨w.heap.size, 0, none⟩) 0 0) 0 [] :=
  ⟨by simp, .inr ⟨_, _, #[], rfl, hb, heap_alloc_new _ _, Nat.le_refl _, by simp [maxLen], by simp, by simp⟩⟩

theorem exists_list2 {α : Type} (n : Nat) {p : Nat → α → Prop} (h : ∀ i, i < n → ∃ x, p i x) : ∃ l : List α, l.length = n ∧ ∀ i (hi : i < l.length), p i l[i] := by
  induction n with
  | zero => exact ⟨[], rfl, fun i hi => absurd hi (by simp)⟩
  | succ n ih =>
    obtain ⟨l, hl, hp⟩ := ih fun i hi => h i (by omega)
    obtain ⟨x, hx⟩ := h n (by omega)
    refine ⟨l ++ [x], by simp [hl], fun i hi => ?_⟩
    simp only [List.length_append, List.length_cons, List.length_nil] at hi
    rcases Nat.lt_or_ge i l.length with h1 | h1
    · rw [List.getElem_append_left h1]; exact hp i h1
    · have e : i = n := by omega
      subst e
      rw [List.getElem_append_right (by omega)]
      simp [hl, hx]

end Go.Proofs.YtpjbkaibgajpcaaGreat

namespace Go.Proofs.YtpjbkaibgajpcaaGreat
open Go.RowKit
set_option maxRecDepth 20000

structure Mod (F : Nat → Prop) (w w' : World) : Prop where
  os : w'.os = w.os
  tape : w'.tape = w.tape
  output : w'.output = w.output
  size : w.heap.size ≤ w'.heap.size
  block : ∀ k, k < w.heap.size → ¬ F k → w'.heap[k]? = w.heap[k]?

theorem Mod.refl (F : Nat → Prop) (w : World) : Mod F w w := ⟨rfl, rfl, rfl, Nat.le_refl _, fun _ _ _ => rfl⟩

theorem Mod.trans {F G : Nat → Prop} {a b c : World} (h : Mod F a b) (g : Mod G b c) (hs : ∀ k, k < a.heap.size → G k → F k) : Mod F a c :=
  ⟨g.os.trans h.os, g.tape.trans h.tape, g.output.trans h.output, Nat.le_trans h.size g.size, fun k hk hf => (g.block k (Nat.lt_of_lt_of_le hk h.size) fun hg => hf (hs k hk hg)).trans (h.block k hk hf)⟩

theorem Mod.mono {F G : Nat → Prop} {a b : World} (h : Mod F a b) (hs : ∀ k, k < a.heap.size → F k → G k) : Mod G a b :=
  ⟨h.os, h.tape, h.output, h.size, fun k hk hg => h.block k hk fun hf => hg (hs k hk hf)⟩

theorem Mod.of_below {F : Nat → Prop} {w w' : World} (h : Below w.heap.size w w') : Mod F w w' := ⟨h.os, h.tape, h.output, h.size, fun k hk _ => h.block k hk⟩

theorem Mod.below {F : Nat → Prop} {B : Nat} {w w' : World} (h : Mod F w w') (hB : B ≤ w.heap.size) (hF : ∀ k, F k → B ≤ k) : Below B w w' :=
  ⟨h.os, h.tape, h.output, h.size, fun k hk => h.block k (by omega) fun hf => by have := hF k hf; omega⟩

theorem Mod.andBelow {F : Nat → Prop} {a b c : World} (h : Mod F a b) (g : Below b.heap.size b c) : Mod F a c :=
  h.trans (G := fun _ => False) (Mod.of_below g) fun _ _ hf => hf.elim

theorem Mod.setCell {F : Nat → Prop} {a b : World} (h : Mod F a b) {p : Addr} (hp : F p.block ∨ a.heap.size ≤ p.block) (u : Value) : Mod F a (b.setCell p u) :=
  ⟨h.os, h.tape, h.output, by simpa [World.setCell] using h.size, fun k hk hf => by
    rw [Below.heap_setCell _ _ _ _ (by rintro rfl; rcases hp with hp | hp; exact hf hp; omega)]
    exact h.block k hk hf⟩

theorem Mod.grown {F : Nat → Prop} {a b c : World} {row : Option Nat} (h : Mod F a b) (hg : b.grownBy c row) (hr : ∀ k, row = some k → F k ∨ a.heap.size ≤ k) : Mod F a c :=
  ⟨hg.os.trans h.os, hg.tape.trans h.tape, hg.output.trans h.output, Nat.le_trans h.size hg.size, fun k hk hf => by
    rw [hg.block k (Nat.lt_of_lt_of_le hk h.size) (fun e => by rcases hr k e.symm with h1 | h1; exact hf h1; omega)]
    exact h.block k hk hf⟩

theorem Mod.drewN {F : Nat → Prop} {a b : World} (h : Mod F a b) (n : Nat) : Mod F a (b.drewN n) := h.andBelow (below_drewN (Below.refl _ _) n)

def Agree (F : Nat → Prop) (w w' : World) : Prop := ∀ k, F k → w'.heap[k]? = w.heap[k]?

theorem Agree.of_below {F : Nat → Prop} {w w' : World} (h : Below w.heap.size w w') (hl : ∀ k, F k → k < w.heap.size) : Agree F w w' := fun k hk => h.block k (hl k hk)
theorem Agree.of_mod {F G : Nat → Prop} {w w' : World} (h : Mod G w w') (hl : ∀ k, F k → k < w.heap.size) (hd : ∀ k, F k → ¬ G k) : Agree F w w' := fun k hk => h.block k (hl k hk) (hd k hk)
theorem Agree.cell {F : Nat → Prop} {w w' : World} (h : Agree F w w') {a : Addr} (ha : F a.block) : w'.cell? a = w.cell? a := World.cell?_of_block (h _ ha)

def LiesIn (F : Nat → Prop) (v : Value) (n : Nat) : Prop := 0 < n → ∀ b, v.ownBlock = some b → F b

theorem LiesIn.mono {F G : Nat → Prop} {v : Value} {n : Nat} (h : LiesIn F v n) (hs : ∀ k, F k → G k) : LiesIn G v n := fun hn b hb => hs b (h hn b hb)

theorem Nums.agree {F : Nat → Prop} {w w' : World} {k : IntKind} {v : Value} {xs : List Int} (h : Nums w k v xs) (hl : LiesIn F v xs.length) (ha : Agree F w w') : Nums w' k v xs := by
  obtain ⟨p, cap, rfl, h1, h2, h3, h4⟩ := h.slice
  refine Nums.mk h1 h2 h3 fun i hi => ?_
  obtain ⟨b, off, rfl, hc⟩ := h4 i hi
  exact ⟨b, off, rfl, by rw [ha.cell (hl (by omega) b rfl)]; exact hc⟩

def RecsF (w : World) (F : Nat → Prop) (v : Value) (l : List (Int × List Int)) : Prop :=
  ∃ p cap, v = .slice p l.length cap ∧ l.length ≤ cap ∧ cap ≤ 9223372036854775807 ∧ (p = none → cap = 0) ∧
    ∀ i (hi : i < l.length), ∃ b off u, p = some ⟨b, off, none⟩ ∧ F b ∧ w.cell? ⟨b, off + i * 2, none⟩ = some (.int .u64 l[i].1) ∧ w.cell? ⟨b, off + i * 2 + 1, none⟩ = some u ∧ Nums w .i32 u l[i].2 ∧ LiesIn F u l[i].2.length

theorem RecsF.agree {w w' : World} {F : Nat → Prop} {v : Value} {l : List (Int × List Int)} (h : RecsF w F v l) (ha : Agree F w w') : RecsF w' F v l := by
  obtain ⟨p, cap, hv, h1, h2, h3, h4⟩ := h
  refine ⟨p, cap, hv, h1, h2, h3, fun i hi => ?_⟩
  obtain ⟨b, off, u, hp, hf, c0, c1, hn, hl⟩ := h4 i hi
  exact ⟨b, off, u, hp, hf, by rw [ha.cell hf]; exact c0, by rw [ha.cell hf]; exact c1, hn.agree hl ha, hl⟩

theorem RecsF.mono {w : World} {F G : Nat → Prop} {v : Value} {l : List (Int × List Int)} (h : RecsF w F v l) (hs : ∀ k, F k → G k) : RecsF w G v l := by
  obtain ⟨p, cap, hv, h1, h2, h3, h4⟩ := h
  refine ⟨p, cap, hv, h1, h2, h3, fun i hi => ?_⟩
  obtain ⟨b, off, u, hp, hf, c0, c1, hn, hl⟩ := h4 i hi
  exact ⟨b, off, u, hp, hs _ hf, c0, c1, hn, hl.mono hs⟩

theorem RecsF.nil (w : World) (F : Nat → Prop) : RecsF w F (.slice none 0 0) [] := ⟨none, 0, rfl, by simp, by simp, by simp, fun i hi => absurd hi (by simp)⟩

theorem RecsF.elem {w : World} {F : Nat → Prop} {p : Option Addr} {n cap : Nat} {l : List (Int × List Int)} (h : RecsF w F (.slice p n cap) l) {i : Nat} (hi : i < l.length) :
    ∃ b off u, p = some ⟨b, off, none⟩ ∧ F b ∧ w.cell? ⟨b, off + i * 2, none⟩ = some (.int .u64 l[i].1) ∧ w.cell? ⟨b, off + i * 2 + 1, none⟩ = some u ∧ Nums w .i32 u l[i].2 ∧ LiesIn F u l[i].2.length := by
  obtain ⟨p', cap', hv, _, _, _, h⟩ := h
  simp only [Value.slice.injEq] at hv
  obtain ⟨rfl, _, _⟩ := hv
  exact h i hi

theorem RecsF.of_own {w : World} {F : Nat → Prop} {B e n : Nat} {v : Value} {rs : List (Int × Value)} {l : List (Int × List Int)} (h : w.ownsRow B e 2 v n (flat2 rs)) (hv : ∀ b, v.ownBlock = some b → F b)
    (hlen : rs.length = l.length) (hr : ∀ i (h1 : i < rs.length) (h2 : i < l.length), rs[i].1 = l[i].1 ∧ Nums w .i32 rs[i].2 l[i].2 ∧ LiesIn F rs[i].2 l[i].2.length) : RecsF w F v l := by
  obtain ⟨h1, h2⟩ := h
  rw [flat2_length] at h1
  have hn : n = l.length := by omega
  subst hn
  rcases h2 with ⟨h2, h3⟩ | ⟨g, cap, cur, hvv, hb, hg, hn, hc, hs, ht⟩
  · have : l = [] := List.eq_nil_of_length_eq_zero h3
    subst this
    rw [h2]; exact RecsF.nil _ _
  · refine ⟨_, cap, hvv, hn, by simpa [maxLen] using hc, by simp, fun i hi => ?_⟩
    have hir : i < rs.length := by rw [hlen]; exact hi
    have hf := flat2_get rs i hir
    have ha := hr i hir hi
    have hcell : ∀ j u, (flat2 rs)[j]? = some u → w.cell? ⟨g, j, none⟩ = some u := by
      intro j u hj
      rw [← ht, List.getElem?_take] at hj
      split at hj
      · simp only [World.cell?, hg]; simpa using hj
      · cases hj
    refine ⟨g, 0, rs[i].2, rfl, hv g (by rw [hvv]; rfl), ?_, ?_, ha.2.1, ha.2.2⟩
    · rw [Nat.zero_add, ← ha.1]; exact hcell _ _ hf.1
    · rw [Nat.zero_add]; exact hcell _ _ hf.2

end Go.Proofs.YtpjbkaibgajpcaaGreat

namespace Go.Proofs.YtpjbkaibgajpcaaGreat
open Go.RowKit
set_option maxRecDepth 20000

structure Hz where
  id : Int
  dist : Int
  vec : List Int
deriving DecidableEq

structure Hv where
  id : Int
  dist : Int
  vec : Value

def Hv.cells (h : Hv) : List Value := [.int .u64 h.id, .int .u64 h.dist, h.vec]

def flat3 : List Hv → List Value
  | [] => []
  | r :: rs => .int .u64 r.id :: .int .u64 r.dist :: r.vec :: flat3 rs

theorem flat3_length (rs : List Hv) : (flat3 rs).length = rs.length * 3 := by
  induction rs with
  | nil => rfl
  | cons r rs ih => simp [flat3, ih]; omega

theorem flat3_append (rs ss : List Hv) : flat3 (rs ++ ss) = flat3 rs ++ flat3 ss := by
  induction rs with
  | nil => rfl
  | cons r rs ih => simp [flat3, ih]

theorem flat3_get (rs : List Hv) (i : Nat) (hi : i < rs.length) : (flat3 rs)[i * 3]? = some (.int .u64 rs[i].id) ∧ (flat3 rs)[i * 3 + 1]? = some (.int .u64 rs[i].dist) ∧ (flat3 rs)[i * 3 + 1 + 1]? = some rs[i].vec := by
  induction rs generalizing i with
  | nil => simp at hi
  | cons r rs ih =>
    cases i with
    | zero => simp [flat3]
    | succ i =>
      have := ih i (by simpa using hi)
      have e1 : (i + 1) * 3 = i * 3 + 1 + 1 + 1 := by omega
      rw [e1]
      simp only [flat3, List.getElem?_cons_succ, List.getElem_cons_succ]
      exact this

theorem flat3_drop (rs : List Hv) (n : Nat) : (flat3 rs).drop (n * 3) = flat3 (rs.drop n) := by
  induction n generalizing rs with
  | zero => simp
  | succ n ih =>
    cases rs with
    | nil => simp [flat3]
    | cons r rs =>
      rw [show (n + 1) * 3 = n * 3 + 1 + 1 + 1 by omega]
      simp [flat3, ih]

theorem flat3_take (rs : List Hv) (n : Nat) : (flat3 rs).take (n * 3) = flat3 (rs.take n) := by
  induction n generalizing rs with
  | zero => simp [flat3]
  | succ n ih =>
    cases rs with
    | nil => simp [flat3]
    | cons r rs =>
      rw [show (n + 1) * 3 = n * 3 + 1 + 1 + 1 by omega]
      simp [flat3, ih]

theorem flat3_one {rs : List Hv} (h : ∀ r ∈ rs, r.vec.oneCell' = true) : ∀ u ∈ flat3 rs, u.oneCell' = true := by
  induction rs with
  | nil => simp [flat3]
  | cons r rs ih =>
    intro u hu
    simp only [flat3, List.mem_cons] at hu
    rcases hu with rfl | rfl | rfl | hu
    · rfl
    · rfl
    · exact h r (by simp)
    · exact ih (fun r hr => h r (by simp [hr])) u hu

theorem flat3_snoc (rs : List Hv) (x d : Int) (u : Value) : flat3 (rs ++ [⟨x, d, u⟩]) = flat3 rs ++ (#[.int .u64 x, .int .u64 d, u] : Array Value).toList := by
  rw [flat3_append]; rfl

structure Rows3 (w : World) (G : Nat → Prop) (rs : List Hv) (l : List Hz) : Prop where
  len : rs.length = l.length
  each : ∀ i (h1 : i < rs.length) (h2 : i < l.length), rs[i].id = l[i].id ∧ rs[i].dist = l[i].dist ∧ Nums w .i32 rs[i].vec l[i].vec ∧ LiesIn G rs[i].vec l[i].vec.length

theorem Rows3.nil (w : World) (G : Nat → Prop) : Rows3 w G [] [] := ⟨rfl, fun i h => absurd h (by simp)⟩

theorem Rows3.one {w : World} {G : Nat → Prop} {rs : List Hv} {l : List Hz} (h : Rows3 w G rs l) : ∀ r ∈ rs, r.vec.oneCell' = true := by
  intro r hr
  obtain ⟨i, hi, rfl⟩ := List.mem_iff_getElem.1 hr
  obtain ⟨p, c, hq, _⟩ := (h.each i hi (by rw [← h.len]; exact hi)).2.2.1.slice
  rw [hq]; rfl

theorem Rows3.agree {w w' : World} {G : Nat → Prop} {rs : List Hv} {l : List Hz} (h : Rows3 w G rs l) (ha : Agree G w w') : Rows3 w' G rs l :=
  ⟨h.len, fun i h1 h2 => by obtain ⟨a, b, c, d⟩ := h.each i h1 h2; exact ⟨a, b, c.agree d ha, d⟩⟩

theorem Rows3.below {w w' : World} {G : Nat → Prop} {rs : List Hv} {l : List Hz} (h : Rows3 w G rs l) (hb : Below w.heap.size w w') : Rows3 w' G rs l :=
  ⟨h.len, fun i h1 h2 => by obtain ⟨a, b, c, d⟩ := h.each i h1 h2; exact ⟨a, b, c.below hb, d⟩⟩

theorem Rows3.mono {w : World} {G G' : Nat → Prop} {rs : List Hv} {l : List Hz} (h : Rows3 w G rs l) (hs : ∀ k, G k → G' k) : Rows3 w G' rs l :=
  ⟨h.len, fun i h1 h2 => by obtain ⟨a, b, c, d⟩ := h.each i h1 h2; exact ⟨a, b, c, d.mono hs⟩⟩

theorem Rows3.append {w : World} {G : Nat → Prop} {rs ss : List Hv} {l m : List Hz} (h : Rows3 w G rs l) (g : Rows3 w G ss m) : Rows3 w G (rs ++ ss) (l ++ m) := by
  have e1 := h.len
  have e2 := g.len
  refine ⟨by simp [e1, e2], fun i h1 h2 => ?_⟩
  simp only [List.length_append] at h1 h2
  rcases Nat.lt_or_ge i rs.length with hi | hi
  · rw [List.getElem_append_left hi, List.getElem_append_left (by omega)]
    exact h.each i hi _
  · rw [List.getElem_append_right hi, List.getElem_append_right (by omega)]
    simp only [e1]
    exact g.each _ _ _

theorem Rows3.single {w : World} {G : Nat → Prop} {h : Hz} {u : Value} (hn : Nums w .i32 u h.vec) (hl : LiesIn G u h.vec.length) : Rows3 w G [⟨h.id, h.dist, u⟩] [h] := by
  refine ⟨rfl, fun i h1 h2 => ?_⟩
  obtain rfl : i = 0 := by simp at h1; exact h1
  exact ⟨rfl, rfl, hn, hl⟩

theorem Rows3.take {w : World} {G : Nat → Prop} {rs : List Hv} {l : List Hz} (h : Rows3 w G rs l) (k : Nat) : Rows3 w G (rs.take k) (l.take k) := by
  refine ⟨by simp [h.len], fun i h1 h2 => ?_⟩
  rw [List.getElem_take, List.getElem_take]
  exact h.each i _ _

theorem Rows3.drop {w : World} {G : Nat → Prop} {rs : List Hv} {l : List Hz} (h : Rows3 w G rs l) (k : Nat) : Rows3 w G (rs.drop k) (l.drop k) := by
  refine ⟨by simp [h.len], fun i h1 h2 => ?_⟩
  rw [List.getElem_drop, List.getElem_drop]
  exact h.each _ _ _

def HitsF (w : World) (F : Nat → Prop) (v : Value) (l : List Hz) : Prop :=
  ∃ p cap, v = .slice p l.length cap ∧ l.length ≤ cap ∧ cap ≤ 9223372036854775807 ∧ (p = none → cap = 0) ∧
    ∀ i (hi : i < l.length), ∃ b off u, p = some ⟨b, off, none⟩ ∧ F b ∧ w.cell? ⟨b, off + i * 3, none⟩ = some (.int .u64 l[i].id) ∧ w.cell? ⟨b, off + i * 3 + 1, none⟩ = some (.int .u64 l[i].dist) ∧ w.cell? ⟨b, off + i * 3 + 1 + 1, none⟩ = some u ∧
      Nums w .i32 u l[i].vec ∧ LiesIn F u l[i].vec.length

theorem HitsF.nil (w : World) (F : Nat → Prop) : HitsF w F (.slice none 0 0) [] := ⟨none, 0, rfl, by simp, by simp, by simp, fun i hi => absurd hi (by simp)⟩

theorem HitsF.agree {w w' : World} {F : Nat → Prop} {v : Value} {l : List Hz} (h : HitsF w F v l) (ha : Agree F w w') : HitsF w' F v l := by
  obtain ⟨p, cap, hv, h1, h2, h3, h4⟩ := h
  refine ⟨p, cap, hv, h1, h2, h3, fun i hi => ?_⟩
  obtain ⟨b, off, u, hp, hf, c0, c1, c2, hn, hl⟩ := h4 i hi
  exact ⟨b, off, u, hp, hf, by rw [ha.cell hf]; exact c0, by rw [ha.cell hf]; exact c1, by rw [ha.cell hf]; exact c2, hn.agree hl ha, hl⟩

theorem HitsF.below {w w' : World} {F : Nat → Prop} {v : Value} {l : List Hz} (h : HitsF w F v l) (hb : Below w.heap.size w w') : HitsF w' F v l := by
  obtain ⟨p, cap, hv, h1, h2, h3, h4⟩ := h
  refine ⟨p, cap, hv, h1, h2, h3, fun i hi => ?_⟩
  obtain ⟨b, off, u, hp, hf, c0, c1, c2, hn, hl⟩ := h4 i hi
  exact ⟨b, off, u, hp, hf, below_cells hb c0, below_cells hb c1, below_cells hb c2, hn.below hb, hl⟩

theorem HitsF.mono {w : World} {F G : Nat → Prop} {v : Value} {l : List Hz} (h : HitsF w F v l) (hs : ∀ k, F k → G k) : HitsF w G v l := by
  obtain ⟨p, cap, hv, h1, h2, h3, h4⟩ := h
  refine ⟨p, cap, hv, h1, h2, h3, fun i hi => ?_⟩
  obtain ⟨b, off, u, hp, hf, c0, c1, c2, hn, hl⟩ := h4 i hi
  exact ⟨b, off, u, hp, hs _ hf, c0, c1, c2, hn, hl.mono hs⟩

theorem HitsF.rows {w : World} {F : Nat → Prop} {p : Option Addr} {m c : Nat} {l : List Hz} (h : HitsF w F (.slice p m c) l) : ∃ rs, Rows3 w F rs l ∧ SrcAt w p rs.length c 3 (flat3 rs) ∧
    ∀ k (hk : k < l.length), ∃ (b off : Nat) (up : Option Addr) (uc : Nat) (hk' : k < rs.length), p = some ⟨b, off, none⟩ ∧ F b ∧ rs[k] = ⟨l[k].id, l[k].dist, .slice up l[k].vec.length uc⟩ ∧ w.cell? ⟨b, off + k * 3, none⟩ = some (.int .u64 l[k].id) ∧
      w.cell? ⟨b, off + k * 3 + 1, none⟩ = some (.int .u64 l[k].dist) ∧ w.cell? ⟨b, off + k * 3 + 1 + 1, none⟩ = some (.slice up l[k].vec.length uc) ∧ Nums w .i32 (.slice up l[k].vec.length uc) l[k].vec ∧ LiesIn F (.slice up l[k].vec.length uc) l[k].vec.length := by
  obtain ⟨p', cap, hv, h1, h2, h3, h4⟩ := h
  obtain ⟨rfl, rfl, rfl⟩ := Value.slice.inj hv
  have each : ∀ i, i < l.length → ∃ r : Hv, ∃ (hi : i < l.length) (b off : Nat), p = some ⟨b, off, none⟩ ∧ F b ∧ w.cell? ⟨b, off + i * 3, none⟩ = some (.int .u64 r.id) ∧ w.cell? ⟨b, off + i * 3 + 1, none⟩ = some (.int .u64 r.dist) ∧ w.cell? ⟨b, off + i * 3 + 1 + 1, none⟩ = some r.vec ∧
      r.id = l[i].id ∧ r.dist = l[i].dist ∧ Nums w .i32 r.vec l[i].vec ∧ LiesIn F r.vec l[i].vec.length := by
    intro i hi
    obtain ⟨b, off, u, hp, hf, c0, c1, c2, hn, hl⟩ := h4 i hi
    exact ⟨⟨l[i].id, l[i].dist, u⟩, hi, b, off, hp, hf, c0, c1, c2, rfl, rfl, hn, hl⟩
  obtain ⟨rs, hlen, hr⟩ := exists_list2 l.length each
  refine ⟨rs, ⟨hlen, fun i i1 i2 => ?_⟩, ⟨flat3_length rs, fun hp => ?_, fun a ha j u hj => ?_⟩, fun k hk => ?_⟩
  · obtain ⟨_, b, off, hp, _, c0, c1, c2, e, e', hn, hl⟩ := hr i i1
    exact ⟨e, e', hn, hl⟩
  · have := h3 hp; exact ⟨by omega, this⟩
  · have hjl : j < (flat3 rs).length := (List.getElem?_eq_some_iff.1 hj).1
    rw [flat3_length] at hjl
    obtain ⟨_, b, off, hp, _, c0, c1, c2, e, e', hn, hl⟩ := hr (j / 3) (by omega)
    rw [ha] at hp
    obtain rfl := Option.some.inj hp
    have hf := flat3_get rs (j / 3) (by omega)
    rw [Addr.add_lit]
    have hm : j % 3 = 0 ∨ j % 3 = 1 ∨ j % 3 = 2 := by omega
    rcases hm with hm | hm | hm
    · have e1 : j / 3 * 3 = j := by omega
      rw [e1] at hf c0
      rw [hf.1] at hj
      obtain rfl := Option.some.inj hj
      exact c0
    · have e1 : j / 3 * 3 + 1 = j := by omega
      rw [e1] at hf
      rw [Nat.add_assoc, e1] at c1
      rw [hf.2.1] at hj
      obtain rfl := Option.some.inj hj
      exact c1
    · have e1 : j / 3 * 3 + 1 + 1 = j := by omega
      rw [e1] at hf
      rw [Nat.add_assoc, Nat.add_assoc, show j / 3 * 3 + (1 + 1) = j by omega] at c2
      rw [hf.2.2] at hj
      obtain rfl := Option.some.inj hj
      exact c2
  · obtain ⟨_, b, off, hp, hf, c0, c1, c2, e, e', hn, hl⟩ := hr k (by omega)
    obtain ⟨up, uc, hu, _⟩ := hn.slice
    refine ⟨b, off, up, uc, by omega, hp, hf, ?_, by rw [← e]; exact c0, by rw [← e']; exact c1, by rw [← hu]; exact c2, by rw [← hu]; exact hn, by rw [← hu]; exact hl⟩
    have : rs[k] = ⟨rs[k].id, rs[k].dist, rs[k].vec⟩ := rfl
    rw [this, e, e', hu]

theorem HitsF.of_own {w : World} {F : Nat → Prop} {B e n : Nat} {v : Value} {rs : List Hv} {l : List Hz} (ho : w.ownsRow B e 3 v n (flat3 rs)) (hv : ∀ b, v.ownBlock = some b → F b) (hr : Rows3 w F rs l) : HitsF w F v l := by
  have hlen := hr.len
  obtain ⟨h1, h2⟩ := ho
  rw [flat3_length] at h1
  have hn : n = l.length := by omega
  subst hn
  rcases h2 with ⟨h2, h3⟩ | ⟨g, cap, cur, hvv, hb, hg, hn, hc, hs, ht⟩
  · have : l = [] := List.eq_nil_of_length_eq_zero h3
    subst this
    rw [h2]; exact HitsF.nil _ _
  · refine ⟨_, cap, hvv, hn, by simpa [maxLen] using hc, by simp, fun i hi => ?_⟩
    have hir : i < rs.length := by rw [hlen]; exact hi
    have hf := flat3_get rs i hir
    have ha := hr.each i hir hi
    have hcell : ∀ j u, (flat3 rs)[j]? = some u → w.cell? ⟨g, j, none⟩ = some u := by
      intro j u hj
      rw [← ht, List.getElem?_take] at hj
      split at hj
      · simp only [World.cell?, hg]; simpa using hj
      · cases hj
    refine ⟨g, 0, rs[i].vec, rfl, hv g (by rw [hvv]; rfl), ?_, ?_, ?_, ha.2.2.1, ha.2.2.2⟩
    · rw [Nat.zero_add, ← ha.1]; exact hcell _ _ hf.1
    · rw [Nat.zero_add, ← ha.2.1]; exact hcell _ _ hf.2.1
    · rw [Nat.zero_add]; exact hcell _ _ hf.2.2

end Go.Proofs.YtpjbkaibgajpcaaGreat

namespace Go.Proofs.YtpjbkaibgajpcaaGreat
open Go.RowKit
set_option maxRecDepth 20000

theorem infoI32 : (Tryz.prog.info? 21).map (fun i => (i.zero, i.size, i.bytes)) = some (some (.int .i32 0), 1, 4) := by kernel_rfl

def NewNums (w : World) (k : IntKind) (e : Nat) (xs : List Int) (r : Ending) (w' : World) : Prop :=
  ∃ v, r = .returned v ∧ w'.ownsRow w.heap.size e 1 v xs.length (xs.map (Value.int k)) ∧ Below w.heap.size w w'

theorem ints_one {k : IntKind} {xs : List Int} : ∀ u ∈ xs.map (Value.int k), u.oneCell' = true := by
  intro u hu; obtain ⟨x, _, rfl⟩ := List.mem_map.1 hu; rfl

theorem cutVec_some (xs : List Int) (a : Addr) (cap : Nat) (n : Int) (m : Nat) (w : World) (hcap : xs.length ≤ cap) (hl : cap ≤ 9223372036854775807) (hc : ∀ j (hj : j < xs.length), w.cell? (a.add j) = some (.int .i32 xs[j])) (hn : 0 ≤ n)
    (hm : (m : Int) = min (xs.length : Int) n) (hr : m * 4 ≤ 140737488351232) :
    Calls Tryz.prog 12 #[.slice (some a) xs.length cap, .int .i64 n] w (NewNums w .i32 21 (xs.take n.toNat)) := by
  obtain ⟨i0, hi, hz0, hz1, hz2⟩ := info_parts infoI32
  have C := Lib.hid hc
  clear hc
  have hmx : m ≤ xs.length := by omega
  have key : ∀ w1 : World, Below w.heap.size w w1 → ∀ j u, ((xs.take m).map (Value.int .i32))[j]? = some u → w1.cell? (a.add j) = some u := by
    intro w1 hb j u hj
    rw [List.getElem?_map] at hj
    rw [Option.map_eq_some_iff] at hj
    obtain ⟨x, hx, rfl⟩ := hj
    rw [List.getElem?_take] at hx
    split at hx
    · obtain ⟨hj', rfl⟩ := List.getElem?_eq_some_iff.1 hx
      have := C.out j hj'
      rw [hb.cell (lt_of_cell this), this]
    · cases hx
  have K := Lib.hid key
  clear key
  have e1 : xs.take n.toNat = xs.take m := by
    by_cases h : xs.length ≤ n
    · rw [List.take_of_length_le (by omega), List.take_of_length_le (by omega)]
    · have e : n.toNat = m := by omega
      rw [e]
  rw [e1]
  have R := Lib.hid hr
  have M := Lib.hid hm
  clear hr hm
  by_cases hle : (xs.length : Int) ≤ n
  · have hmm : m = xs.length := by have := M.out; omega
    subst hmm
    go_enter Tryz.func12, Tryz.ntmps12
    go_wp2_with (at_builtin; refine wpList_append_own _ rfl _ _ 23 rfl w.heap.size 21 i0 (.int .i32 0) 1 4 Tryz.underlying23 hi hz0 hz1 hz2 rfl (by decide) _ 0 [] rfl (by exact ⟨rfl, .inr ⟨_, _, #[], rfl, Nat.le_refl _, heap_alloc_new _ _, Nat.le_refl _, by simp [maxLen], rfl, rfl⟩⟩) a xs.length cap ((xs.take xs.length).map (Value.int .i32)) rfl (by simp <;> omega) (by exact K.out _ ((Below.refl _ _).alloc (Nat.le_refl _) _)) ints_one (by simp [maxLen]; omega) (by have := R.out; omega) (by simp) ?_)
    intro v' w1 hown hg _
    go_wp2
    go_ret
    exact ⟨v', rfl, by simpa using hown, ((Below.refl _ _).alloc (Nat.le_refl _) _).grown hg (by simp) (by simp [Value.ownBlock])⟩
  · have hmm : n = m := by have := M.out; omega
    subst hmm
    go_enter Tryz.func12, Tryz.ntmps12
    go_wp2_with (at_builtin; refine wpList_append_own _ rfl _ _ 23 rfl w.heap.size 21 i0 (.int .i32 0) 1 4 Tryz.underlying23 hi hz0 hz1 hz2 rfl (by decide) _ 0 [] rfl (by exact ⟨rfl, .inr ⟨_, _, #[], rfl, Nat.le_refl _, heap_alloc_new _ _, Nat.le_refl _, by simp [maxLen], rfl, rfl⟩⟩) a m cap ((xs.take m).map (Value.int .i32)) rfl (by simp <;> omega) (by exact K.out _ ((Below.refl _ _).alloc (Nat.le_refl _) _)) ints_one (by simp [maxLen]; omega) (by have := R.out; omega) (by simp) ?_)
    intro v' w1 hown hg _
    go_wp2
    go_ret
    have hlen : (xs.take m).length = m := by simp; omega
    exact ⟨v', rfl, by rw [hlen]; simpa using hown, ((Below.refl _ _).alloc (Nat.le_refl _) _).grown hg (by simp) (by simp [Value.ownBlock])⟩

theorem cutVec_nil (n : Int) (w : World) (hn : 0 ≤ n) :
    Calls Tryz.prog 12 #[.slice none 0 0, .int .i64 n] w (NewNums w .i32 21 []) := by
  obtain ⟨i0, hi, hz0, hz1, hz2⟩ := info_parts infoI32
  go_enter Tryz.func12, Tryz.ntmps12
  go_wp2_with (at_builtin; refine wpList_append_own_none rfl _ _ 23 rfl w.heap.size 21 i0 1 Tryz.underlying23 hi _ 0 [] rfl (by exact ⟨rfl, .inr ⟨_, _, #[], rfl, Nat.le_refl _, heap_alloc_new _ _, Nat.le_refl _, by simp [maxLen], rfl, rfl⟩⟩) rfl ?_)
  go_wp2
  go_ret
  exact ⟨_, rfl, ⟨rfl, .inr ⟨_, _, #[], rfl, Nat.le_refl _, heap_alloc_new _ _, Nat.le_refl _, by simp [maxLen], rfl, rfl⟩⟩, by go_grown⟩

theorem cutVec (xs : List Int) (v : Value) (n : Int) (w : World) (h : Nums w .i32 v xs) (hn : 0 ≤ n) (hr : xs.length * 4 ≤ 140737488351232 ∨ n ≤ 100) :
    Calls Tryz.prog 12 #[v, .int .i64 n] w (NewNums w .i32 21 (xs.take n.toNat)) := by
  obtain ⟨p, cap, rfl, h1, h2, h3, h4⟩ := h.slice
  cases p with
  | none =>
    obtain rfl := h3 rfl
    obtain rfl : xs = [] := List.eq_nil_of_length_eq_zero (by omega)
    simpa using cutVec_nil n w hn
  | some a =>
    refine cutVec_some xs a cap n (min xs.length n.toNat) w h1 h2 (fun j hj => ?_) hn (by omega) (by omega)
    obtain ⟨b, off, hp, hc⟩ := h4 j hj
    simp only [Option.some.injEq] at hp
    rw [hp, Addr.add_lit]
    exact hc

end Go.Proofs.YtpjbkaibgajpcaaGreat

namespace Go.Proofs.YtpjbkaibgajpcaaGreat
open Go.RowKit
set_option maxRecDepth 20000

theorem sameVecQ (xs ys : List Int) (v u : Value) (w : World) (h : Nums w .i32 v xs) (g : Nums w .i32 u ys) :
    Calls Tryz.prog 17 #[v, u] w fun e w' => e = .returned (.bool (decide (xs = ys))) ∧ Drawn w w' := by
  obtain ⟨p, cap, rfl, hcap, hbig, -, hc⟩ := h.slice
  have hl : xs.length ≤ 9223372036854775807 := by omega
  clear hcap hbig
  obtain ⟨q, cap', rfl, hcap', hbig', -, hc'⟩ := g.slice
  have hl' : ys.length ≤ 9223372036854775807 := by omega
  clear hcap' hbig'
  have H := Lib.hid h
  have G := Lib.hid g
  clear h g hc hc'
  by_cases h3 : xs.length = ys.length
  · have h4 : ((xs.length : Int) != ys.length) = false := by simp [h3]
    have H3 := Lib.hid h3
    clear h3
    go_enter Tryz.func17, Tryz.ntmps17
    go_wp2
    go_loopw [5, 13] (fun _ i wr => ∃ k : Nat, k ≤ xs.length ∧ i = .int .i64 k ∧ xs.take k = ys.take k ∧ Drawn w wr) (fun _ i _ => xs.length - (intOf i).toNat)
    case atStart => exact ⟨0, by omega, rfl, rfl, Drawn.refl _⟩
    case round =>
      obtain ⟨k, hk, rfl, hall, hb⟩ := hrel
      have A := Lib.hid (And.intro hall hb)
      clear hall hb
      by_cases hlt : k < xs.length
      · have hlt' : k < ys.length := by have := H3.out; omega
        obtain ⟨b, off, rfl, hcell⟩ := (H.out.below A.out.2.below).elem hlt
        obtain ⟨b', off', rfl, hcell'⟩ := (G.out.below A.out.2.below).elem hlt'
        have hl8 : ys.length ≤ 9223372036854775807 := by omega
        by_cases hx : xs[k] = ys[k]
        · have hne : (xs[k] != ys[k]) = false := by simp [hx]
          have E := Lib.hid hx
          clear hx
          go_wp2
          go_quiet (fail)
          go_wp2
          go_roundw
          case rel => exact ⟨k + 1, by omega, by go_num, by rw [List.take_succ_eq_append_getElem hlt, List.take_succ_eq_append_getElem hlt', A.out.1, E.out], A.out.2.drewN _⟩
          case measure => simp [intOf]; omega
        · have hne : (xs[k] != ys[k]) = true := by simp [hx]
          have E := Lib.hid hx
          clear hx
          go_wp2
          go_quiet (fail)
          go_wp2
          go_ret
          exact ⟨ret_bool (by simp; intro e; subst e; exact E.out rfl), A.out.2.drewN _⟩
      · go_wp2
        go_ret
        have h3 := H3.out
        have h4 := A.out.1
        rw [List.take_of_length_le (by omega), List.take_of_length_le (by omega)] at h4
        exact ⟨ret_bool (by simp [h4]), A.out.2⟩
  · have h4 : ((xs.length : Int) != ys.length) = true := by simp; omega
    go_enter Tryz.func17, Tryz.ntmps17
    go_wp2
    go_ret
    exact ⟨ret_bool (by simp; intro e; exact h3 (by rw [e])), Drawn.refl _⟩

end Go.Proofs.YtpjbkaibgajpcaaGreat

namespace Go.Proofs.YtpjbkaibgajpcaaGreat
open Go.RowKit
set_option maxRecDepth 20000

section
variable {P : Program} {ops : Array Oper} {Q : Exit → Act → World → Prop} {md : Region.Mode} {S : World → Prop}

def canTake (md : Region.Mode) (ops : Array Oper) (listed : Array Bool) (i : Nat) : Bool := Region.noSelect ops && Region.free md ops listed i && (Region.ready md ops listed).contains i

theorem tkN (i : Nat) {oi : Oper} {fuel : Nat} {listed : Array Bool} {a : Act} {w : World} (hS : S w) (hi : ops.toList[i]? = some oi) (hQ : ∀ c a w, Q (.panic c) (a.put oi.dst undef) w → Q (.panic c) a w)
    (hc : canTake md ops listed i = true) (hw : Region.wanted oi (yielded ops a.tmps) = false)
    (h : wpAnyH P md ops Q S fuel (listed.setIfInBounds i true) (a.put oi.dst undef) w) : wpAnyH P md ops Q S (fuel + 1) listed a w := by
  simp only [canTake, Bool.and_eq_true] at hc
  exact wpAnyH_take (by rw [← hi, Array.getElem?_toList]) hc.1.1 hc.1.2 hc.2 hQ (.inr ⟨hw, rfl⟩) hS h

theorem kN (i : Nat) {oi : Oper} {fuel : Nat} {listed : Array Bool} {a : Act} {w : World} (hS : S w) (h : wpAnyH P md ops Q S fuel (listed.setIfInBounds i true) (a.put oi.dst undef) w)
    (hi : ops.toList[i]? = some oi := by exact rfl) (hQ : ∀ c a w, Q (.panic c) (a.put oi.dst undef) w → Q (.panic c) a w := by exact fun _ _ _ h => h) (hc : canTake md ops listed i = true := by decide +kernel) (hw : Region.wanted oi (yielded ops a.tmps) = false := by rfl) : wpAnyH P md ops Q S (fuel + 1) listed a w :=
  tkN i hS hi hQ hc hw h

theorem tkY (i : Nat) {oi : Oper} {v : Value} {fuel : Nat} {listed : Array Bool} {a : Act} {w : World} (hS : S w) (hi : ops.toList[i]? = some oi) (hQ : ∀ c a w, Q (.panic c) (a.put oi.dst v) w → Q (.panic c) a w)
    (hc : canTake md ops listed i = true) (hw : Region.wanted oi (yielded ops a.tmps) = true) (hy : ∀ w, S w → (execOp a.eval oi).run P w = .ok (.value v) w)
    (h : wpAnyH P md ops Q S fuel (listed.setIfInBounds i true) (a.put oi.dst v) w) : wpAnyH P md ops Q S (fuel + 1) listed a w := by
  simp only [canTake, Bool.and_eq_true] at hc
  exact wpAnyH_take (by rw [← hi, Array.getElem?_toList]) hc.1.1 hc.1.2 hc.2 hQ (.inl ⟨hw, hy⟩) hS h

theorem kY (i : Nat) {oi : Oper} {v : Value} {fuel : Nat} {listed : Array Bool} {a : Act} {w : World} (hS : S w) (h : wpAnyH P md ops Q S fuel (listed.setIfInBounds i true) (a.put oi.dst v) w)
    (hi : ops.toList[i]? = some oi := by exact rfl) (hQ : ∀ c a w, Q (.panic c) (a.put oi.dst v) w → Q (.panic c) a w := by exact fun _ _ _ h => h) (hc : canTake md ops listed i = true := by decide +kernel) (hw : Region.wanted oi (yielded ops a.tmps) = true := by rfl) (hy : ∀ w, S w → (execOp a.eval oi).run P w = .ok (.value v) w := by intro w hS; (try dsimp only at hS); go_simp; try with_reducible rfl) : wpAnyH P md ops Q S (fuel + 1) listed a w :=
  tkY i hS hi hQ hc hw hy h

theorem spk (i : Nat) {oi : Oper} {fuel : Nat} {listed : Array Bool} {a : Act} {w : World} (hi : ops.toList[i]? = some oi)
    (hr : Region.ready md ops listed = [i]) (hw : Region.wanted oi (yielded ops a.tmps) = true)
    (h : ∀ K' : Act → World → Prop, Shut (∀ a w, S w → (S w → wpAnyH P md ops Q S fuel (listed.setIfInBounds i true) a w) → K' a w) → oi.wp P a w K' Q) : wpAnyH P md ops Q S (fuel + 1) listed a w := by
  refine wpAnyH_ready hr (by simp) ?_
  refine AllReadyH.cons (by rw [← hi, Array.getElem?_toList]) (fun K' hK => ?_) AllReadyH.nil
  rw [if_pos hw]
  exact h K' hK

theorem region_go {id : Nat} {a : Act} {w : World} (S : World → Prop) (hm : P.follows .mixedOrders = true) (hS : S w.drew)
    (h : S w.drew → wpAnyH P .any ops Q S ops.size (Array.replicate ops.size false) a w.drew) : (Code.region id ops true).wp P Q a w :=
  wp_region_held_drew hm hS h
end

end Go.Proofs.YtpjbkaibgajpcaaGreat

namespace Go.Proofs.YtpjbkaibgajpcaaGreat
open Go.RowKit
set_option maxRecDepth 20000

theorem spB {P : Program} {ops : Array Oper} {Q : Exit → Act → World → Prop} {md : Region.Mode} {S : World → Prop} (i j : Nat) {oi oj : Oper} {fuel : Nat} {listed : Array Bool} {a : Act} {w : World} (hi : ops.toList[i]? = some oi) (hj : ops.toList[j]? = some oj)
    (hr : Region.ready md ops listed = [i, j]) (hwi : Region.wanted oi (yielded ops a.tmps) = true) (hwj : Region.wanted oj (yielded ops a.tmps) = true)
    (h : ∀ K' : Act → World → Prop, Shut (∀ a w, S w → (S w → wpAnyH P md ops Q S fuel (listed.setIfInBounds i true) a w) → K' a w) → oi.wp P a w K' Q)
    (h' : ∀ K' : Act → World → Prop, Shut (∀ a w, S w → (S w → wpAnyH P md ops Q S fuel (listed.setIfInBounds j true) a w) → K' a w) → oj.wp P a w K' Q) : wpAnyH P md ops Q S (fuel + 1) listed a w := by
  refine wpAnyH_ready hr (by simp) ?_
  refine AllReadyH.cons (by rw [← hi, Array.getElem?_toList]) (fun K' hK => ?_) (AllReadyH.cons (by rw [← hj, Array.getElem?_toList]) (fun K' hK => ?_) AllReadyH.nil)
  · rw [if_pos hwi]; exact h K' hK
  · rw [if_pos hwj]; exact h' K' hK

def setAt (xs : List Value) (o : Nat) : List Value → List Value
  | [] => xs
  | v :: r => setAt (xs.set o v) (o + 1) r

theorem own_setCell {w : World} {base e size n : Nat} {v : Value} {xs : List Value} {g o : Nat} (h : w.ownsRow base e size v n xs) (hg : v.ownBlock = some g) (ho : o < n * size) (u : Value) :
    (w.setCell ⟨g, o, none⟩ u).ownsRow base e size v n (xs.set o u) := by
  obtain ⟨h1, ⟨rfl, rfl⟩ | ⟨b, cap, cur, rfl, hb, hh, hn, hc, hs, ht⟩⟩ := h
  · simp [Value.ownBlock] at hg
  · simp only [Value.ownBlock, Option.some.injEq] at hg
    subst hg
    refine ⟨by simpa using h1, .inr ⟨b, cap, cur.setIfInBounds o u, rfl, hb, ?_, hn, hc, by simpa using hs, ?_⟩⟩
    · simp [World.setCell, Array.getElem?_modify, hh]
    · rw [← ht]
      simp [List.take_set]

theorem own_setCells {base e size n : Nat} {v : Value} {g : Nat} (hg : v.ownBlock = some g) : ∀ (vs : List Value) (o : Nat) (w : World) (xs : List Value), w.ownsRow base e size v n xs → o + vs.length ≤ n * size →
    (w.setCells g o vs).ownsRow base e size v n (setAt xs o vs)
  | [], _, _, _, h, _ => h
  | u :: r, o, w, xs, h, ho => by
    rw [World.setCells, setAt]
    simp only [List.length_cons] at ho
    exact own_setCells hg r (o + 1) _ _ (own_setCell h hg (by omega) u) (by omega)

theorem heap_size_setCells (g : Nat) : ∀ (vs : List Value) (o : Nat) (w : World), (w.setCells g o vs).heap.size = w.heap.size
  | [], _, _ => rfl
  | u :: r, o, w => by rw [World.setCells, heap_size_setCells g r]; simp [World.setCell]

theorem grownBy_setCells (g : Nat) : ∀ (vs : List Value) (o : Nat) (w : World), w.grownBy (w.setCells g o vs) (some g)
  | [], _, w => World.grownBy.refl w _
  | u :: r, o, w => by
    rw [World.setCells]
    obtain ⟨a1, a2, a3, a4, a5⟩ := grownBy_setCells g r (o + 1) (w.setCell ⟨g, o, none⟩ u)
    refine ⟨a1, a2, a3, ?_, fun k hk hne => ?_⟩
    · rw [heap_size_setCells]; simp [World.setCell]
    · rw [a5 k (by simpa [World.setCell] using hk) hne]
      exact Below.heap_setCell _ _ _ _ (fun e => hne (by rw [e]))

theorem own_rangeAt {w : World} {base e size n : Nat} {v : Value} {xs : List Value} {g : Nat} (h : w.ownsRow base e size v n xs) (hg : v.ownBlock = some g) (o : Nat) (cs : List Value) (hc : ∀ j u, cs[j]? = some u → xs[o + j]? = some u) : w.rangeAt g o cs := by
  obtain ⟨h1, ⟨rfl, rfl⟩ | ⟨b, cap, cur, rfl, hb, hh, hn, hm, hs, ht⟩⟩ := h
  · simp [Value.ownBlock] at hg
  · simp only [Value.ownBlock, Option.some.injEq] at hg
    subst hg
    intro j u hj
    have := hc j u hj
    rw [← ht, List.getElem?_take] at this
    split at this
    · simp only [World.cell?, hh]; simpa using this
    · cases this

theorem own_there {w : World} {base e size n : Nat} {v : Value} {xs : List Value} {g : Nat} (h : w.ownsRow base e size v n xs) (hg : v.ownBlock = some g) (o m : Nat) (hm : o + m ≤ n * size) : w.there g o m := by
  obtain ⟨h1, ⟨rfl, rfl⟩ | ⟨b, cap, cur, rfl, hb, hh, hn, hcm, hs, ht⟩⟩ := h
  · simp [Value.ownBlock] at hg
  · simp only [Value.ownBlock, Option.some.injEq] at hg
    subst hg
    have h1 : n * size ≤ cap * size := Nat.mul_le_mul_right _ hn
    intro j hj
    have hlt : o + j < cur.size := by omega
    refine ⟨?_, ?_⟩
    · simp [World.cell?, hh, hlt]
    · simp [World.frozen?, hh]

end Go.Proofs.YtpjbkaibgajpcaaGreat

namespace Go.Proofs.YtpjbkaibgajpcaaGreat
open Go.RowKit
set_option maxRecDepth 20000

def nearB (i d j e : Int) : Bool := decide (d < e) || (decide (d = e) && decide (i < j))

theorem nearer (i d j e : Int) (v u : Value) (w : World) :
    Calls Tryz.prog 86 #[.agg #[.int .u64 i, .int .u64 d, v], .agg #[.int .u64 j, .int .u64 e, u]] w fun r w' => r = .returned (.bool (nearB i d j e)) ∧ Below w.heap.size w w' := by
  by_cases h1 : d < e
  · go_enter Tryz.func86, Tryz.ntmps86
    go_wp2
    go_ret
    exact ⟨ret_bool (by simp [nearB, h1]), by go_grown⟩
  · have hd : decide (d < e) = false := by simp; omega
    by_cases h2 : d = e
    · have hde : (d == e) = true := by simp [h2]
      have E := Lib.hid h2
      clear h2
      go_enter Tryz.func86, Tryz.ntmps86
      go_wp2
      go_ret
      exact ⟨ret_bool (by have := E.out; simp [nearB, this]), by go_grown⟩
    · have hde : (d == e) = false := by simp [h2]
      go_enter Tryz.func86, Tryz.ntmps86
      go_wp2
      go_ret
      exact ⟨ret_bool (by simp [nearB, h1, h2]), by go_grown⟩

theorem refNearer (i d j e : Int) (v u : Value) (w : World) :
    Calls Tryz.prog 19 #[.agg #[.int .u64 i, .int .u64 d, v], .agg #[.int .u64 j, .int .u64 e, u]] w fun r w' => r = .returned (.bool (nearB i d j e)) ∧ Below w.heap.size w w' := by
  by_cases h2 : d = e
  · have hde : (d != e) = false := by simp [h2]
    have E := Lib.hid h2
    clear h2
    go_enter Tryz.func19, Tryz.ntmps19
    go_wp2
    go_ret
    exact ⟨ret_bool (by have := E.out; simp [nearB, this]), by go_grown⟩
  · have hde : (d != e) = true := by simp [h2]
    go_enter Tryz.func19, Tryz.ntmps19
    go_wp2
    go_ret
    exact ⟨ret_bool (by simp [nearB, h2]), by go_grown⟩

theorem cells_same {W w1 : World} (hb : Below W.heap.size W w1) : (∀ b o, b < W.heap.size → w1.cell? ⟨b, o, none⟩ = W.cell? ⟨b, o, none⟩) ∧ (∀ b o, b < W.heap.size → w1.frozen? ⟨b, o, none⟩ = W.frozen? ⟨b, o, none⟩) :=
  ⟨fun _ _ h => hb.cell h, fun _ _ h => hb.frozen h⟩

def orderZ (i d j e : Int) : Int := if nearB i d j e = true then -1 else if nearB j e i d = true then 1 else 0

theorem order (i d j e : Int) (v u : Value) (w : World) :
    Calls Tryz.prog 133 #[.agg #[.int .u64 i, .int .u64 d, v], .agg #[.int .u64 j, .int .u64 e, u]] w fun r w' => r = .returned (.int .i64 (orderZ i d j e)) ∧ Below w.heap.size w w' := by
  have N1 := Lib.hid (fun W => nearer i d j e v u W)
  have N2 := Lib.hid (fun W => nearer j e i d u v W)
  have E := Lib.hid (show orderZ i d j e = if nearB i d j e = true then -1 else if nearB j e i d = true then 1 else 0 from rfl)
  generalize orderZ i d j e = x at *
  generalize nearB i d j e = p at *
  generalize nearB j e i d = q at *
  go_enter Tryz.func133, Tryz.ntmps133
  go_wp2_with fail
  have hb0 : Below w.heap.size w ((w.alloc (.cells #[.int .u64 i, .int .u64 d, v] 38)).alloc (.cells #[.int .u64 j, .int .u64 e, u] 38)) := ((Below.refl _ _).alloc (Nat.le_refl _) _).alloc (by simp) _
  have B0 := Lib.hid hb0
  clear hb0
  refine (N1.out _).mono ?_
  rintro r w1 ⟨rfl, hb1⟩
  obtain ⟨hc, hf⟩ := cells_same hb1
  have B1 := Lib.hid (B0.out.trans (hb1.mono B0.out.size))
  clear hb1
  cases p
  · go_wp2_with fail
    refine (N2.out _).mono ?_
    rintro r w2 ⟨rfl, hb2⟩
    have B2 := Lib.hid (B1.out.trans (hb2.mono B1.out.size))
    clear hb2
    cases q
    all_goals
      go_wp2_with fail
      go_ret
      exact ⟨ret_int (by rw [E.out]; rfl), B2.out⟩
  · go_wp2_with fail
    go_ret
    exact ⟨ret_int (by rw [E.out]; rfl), B1.out⟩

theorem clone (xs : List Int) (v : Value) (w : World) (h : Nums w .i32 v xs) (hr : xs.length ≤ 1000000) :
    Calls Tryz.prog 53 #[v] w (NewNums w .i32 21 xs) := by
  obtain ⟨p, cap, rfl, h1, h2, h3, h4⟩ := h.slice
  obtain ⟨i0, hi, hz0, hz1, hz2⟩ := info_parts infoI32
  have H := Lib.hid h
  have R := Lib.hid hr
  clear h4 hr h
  have qN : ∀ (w : World) (a : Option Addr) (n c : Nat), (binOp .eql 23 (.slice a n c) (.slice none 0 0)).run Tryz.prog w = .ok (.bool a.isNone) w := fun w a n c => Lib.run_eql_slice_nil w _ _ a n c 0 0 Tryz.underlying23
  cases p with
  | none =>
    obtain rfl := h3 rfl
    have hl : xs = [] := List.eq_nil_of_length_eq_zero (by omega)
    subst hl
    clear h1 h2 h3
    go_enter Tryz.func53, Tryz.ntmps53
    go_wp2_with fail
    go_ret
    exact ⟨_, rfl, World.ownsRow_nil _ _ _ _, Below.refl _ _⟩
  | some a =>
    have key : ∀ w1 : World, Below w.heap.size w w1 → ∀ j u, (xs.map (Value.int .i32))[j]? = some u → w1.cell? (a.add j) = some u := by
      intro w1 hb j u hj
      rw [List.getElem?_map, Option.map_eq_some_iff] at hj
      obtain ⟨x, hx, rfl⟩ := hj
      obtain ⟨hj', rfl⟩ := List.getElem?_eq_some_iff.1 hx
      obtain ⟨b, off, hp, hc⟩ := (H.out.below hb).elem hj'
      simp only [Option.some.injEq] at hp
      subst hp
      rw [Addr.add_lit]; exact hc
    have K := Lib.hid key
    clear key h3
    go_enter Tryz.func53, Tryz.ntmps53
    go_wp2_with (at_builtin; refine wpList_append_own _ rfl _ _ 23 rfl w.heap.size 21 i0 (.int .i32 0) 1 4 Tryz.underlying23 hi hz0 hz1 hz2 rfl (by decide) _ 0 [] rfl (by exact ⟨rfl, .inr ⟨_, _, #[], rfl, Nat.le_refl _, heap_alloc_new _ _, Nat.le_refl _, by simp [maxLen], rfl, rfl⟩⟩) a xs.length cap (xs.map (Value.int .i32)) rfl (by simp <;> omega) (by exact K.out _ ((Below.refl _ _).alloc (Nat.le_refl _) _)) ints_one (by simp [maxLen]; have := R.out; omega) (by have := R.out; omega) (by simp) ?_)
    intro v' w1 hown hg _
    go_wp2
    go_ret
    exact ⟨v', rfl, by simpa using hown, ((Below.refl _ _).alloc (Nat.le_refl _) _).grown hg (by simp) (by simp [Value.ownBlock])⟩

theorem results_cell_mid {P : Program} {fn : Func} {p : Tmp} {ty : TypeId} (h : fn.results = #[.cell p ty]) (tmps : Array Value) (w : World) (g o : Nat) (cs : List Value) (d : TypeDesc)
    (hp : tmps.getD p undef = .pointer (some ⟨g, o, none⟩)) (hc : w.rangeAt g o cs) (hu : P.underlying ty = some d) (hd : d.isRow = true) (hi : (P.info? ty).map (·.size) = some cs.length) :
    (results fn tmps).run P w = .ok (.agg cs.toArray) w := by
  have hp' : tmps[p]?.getD undef = .pointer (some ⟨g, o, none⟩) := by simpa using hp
  simp [results, h, hp', asAddr, run_loadVar_mid w g o ty cs d hc hu hd hi]

theorem below_frozen {w w' : World} (hb : Below w.heap.size w w') {a : Addr} (ha : a.block < w.heap.size) (h : w.frozen? a = false) : w'.frozen? a = false := by
  rw [World.frozen?_of_block (hb.block _ ha)]; exact h

def NewHit (w : World) (e : Nat) (h : Hz) (r : Ending) (w' : World) : Prop :=
  ∃ u, r = .returned (.agg #[.int .u64 h.id, .int .u64 h.dist, u]) ∧ w'.ownsRow w.heap.size e 1 u h.vec.length (h.vec.map (Value.int .i32)) ∧ Below w.heap.size w w'

def NewHitAt (w : World) (e : Nat) (h : Hz) (u : Value) (w' : World) : Prop :=
  w'.ownsRow w.heap.size e 1 u h.vec.length (h.vec.map (Value.int .i32)) ∧ Below w.heap.size w w' ∧ w'.rangeAt (w.heap.size + 1) 0 [.int .u64 h.id, .int .u64 h.dist, u]

theorem copyOf (h : Hz) (v : Value) (w : World) (hv : Nums w .i32 v h.vec) (hr : h.vec.length ≤ 1000000) :
    Calls Tryz.prog 98 #[.agg #[.int .u64 h.id, .int .u64 h.dist, v]] w (NewHit w 21 h) := by
  obtain ⟨p, cap, rfl, -, -, -, -⟩ := hv.slice
  have H := Lib.hid hv
  clear hv
  go_enter Tryz.func98, Tryz.ntmps98
  go_wp2_with fail
  have G := Lib.hid (((Below.refl w.heap.size w).alloc (Nat.le_refl _) (Obj.cells #[Value.int IntKind.u64 h.id, Value.int IntKind.u64 h.dist, Value.slice p h.vec.length cap] 38)).alloc (by simp) (Obj.cells #[Value.int IntKind.u64 0, Value.int IntKind.u64 0, Value.slice none 0 0] 38))
  refine (clone h.vec _ _ (H.out.below G.out) hr).mono ?_
  rintro e w' ⟨u, rfl, hown, hb⟩
  have c0 := below_cells hb (a := ⟨w.heap.size, 0, none⟩) (v := .int .u64 h.id) (by go_simp)
  have c1 := below_cells hb (a := ⟨w.heap.size, 1, none⟩) (v := .int .u64 h.dist) (by go_simp)
  have c2 := below_cells hb (a := ⟨w.heap.size, 2, none⟩) (v := .slice p h.vec.length cap) (by go_simp)
  have d0 := below_cells hb (a := ⟨w.heap.size + 1, 0, none⟩) (v := .int .u64 0) (by go_simp)
  have d1 := below_cells hb (a := ⟨w.heap.size + 1, 1, none⟩) (v := .int .u64 0) (by go_simp)
  have d2 := below_cells hb (a := ⟨w.heap.size + 1, 2, none⟩) (v := .slice none 0 0) (by go_simp)
  have f2 := below_frozen hb (a := ⟨w.heap.size, 2, none⟩) (by simp; omega) (by go_simp)
  have e0 := below_frozen hb (a := ⟨w.heap.size + 1, 0, none⟩) (by simp) (by go_simp)
  have e1 := below_frozen hb (a := ⟨w.heap.size + 1, 1, none⟩) (by simp) (by go_simp)
  have e2 := below_frozen hb (a := ⟨w.heap.size + 1, 2, none⟩) (by simp) (by go_simp)
  obtain ⟨q, m, k, rfl⟩ := own_form hown
  have O := Lib.hid (And.intro hown hb)
  clear hown hb
  go_wp2_with fail
  have F : NewHitAt w 21 h (.slice q m k) ((((w'.setCell ⟨w.heap.size, 2, none⟩ (.slice q m k)).setCell ⟨w.heap.size + 1, 0, none⟩ (.int .u64 h.id)).setCell ⟨w.heap.size + 1, 1, none⟩ (.int .u64 h.dist)).setCell ⟨w.heap.size + 1, 2, none⟩ (.slice q m k)) := by
    have hlt : ∀ b, (Value.slice q m k).ownBlock = some b → w.heap.size + 2 ≤ b := fun b hb => by have := (O.out.1.lt b hb).1; simpa using this
    refine ⟨?_, ?_, ?_⟩
    · have h1 := own_mono O.out.1 (base' := w.heap.size) (by simp; omega)
      refine ownsRow_setCell_other (ownsRow_setCell_other (ownsRow_setCell_other (ownsRow_setCell_other h1 ?_ _) ?_ _) ?_ _) ?_ _
      all_goals exact fun e => by have := hlt _ e; dsimp only at this; omega
    · exact (((((G.out.trans (O.out.2.mono G.out.size)).setCell (by simp) _).setCell (by simp) _).setCell (by simp) _).setCell (by simp) _)
    · have x0 : (w'.setCell ⟨w.heap.size, 2, none⟩ (.slice q m k)).cell? ⟨w.heap.size + 1, 0, none⟩ = some (.int .u64 0) := by rw [World.cell?_setCell_other _ _ _ _ (by simp)]; exact d0
      have x1 : ((w'.setCell ⟨w.heap.size, 2, none⟩ (.slice q m k)).setCell ⟨w.heap.size + 1, 0, none⟩ (.int .u64 h.id)).cell? ⟨w.heap.size + 1, 1, none⟩ = some (.int .u64 0) := by
        rw [World.cell?_setCell_other _ _ _ _ (by simp), World.cell?_setCell_other _ _ _ _ (by simp)]; exact d1
      have x2 : (((w'.setCell ⟨w.heap.size, 2, none⟩ (.slice q m k)).setCell ⟨w.heap.size + 1, 0, none⟩ (.int .u64 h.id)).setCell ⟨w.heap.size + 1, 1, none⟩ (.int .u64 h.dist)).cell? ⟨w.heap.size + 1, 2, none⟩ = some (.slice none 0 0) := by
        rw [World.cell?_setCell_other _ _ _ _ (by simp), World.cell?_setCell_other _ _ _ _ (by simp), World.cell?_setCell_other _ _ _ _ (by simp)]; exact d2
      intro j v hj
      match j, hj with
      | 0, hj => rw [World.cell?_setCell_other _ _ _ _ (by simp), World.cell?_setCell_other _ _ _ _ (by simp), World.cell?_setCell_same _ _ _ x0]; simpa using hj
      | 1, hj => rw [World.cell?_setCell_other _ _ _ _ (by simp), World.cell?_setCell_same _ _ _ x1]; simpa using hj
      | 2, hj => rw [World.cell?_setCell_same _ _ _ x2]; simpa using hj
      | (n + 3), hj => simp at hj
  clear c0 c1 c2 d0 d1 d2 f2 e0 e1 e2
  generalize (((w'.setCell ⟨w.heap.size, 2, none⟩ (.slice q m k)).setCell ⟨w.heap.size + 1, 0, none⟩ (.int .u64 h.id)).setCell ⟨w.heap.size + 1, 1, none⟩ (.int .u64 h.dist)).setCell ⟨w.heap.size + 1, 2, none⟩ (.slice q m k) = W3 at *
  refine bodyPost_ret (results_cell_mid (p := 2) (by kernel_rfl) _ W3 (w.heap.size + 1) 0 [.int .u64 h.id, .int .u64 h.dist, .slice q m k] _ (by rfl) F.2.2 Tryz.underlying38 rfl (by kernel_rfl)) rfl ?_
  exact ⟨_, rfl, F.1, F.2.1⟩

end Go.Proofs.YtpjbkaibgajpcaaGreat
