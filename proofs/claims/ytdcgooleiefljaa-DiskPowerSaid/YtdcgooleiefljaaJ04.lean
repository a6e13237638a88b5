/-
  Rows that the call itself owns, several side by side; one more element at the end of one of them.
  Slices of pairs: a number and a vector each (api.Op, chain.Version, maze's nodes).
  What a call may turn: the blocks of a set F, and new ones. Data with the set of blocks that it is read from.
-/
import Derived.Test.YtdcgooleiefljaaJ01
import Derived.Deep.AppendLies
namespace Go.Proofs.Ytdcgooleiefljaa
open Go.RowKit

section
variable {P : Program}

/-- the row of a type: its slice type t, element e of size cells and bytes bytes, zero z -/
structure RowTy (P : Program) (t e size bytes : Nat) (z : Value) : Prop where
  ty : P.underlying t = some (.slice e)
  info : (P.info? e).map (fun i => (i.zero, i.size, i.bytes)) = some (some z, size, bytes)
  zs : z.cells.size = size
  pos : 0 < size

/-- append(v, x) where x's cells have just been laid in a block of their own -/
theorem run_push {t e size bytes : Nat} {z : Value} (R : RowTy P t e size bytes z) {w : World} {base : Nat} {v : Value} {n : Nat} {xs : List Value} (hown : w.ownsRow base e size v n xs) (hbase : base ≤ w.heap.size)
    (cs : Array Value) (hcs : cs.size = size) (h1 : ∀ u ∈ cs.toList, u.oneCell' = true) (h63 : n + 1 ≤ maxLen) (hbytes : (n + 1) * bytes ≤ 140737488355328) :
    ∃ g cap w', (∀ ty, (Builtin.append_ #[t, t] ty #[v, .slice (some ⟨w.heap.size, 0, none⟩) 1 1]).run P (w.alloc (.cells cs e)) = .ok (.slice (some ⟨g, 0, none⟩) (n + 1) cap) w') ∧
      w'.ownsRow base e size (.slice (some ⟨g, 0, none⟩) (n + 1) cap) (n + 1) (xs ++ cs.toList) ∧ (w.alloc (.cells cs e)).grownBy w' v.ownBlock ∧ (v.ownBlock = some g ∨ g = w.heap.size + 1) ∧ g < w'.heap.size := by
  obtain ⟨i, hi, hz, hs, hb⟩ := info_parts R.info
  obtain ⟨g, cap, w', hr, h2, h3, h4, h5⟩ := run_append_lies (P := P) (w.alloc (.cells cs e)) t 0 base e i z size bytes R.ty hi hz hs hb R.zs R.pos v n xs (hown.alloc _) ⟨w.heap.size, 0, none⟩ 1 1 cs.toList (by simp [hcs])
    (World.news_of_block (cs := cs) (t := e) (fr := (0, 0)) (heap_alloc_new w _)) h1 (by omega) h63 hbytes (by simp; omega) (w.heap.size + 1) (by simp)
  exact ⟨g, cap, w', fun ty => hr, h2, h3, h4, h5⟩

/-- an append whose run is known, at its place in a list of operations -/
theorem wpList_append_eq {w : World} {ops : Array Oper} {rest : List Oper} {o : Oper} {a : Act} {Q : Exit → Act → World → Prop} {t : TypeId} {vs vx v' : Value} {w' : World}
    (hrun : ∀ ty, (Builtin.append_ #[t, t] ty #[vs, vx]).run P w = .ok v' w') (hg : o.guard = none) (s x : Operand)
    (hop : o.op = Op.call { callee := Callee.builtin Builtin.append, args := #[s, x], argTypes := #[t, t] }) (hs : a.eval s = vs) (hx : a.eval x = vx)
    (h : wpList P ops Q rest (a.put o.dst v') w') : wpList P ops Q (o :: rest) a w := by
  refine wpList_plain hg fun K hK => ?_
  have hr := hrun o.type
  unfold Oper.wp execOp
  simp only [hop, resolve, invoke, builtin, Sem.run_bind, Sem.run_pure, Result.andThen_ok, List.map_toArray, List.map_cons, List.map_nil, hs, hx, hr]
  exact hK _ _ h

/-- the same at the operation itself -/
theorem wp_append_eq {w : World} {o : Oper} {a : Act} {K : Act → World → Prop} {Q : Exit → Act → World → Prop} {t : TypeId} {vs vx v' : Value} {w' : World}
    (hrun : ∀ ty, (Builtin.append_ #[t, t] ty #[vs, vx]).run P w = .ok v' w') (s x : Operand)
    (hop : o.op = Op.call { callee := Callee.builtin Builtin.append, args := #[s, x], argTypes := #[t, t] }) (hs : a.eval s = vs) (hx : a.eval x = vx)
    (h : K (a.put o.dst v') w') : o.wp P a w K Q := by
  have hr := hrun o.type
  unfold Oper.wp execOp
  simp only [hop, resolve, invoke, builtin, Sem.run_bind, Sem.run_pure, Result.andThen_ok, List.map_toArray, List.map_cons, List.map_nil, hs, hx, hr]
  exact h

theorem own_form {w : World} {base e size n : Nat} {v : Value} {xs : List Value} (h : w.ownsRow base e size v n xs) : ∃ q m c, v = .slice q m c := by
  rcases h.2 with ⟨rfl, _⟩ | ⟨g, cap, cur, hv, _⟩
  · exact ⟨_, _, _, rfl⟩
  · exact ⟨_, _, _, hv⟩

theorem own_mono {w : World} {base base' e size n : Nat} {v : Value} {xs : List Value} (h : w.ownsRow base e size v n xs) (hb : base' ≤ base) : w.ownsRow base' e size v n xs := by
  refine ⟨h.1, ?_⟩
  rcases h.2 with h2 | ⟨g, cap, cur, hv, hg, r⟩
  · exact .inl h2
  · exact .inr ⟨g, cap, cur, hv, Nat.le_trans hb hg, r⟩

theorem own_below {w w' : World} {base e size n : Nat} {v : Value} {xs : List Value} (h : w.ownsRow base e size v n xs) (hb : Below w.heap.size w w') : w'.ownsRow base e size v n xs :=
  h.kept (row := none) ⟨hb.os, hb.tape, hb.output, hb.size, fun k hk _ => hb.block k hk⟩ (by
    cases hv : v.ownBlock with
    | none => exact .inl rfl
    | some b => exact .inr (by simp))

/-- rows of the call's own, each apart from the others -/
structure OwnList (w : World) (B e size : Nat) (l : List (Value × Nat × List Value)) : Prop where
  own : ∀ p ∈ l, w.ownsRow B e size p.1 p.2.1 p.2.2
  apart : l.Pairwise fun p q => p.1.ownBlock = none ∨ p.1.ownBlock ≠ q.1.ownBlock

theorem OwnList.kept {w w' : World} {B e size : Nat} {l : List (Value × Nat × List Value)} (h : OwnList w B e size l) (hg : w.grownBy w' none) : OwnList w' B e size l :=
  ⟨fun p hp => (h.own p hp).kept hg (by
    cases hb : p.1.ownBlock with
    | none => exact .inl rfl
    | some b => exact .inr (by simp)), h.apart⟩

theorem OwnList.get {w : World} {B e size : Nat} {l : List (Value × Nat × List Value)} (h : OwnList w B e size l) (i : Nat) {p : Value × Nat × List Value} (hp : l[i]? = some p) : w.ownsRow B e size p.1 p.2.1 p.2.2 :=
  h.own p (List.mem_of_getElem? hp)

theorem OwnList.push {t e size bytes : Nat} {z : Value} (R : RowTy P t e size bytes z) {w : World} {B : Nat} {l : List (Value × Nat × List Value)} (h : OwnList w B e size l) (hB : B ≤ w.heap.size) (i : Nat) {v : Value} {n : Nat} {xs : List Value}
    (hi : l[i]? = some (v, n, xs)) (cs : Array Value) (hcs : cs.size = size) (h1 : ∀ u ∈ cs.toList, u.oneCell' = true) (h63 : n + 1 ≤ maxLen) (hbytes : (n + 1) * bytes ≤ 140737488355328) :
    ∃ g cap w', (∀ ty, (Builtin.append_ #[t, t] ty #[v, .slice (some ⟨w.heap.size, 0, none⟩) 1 1]).run P (w.alloc (.cells cs e)) = .ok (.slice (some ⟨g, 0, none⟩) (n + 1) cap) w') ∧
      OwnList w' B e size (l.set i (.slice (some ⟨g, 0, none⟩) (n + 1) cap, n + 1, xs ++ cs.toList)) ∧ Below B w w' ∧ w.heap.size + 1 ≤ w'.heap.size := by
  have hown := h.get i hi
  obtain ⟨g, cap, w', hr, h2, h3, h4, h5⟩ := run_push R hown hB cs hcs h1 h63 hbytes
  have hlt : ∀ p ∈ l, ∀ b, p.1.ownBlock = some b → B ≤ b ∧ b < w.heap.size := fun p hp b hb => (h.own p hp).lt b hb
  obtain ⟨hil, hie⟩ := List.getElem?_eq_some_iff.1 hi
  have hne : ∀ j (hj : j < l.length), j ≠ i → l[j].1.ownBlock = none ∨ (l[j].1.ownBlock ≠ v.ownBlock ∧ l[j].1.ownBlock ≠ some g) := by
    intro j hj hji
    have hp := List.pairwise_iff_getElem.1 h.apart
    cases hb : l[j].1.ownBlock with
    | none => exact .inl rfl
    | some b =>
      right
      have hbl := hlt l[j] (List.getElem_mem hj) b hb
      have hnv : some b ≠ v.ownBlock := by
        rcases Nat.lt_or_ge j i with hlt' | hge
        · have := hp j i hj hil hlt'
          rw [hie, hb] at this
          simpa using this
        · have := hp i j hil hj (by omega)
          rw [hie, hb] at this
          rcases this with h0 | h0
          · simp only at h0; rw [h0]; simp
          · exact fun e => h0 e.symm
      refine ⟨hnv, fun e => ?_⟩
      simp only [Option.some.injEq] at e
      subst e
      rcases h4 with h4 | h4
      · exact hnv h4.symm
      · omega
  refine ⟨g, cap, w', hr, ⟨fun p hp => ?_, ?_⟩, ?_, by have := h3.size; simp at this; omega⟩
  · obtain ⟨j, hj, rfl⟩ := List.mem_iff_getElem.1 hp
    simp only [List.length_set] at hj
    rw [List.getElem_set]
    split
    · exact h2
    · rename_i hij
      have := hne j hj (fun e => hij e.symm)
      refine ((h.own l[j] (List.getElem_mem hj)).alloc _).kept h3 ?_
      rcases this with h0 | ⟨h0, _⟩
      · exact .inl h0
      · exact .inr h0
  · rw [List.pairwise_iff_getElem]
    intro a b ha hb hab
    simp only [List.length_set] at ha hb
    rw [List.getElem_set, List.getElem_set]
    have hp := List.pairwise_iff_getElem.1 h.apart a b ha hb hab
    split
    · rename_i hia
      subst hia
      rw [if_neg (by omega)]
      right
      have := hne b hb (by omega)
      show some g ≠ l[b].1.ownBlock
      rcases this with h0 | ⟨_, h0⟩
      · rw [h0]; simp
      · exact fun e => h0 e.symm
    · rename_i hia
      split
      · rename_i hib
        subst hib
        have := hne a ha (fun e => hia e.symm)
        rcases this with h0 | ⟨_, h0⟩
        · exact .inl h0
        · exact .inr h0
      · exact hp
  · exact ((Below.refl B w).alloc hB _).grown h3 (by simp; omega) (by intro b hb; exact (hown.lt b hb).1)

end

end Go.Proofs.Ytdcgooleiefljaa

namespace Go.Proofs.Ytdcgooleiefljaa
open Go.RowKit

theorem Nums.of_own {w : World} {base e : Nat} {k : IntKind} {v : Value} {n : Nat} {xs : List Int} (h : w.ownsRow base e 1 v n (xs.map (Value.int k))) : Nums w k v xs := by
  obtain ⟨h1, h2⟩ := h
  have hn : n = xs.length := by simpa using h1.symm
  subst hn
  rcases h2 with ⟨h2, h3⟩ | ⟨g, cap, cur, hv, hb, hg, hn, hc, hs, ht⟩
  · obtain rfl : xs = [] := List.eq_nil_of_length_eq_zero h3
    exact ⟨by simp, none, 0, h2, by simp, by simp, by simp, fun j u hj => by simp at hj⟩
  · refine ⟨by simp, _, cap, hv, hn, by simpa [maxLen] using hc, by simp, fun j u hj => ⟨g, 0, rfl, ?_⟩⟩
    rw [← ht, List.getElem?_take] at hj
    split at hj
    · simp [World.cell?, hg]; simpa using hj
    · cases hj

theorem lt_block {w : World} {b : Nat} {o : Obj} (h : w.heap[b]? = some o) : b < w.heap.size := (Array.getElem?_eq_some_iff.1 h).1

/-- a slice of pairs reads so -/
def Recs (w : World) (v : Value) (l : List (Int × List Int)) : Prop :=
  ∃ p cap, v = .slice p l.length cap ∧ l.length ≤ cap ∧ cap ≤ 9223372036854775807 ∧ (p = none → cap = 0) ∧
    ∀ i (hi : i < l.length), ∃ b off u, p = some ⟨b, off, none⟩ ∧ w.cell? ⟨b, off + i * 2, none⟩ = some (.int .u64 l[i].1) ∧ w.cell? ⟨b, off + i * 2 + 1, none⟩ = some u ∧ Nums w .i32 u l[i].2

theorem Recs.below {w w' : World} {v : Value} {l : List (Int × List Int)} (h : Recs w v l) (hb : Below w.heap.size w w') : Recs w' v l := by
  obtain ⟨p, cap, hv, h1, h2, h3, h4⟩ := h
  refine ⟨p, cap, hv, h1, h2, h3, fun i hi => ?_⟩
  obtain ⟨b, off, u, hp, c0, c1, hn⟩ := h4 i hi
  exact ⟨b, off, u, hp, by rw [hb.cell (lt_of_cell c0)]; exact c0, by rw [hb.cell (lt_of_cell c1)]; exact c1, hn.below hb⟩

theorem Recs.elem {w : World} {p : Option Addr} {n cap : Nat} {l : List (Int × List Int)} (h : Recs w (.slice p n cap) l) {i : Nat} (hi : i < l.length) :
    ∃ b off u, p = some ⟨b, off, none⟩ ∧ w.cell? ⟨b, off + i * 2, none⟩ = some (.int .u64 l[i].1) ∧ w.cell? ⟨b, off + i * 2 + 1, none⟩ = some u ∧ Nums w .i32 u l[i].2 := by
  obtain ⟨p', cap', hv, _, _, _, h⟩ := h
  simp only [Value.slice.injEq] at hv
  obtain ⟨rfl, _, _⟩ := hv
  exact h i hi

/-- the cells of pairs, their vectors as values -/
def flat2 : List (Int × Value) → List Value
  | [] => []
  | r :: rs => .int .u64 r.1 :: r.2 :: flat2 rs

theorem flat2_length (rs : List (Int × Value)) : (flat2 rs).length = rs.length * 2 := by
  induction rs with
  | nil => rfl
  | cons r rs ih => simp [flat2, ih]; omega

theorem flat2_append (rs ss : List (Int × Value)) : flat2 (rs ++ ss) = flat2 rs ++ flat2 ss := by
  induction rs with
  | nil => rfl
  | cons r rs ih => simp [flat2, ih]

theorem flat2_get (rs : List (Int × Value)) (i : Nat) (hi : i < rs.length) : (flat2 rs)[i * 2]? = some (.int .u64 rs[i].1) ∧ (flat2 rs)[i * 2 + 1]? = some rs[i].2 := by
  induction rs generalizing i with
  | nil => simp at hi
  | cons r rs ih =>
    cases i with
    | zero => simp [flat2]
    | succ i =>
      have := ih i (by simpa using hi)
      have e1 : (i + 1) * 2 = i * 2 + 1 + 1 := by omega
      rw [e1]
      simp only [flat2, List.getElem?_cons_succ, List.getElem_cons_succ]
      exact this

/-- two owned rows of unlike element types lie apart -/
theorem own_apart {w : World} {B B' e e' size size' n n' : Nat} {v u : Value} {xs ys : List Value} (h : w.ownsRow B e size v n xs) (g : w.ownsRow B' e' size' u n' ys) (hne : e ≠ e') : v.ownBlock = none ∨ v.ownBlock ≠ u.ownBlock := by
  rcases h.2 with ⟨rfl, _⟩ | ⟨b, cap, cur, rfl, _, hb, _⟩
  · exact .inl rfl
  · right
    rcases g.2 with ⟨rfl, _⟩ | ⟨b', cap', cur', rfl, _, hb', _⟩
    · simp [Value.ownBlock]
    · simp only [Value.ownBlock, ne_eq, Option.some.injEq]
      rintro rfl
      rw [hb] at hb'
      simp only [Option.some.injEq, Obj.cells.injEq] at hb'
      exact hne hb'.2.1

/-- pairs whose vectors are rows of the call's own (from B on; of the element type E), each apart from the others -/
structure Held2 (w : World) (B E : Nat) (rs : List (Int × Value)) (l : List (Int × List Int)) : Prop where
  len : rs.length = l.length
  own : ∀ i (h1 : i < rs.length) (h2 : i < l.length), rs[i].1 = l[i].1 ∧ w.ownsRow B E 1 rs[i].2 l[i].2.length (l[i].2.map (Value.int .i32))
  apart : rs.Pairwise fun p q => p.2.ownBlock = none ∨ p.2.ownBlock ≠ q.2.ownBlock

theorem Held2.nil (w : World) (B E : Nat) : Held2 w B E [] [] := ⟨rfl, fun i h _ => absurd h (by simp), List.Pairwise.nil⟩

theorem Held2.below {w w' : World} {B E : Nat} {rs : List (Int × Value)} {l : List (Int × List Int)} (h : Held2 w B E rs l) (hb : Below w.heap.size w w') : Held2 w' B E rs l :=
  ⟨h.len, fun i h1 h2 => ⟨(h.own i h1 h2).1, own_below (h.own i h1 h2).2 hb⟩, h.apart⟩

/-- a row of another element type is written -/
theorem Held2.other {w w' : World} {B E B' e size n : Nat} {v : Value} {xs : List Value} {rs : List (Int × Value)} {l : List (Int × List Int)} (h : Held2 w B E rs l) (ho : w.ownsRow B' e size v n xs) (hne : E ≠ e) (hg : w.grownBy w' v.ownBlock) : Held2 w' B E rs l :=
  ⟨h.len, fun i h1 h2 => ⟨(h.own i h1 h2).1, (h.own i h1 h2).2.kept hg (own_apart (h.own i h1 h2).2 ho hne)⟩, h.apart⟩

theorem Held2.lt {w : World} {B E : Nat} {rs : List (Int × Value)} {l : List (Int × List Int)} (h : Held2 w B E rs l) {r : Int × Value} (hr : r ∈ rs) : ∀ b, r.2.ownBlock = some b → B ≤ b ∧ b < w.heap.size := by
  obtain ⟨i, hi, rfl⟩ := List.mem_iff_getElem.1 hr
  exact (h.own i hi (by rw [← h.len]; exact hi)).2.lt

theorem Held2.snoc {w : World} {B E : Nat} {rs : List (Int × Value)} {l : List (Int × List Int)} (h : Held2 w B E rs l) {x : Int} {u : Value} {xs : List Int} (hn : w.ownsRow B E 1 u xs.length (xs.map (Value.int .i32)))
    (hap : ∀ r ∈ rs, r.2.ownBlock = none ∨ r.2.ownBlock ≠ u.ownBlock) : Held2 w B E (rs ++ [(x, u)]) (l ++ [(x, xs)]) := by
  refine ⟨by simp [h.len], fun i h1 h2 => ?_, ?_⟩
  · simp only [List.length_append, List.length_cons, List.length_nil] at h1 h2
    rcases Nat.lt_or_ge i rs.length with hi | hi
    · rw [List.getElem_append_left hi, List.getElem_append_left (by rw [← h.len]; exact hi)]
      exact h.own i hi _
    · have e1 : i = rs.length := by omega
      subst e1
      rw [List.getElem_append_right (by omega)]
      have e2 : l.length ≤ rs.length := by rw [h.len]; exact Nat.le_refl _
      rw [List.getElem_append_right e2]
      simp [h.len, hn]
  · rw [List.pairwise_append]
    exact ⟨h.apart, List.pairwise_singleton _ _, fun r hr y hy => by simp only [List.mem_singleton] at hy; subst hy; exact hap r hr⟩

theorem Recs.of_own {w : World} {B e n : Nat} {v : Value} {rs : List (Int × Value)} {l : List (Int × List Int)} {B' E : Nat} (h : w.ownsRow B e 2 v n (flat2 rs)) (hh : Held2 w B' E rs l) : Recs w v l := by
  obtain ⟨h1, h2⟩ := h
  rw [flat2_length] at h1
  have hn : n = l.length := by have := hh.len; omega
  subst hn
  rcases h2 with ⟨h2, h3⟩ | ⟨g, cap, cur, hv, hb, hg, hn, hc, hs, ht⟩
  · have : l = [] := List.eq_nil_of_length_eq_zero h3
    subst this
    exact ⟨none, 0, h2, by simp, by simp, by simp, fun i hi => absurd hi (by simp)⟩
  · refine ⟨_, cap, hv, hn, by simpa [maxLen] using hc, by simp, fun i hi => ?_⟩
    have hir : i < rs.length := by rw [hh.len]; exact hi
    have hf := flat2_get rs i hir
    have ha := hh.own i hir hi
    have hcell : ∀ j u, (flat2 rs)[j]? = some u → w.cell? ⟨g, j, none⟩ = some u := by
      intro j u hj
      rw [← ht, List.getElem?_take] at hj
      split at hj
      · simp only [World.cell?, hg]; simpa using hj
      · cases hj
    refine ⟨g, 0, rs[i].2, rfl, ?_, ?_, Nums.of_own ha.2⟩
    · rw [Nat.zero_add, ← ha.1]; exact hcell _ _ hf.1
    · rw [Nat.zero_add]; exact hcell _ _ hf.2

end Go.Proofs.Ytdcgooleiefljaa

namespace Go.Proofs.Ytdcgooleiefljaa
open Go.RowKit

/-- of what was there nothing outside F has turned -/
structure Mod (F : Nat → Prop) (w w' : World) : Prop where
  os : w'.os = w.os
  tape : w'.tape = w.tape
  output : w'.output = w.output
  size : w.heap.size ≤ w'.heap.size
  block : ∀ k, k < w.heap.size → ¬ F k → w'.heap[k]? = w.heap[k]?

theorem Mod.refl (F : Nat → Prop) (w : World) : Mod F w w := ⟨rfl, rfl, rfl, Nat.le_refl _, fun _ _ _ => rfl⟩

theorem Mod.trans {F G : Nat → Prop} {a b c : World} (h : Mod F a b) (g : Mod G b c) (hs : ∀ k, k < a.heap.size → G k → F k) : Mod F a c :=
  ⟨g.os.trans h.os, g.tape.trans h.tape, g.output.trans h.output, Nat.le_trans h.size g.size, fun k hk hf => (g.block k (Nat.lt_of_lt_of_le hk h.size) fun hg => hf (hs k hk hg)).trans (h.block k hk hf)⟩

theorem Mod.mono {F G : Nat → Prop} {a b : World} (h : Mod F a b) (hs : ∀ k, k < a.heap.size → F k → G k) : Mod G a b :=
  ⟨h.os, h.tape, h.output, h.size, fun k hk hg => h.block k hk fun hf => hg (hs k hk hf)⟩

theorem Mod.of_below {F : Nat → Prop} {w w' : World} (h : Below w.heap.size w w') : Mod F w w' := ⟨h.os, h.tape, h.output, h.size, fun k hk _ => h.block k hk⟩

theorem Mod.below {F : Nat → Prop} {B : Nat} {w w' : World} (h : Mod F w w') (hB : B ≤ w.heap.size) (hF : ∀ k, F k → B ≤ k) : Below B w w' :=
  ⟨h.os, h.tape, h.output, h.size, fun k hk => h.block k (by omega) fun hf => by have := hF k hf; omega⟩

/-- what holds below a number, seen from an earlier world -/
theorem Mod.of_belowB {F : Nat → Prop} {B : Nat} {w w' : World} (h : Below B w w') (hF : ∀ k, k < w.heap.size → B ≤ k → F k) : Mod F w w' :=
  ⟨h.os, h.tape, h.output, h.size, fun k hk hf => h.block k (by rcases Nat.lt_or_ge k B with h1 | h1; exact h1; exact absurd (hF k hk h1) hf)⟩

theorem Mod.andBelow {F : Nat → Prop} {a b c : World} (h : Mod F a b) (g : Below b.heap.size b c) : Mod F a c :=
  h.trans (G := fun _ => False) (Mod.of_below g) fun _ _ hf => hf.elim

theorem Mod.setCell {F : Nat → Prop} {a b : World} (h : Mod F a b) {p : Addr} (hp : F p.block ∨ a.heap.size ≤ p.block) (u : Value) : Mod F a (b.setCell p u) :=
  ⟨h.os, h.tape, h.output, by simpa [World.setCell] using h.size, fun k hk hf => by
    rw [Below.heap_setCell _ _ _ _ (by rintro rfl; rcases hp with hp | hp; exact hf hp; omega)]
    exact h.block k hk hf⟩

theorem Mod.grown {F : Nat → Prop} {a b c : World} {row : Option Nat} (h : Mod F a b) (hg : b.grownBy c row) (hr : ∀ k, row = some k → F k ∨ a.heap.size ≤ k) : Mod F a c :=
  ⟨hg.os.trans h.os, hg.tape.trans h.tape, hg.output.trans h.output, Nat.le_trans h.size hg.size, fun k hk hf => by
    rw [hg.block k (Nat.lt_of_lt_of_le hk h.size) (fun e => by rcases hr k e.symm with h1 | h1; exact hf h1; omega)]
    exact h.block k hk hf⟩

theorem Mod.drewN {F : Nat → Prop} {a b : World} (h : Mod F a b) (n : Nat) : Mod F a (b.drewN n) := h.andBelow (below_drewN (Below.refl _ _) n)

/-- w' holds what w holds in the blocks of F -/
def Agree (F : Nat → Prop) (w w' : World) : Prop := ∀ k, F k → w'.heap[k]? = w.heap[k]?

theorem Agree.of_below {F : Nat → Prop} {w w' : World} (h : Below w.heap.size w w') (hl : ∀ k, F k → k < w.heap.size) : Agree F w w' := fun k hk => h.block k (hl k hk)
theorem Agree.of_mod {F G : Nat → Prop} {w w' : World} (h : Mod G w w') (hl : ∀ k, F k → k < w.heap.size) (hd : ∀ k, F k → ¬ G k) : Agree F w w' := fun k hk => h.block k (hl k hk) (hd k hk)
theorem Agree.cell {F : Nat → Prop} {w w' : World} (h : Agree F w w') {a : Addr} (ha : F a.block) : w'.cell? a = w.cell? a := World.cell?_of_block (h _ ha)

/-- the slice lies in F -/
def LiesIn (F : Nat → Prop) (v : Value) (n : Nat) : Prop := 0 < n → ∀ b, v.ownBlock = some b → F b

theorem LiesIn.mono {F G : Nat → Prop} {v : Value} {n : Nat} (h : LiesIn F v n) (hs : ∀ k, F k → G k) : LiesIn G v n := fun hn b hb => hs b (h hn b hb)

theorem Nums.agree {F : Nat → Prop} {w w' : World} {k : IntKind} {v : Value} {xs : List Int} (h : Nums w k v xs) (hl : LiesIn F v xs.length) (ha : Agree F w w') : Nums w' k v xs := by
  obtain ⟨p, cap, rfl, h1, h2, h3, h4⟩ := h.slice
  refine Nums.mk h1 h2 h3 fun i hi => ?_
  obtain ⟨b, off, rfl, hc⟩ := h4 i hi
  exact ⟨b, off, rfl, by rw [ha.cell (hl (by omega) b rfl)]; exact hc⟩

/-- a slice of pairs, and all that they reach, lies in F -/
def RecsF (w : World) (F : Nat → Prop) (v : Value) (l : List (Int × List Int)) : Prop :=
  ∃ p cap, v = .slice p l.length cap ∧ l.length ≤ cap ∧ cap ≤ 9223372036854775807 ∧ (p = none → cap = 0) ∧
    ∀ i (hi : i < l.length), ∃ b off u, p = some ⟨b, off, none⟩ ∧ F b ∧ w.cell? ⟨b, off + i * 2, none⟩ = some (.int .u64 l[i].1) ∧ w.cell? ⟨b, off + i * 2 + 1, none⟩ = some u ∧ Nums w .i32 u l[i].2 ∧ LiesIn F u l[i].2.length

theorem RecsF.recs {w : World} {F : Nat → Prop} {v : Value} {l : List (Int × List Int)} (h : RecsF w F v l) : Recs w v l := by
  obtain ⟨p, cap, hv, h1, h2, h3, h4⟩ := h
  refine ⟨p, cap, hv, h1, h2, h3, fun i hi => ?_⟩
  obtain ⟨b, off, u, hp, _, c0, c1, hn, _⟩ := h4 i hi
  exact ⟨b, off, u, hp, c0, c1, hn⟩

theorem RecsF.agree {w w' : World} {F : Nat → Prop} {v : Value} {l : List (Int × List Int)} (h : RecsF w F v l) (ha : Agree F w w') : RecsF w' F v l := by
  obtain ⟨p, cap, hv, h1, h2, h3, h4⟩ := h
  refine ⟨p, cap, hv, h1, h2, h3, fun i hi => ?_⟩
  obtain ⟨b, off, u, hp, hf, c0, c1, hn, hl⟩ := h4 i hi
  exact ⟨b, off, u, hp, hf, by rw [ha.cell hf]; exact c0, by rw [ha.cell hf]; exact c1, hn.agree hl ha, hl⟩

theorem RecsF.mono {w : World} {F G : Nat → Prop} {v : Value} {l : List (Int × List Int)} (h : RecsF w F v l) (hs : ∀ k, F k → G k) : RecsF w G v l := by
  obtain ⟨p, cap, hv, h1, h2, h3, h4⟩ := h
  refine ⟨p, cap, hv, h1, h2, h3, fun i hi => ?_⟩
  obtain ⟨b, off, u, hp, hf, c0, c1, hn, hl⟩ := h4 i hi
  exact ⟨b, off, u, hp, hs _ hf, c0, c1, hn, hl.mono hs⟩

theorem RecsF.nil (w : World) (F : Nat → Prop) : RecsF w F (.slice none 0 0) [] := ⟨none, 0, rfl, by simp, by simp, by simp, fun i hi => absurd hi (by simp)⟩

theorem RecsF.elem {w : World} {F : Nat → Prop} {p : Option Addr} {n cap : Nat} {l : List (Int × List Int)} (h : RecsF w F (.slice p n cap) l) {i : Nat} (hi : i < l.length) :
    ∃ b off u, p = some ⟨b, off, none⟩ ∧ F b ∧ w.cell? ⟨b, off + i * 2, none⟩ = some (.int .u64 l[i].1) ∧ w.cell? ⟨b, off + i * 2 + 1, none⟩ = some u ∧ Nums w .i32 u l[i].2 ∧ LiesIn F u l[i].2.length := by
  obtain ⟨p', cap', hv, _, _, _, h⟩ := h
  simp only [Value.slice.injEq] at hv
  obtain ⟨rfl, _, _⟩ := hv
  exact h i hi

/-- a row of the call's own in F -/
theorem own_lies {F : Nat → Prop} {v : Value} (h : ∀ b, v.ownBlock = some b → F b) (n : Nat) : LiesIn F v n := fun _ => h

theorem RecsF.of_own {w : World} {F : Nat → Prop} {B e n : Nat} {v : Value} {rs : List (Int × Value)} {l : List (Int × List Int)} (h : w.ownsRow B e 2 v n (flat2 rs)) (hv : ∀ b, v.ownBlock = some b → F b)
    (hlen : rs.length = l.length) (hr : ∀ i (h1 : i < rs.length) (h2 : i < l.length), rs[i].1 = l[i].1 ∧ Nums w .i32 rs[i].2 l[i].2 ∧ LiesIn F rs[i].2 l[i].2.length) : RecsF w F v l := by
  obtain ⟨h1, h2⟩ := h
  rw [flat2_length] at h1
  have hn : n = l.length := by omega
  subst hn
  rcases h2 with ⟨h2, h3⟩ | ⟨g, cap, cur, hvv, hb, hg, hn, hc, hs, ht⟩
  · have : l = [] := List.eq_nil_of_length_eq_zero h3
    subst this
    rw [h2]; exact RecsF.nil _ _
  · refine ⟨_, cap, hvv, hn, by simpa [maxLen] using hc, by simp, fun i hi => ?_⟩
    have hir : i < rs.length := by rw [hlen]; exact hi
    have hf := flat2_get rs i hir
    have ha := hr i hir hi
    have hcell : ∀ j u, (flat2 rs)[j]? = some u → w.cell? ⟨g, j, none⟩ = some u := by
      intro j u hj
      rw [← ht, List.getElem?_take] at hj
      split at hj
      · simp only [World.cell?, hg]; simpa using hj
      · cases hj
    refine ⟨g, 0, rs[i].2, rfl, hv g (by rw [hvv]; rfl), ?_, ?_, ha.2.1, ha.2.2⟩
    · rw [Nat.zero_add, ← ha.1]; exact hcell _ _ hf.1
    · rw [Nat.zero_add]; exact hcell _ _ hf.2

end Go.Proofs.Ytdcgooleiefljaa
