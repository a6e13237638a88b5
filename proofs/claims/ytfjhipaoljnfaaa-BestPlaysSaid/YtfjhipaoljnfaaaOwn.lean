/-
  Rows that the call itself owns, several side by side; one more element at the end of one of them.
-/
import Derived.Test.YtfjhipaoljnfaaaBase
import Derived.Deep.AppendLies
namespace Go.Proofs.Ytfjhipaoljnfaaa
open Go.RowKit

section
variable {P : Program}

/-- the row of a type: its slice type t, element e of size cells and bytes bytes, zero z -/
structure RowTy (P : Program) (t e size bytes : Nat) (z : Value) : Prop where
  ty : P.underlying t = some (.slice e)
  info : (P.info? e).map (fun i => (i.zero, i.size, i.bytes)) = some (some z, size, bytes)
  zs : z.cells.size = size
  pos : 0 < size

/-- append(v, x) where x's cells have just been laid in a block of their own -/
theorem run_push {t e size bytes : Nat} {z : Value} (R : RowTy P t e size bytes z) {w : World} {base : Nat} {v : Value} {n : Nat} {xs : List Value} (hown : w.ownsRow base e size v n xs) (hbase : base ≤ w.heap.size)
    (cs : Array Value) (hcs : cs.size = size) (h1 : ∀ u ∈ cs.toList, u.oneCell' = true) (h63 : n + 1 ≤ maxLen) (hbytes : (n + 1) * bytes ≤ 140737488355328) :
    ∃ g cap w', (∀ ty, (Builtin.append_ #[t, t] ty #[v, .slice (some ⟨w.heap.size, 0, none⟩) 1 1]).run P (w.alloc (.cells cs e)) = .ok (.slice (some ⟨g, 0, none⟩) (n + 1) cap) w') ∧
      w'.ownsRow base e size (.slice (some ⟨g, 0, none⟩) (n + 1) cap) (n + 1) (xs ++ cs.toList) ∧ (w.alloc (.cells cs e)).grownBy w' v.ownBlock ∧ (v.ownBlock = some g ∨ g = w.heap.size + 1) ∧ g < w'.heap.size := by
  obtain ⟨i, hi, hz, hs, hb⟩ := info_parts R.info
  obtain ⟨g, cap, w', hr, h2, h3, h4, h5⟩ := run_append_lies (P := P) (w.alloc (.cells cs e)) t 0 base e i z size bytes R.ty hi hz hs hb R.zs R.pos v n xs (hown.alloc _) ⟨w.heap.size, 0, none⟩ 1 1 cs.toList (by simp [hcs])
    (World.news_of_block (cs := cs) (t := e) (fr := (0, 0)) (heap_alloc_new w _)) h1 (by omega) h63 hbytes (by simp; omega) (w.heap.size + 1) (by simp)
  exact ⟨g, cap, w', fun ty => hr, h2, h3, h4, h5⟩

/-- an append whose run is known, at its place in a list of operations -/
theorem wpList_append_eq {w : World} {ops : Array Oper} {rest : List Oper} {o : Oper} {a : Act} {Q : Exit → Act → World → Prop} {t : TypeId} {vs vx v' : Value} {w' : World}
    (hrun : ∀ ty, (Builtin.append_ #[t, t] ty #[vs, vx]).run P w = .ok v' w') (hg : o.guard = none) (s x : Operand)
    (hop : o.op = Op.call { callee := Callee.builtin Builtin.append, args := #[s, x], argTypes := #[t, t] }) (hs : a.eval s = vs) (hx : a.eval x = vx)
    (h : wpList P ops Q rest (a.put o.dst v') w') : wpList P ops Q (o :: rest) a w := by
  refine wpList_plain hg fun K hK => ?_
  have hr := hrun o.type
  unfold Oper.wp execOp
  simp only [hop, resolve, invoke, builtin, Sem.run_bind, Sem.run_pure, Result.andThen_ok, List.map_toArray, List.map_cons, List.map_nil, hs, hx, hr]
  exact hK _ _ h

/-- the same at the operation itself -/
theorem wp_append_eq {w : World} {o : Oper} {a : Act} {K : Act → World → Prop} {Q : Exit → Act → World → Prop} {t : TypeId} {vs vx v' : Value} {w' : World}
    (hrun : ∀ ty, (Builtin.append_ #[t, t] ty #[vs, vx]).run P w = .ok v' w') (s x : Operand)
    (hop : o.op = Op.call { callee := Callee.builtin Builtin.append, args := #[s, x], argTypes := #[t, t] }) (hs : a.eval s = vs) (hx : a.eval x = vx)
    (h : K (a.put o.dst v') w') : o.wp P a w K Q := by
  have hr := hrun o.type
  unfold Oper.wp execOp
  simp only [hop, resolve, invoke, builtin, Sem.run_bind, Sem.run_pure, Result.andThen_ok, List.map_toArray, List.map_cons, List.map_nil, hs, hx, hr]
  exact h

theorem own_form {w : World} {base e size n : Nat} {v : Value} {xs : List Value} (h : w.ownsRow base e size v n xs) : ∃ q m c, v = .slice q m c := by
  rcases h.2 with ⟨rfl, _⟩ | ⟨g, cap, cur, hv, _⟩
  · exact ⟨_, _, _, rfl⟩
  · exact ⟨_, _, _, hv⟩

theorem own_mono {w : World} {base base' e size n : Nat} {v : Value} {xs : List Value} (h : w.ownsRow base e size v n xs) (hb : base' ≤ base) : w.ownsRow base' e size v n xs := by
  refine ⟨h.1, ?_⟩
  rcases h.2 with h2 | ⟨g, cap, cur, hv, hg, r⟩
  · exact .inl h2
  · exact .inr ⟨g, cap, cur, hv, Nat.le_trans hb hg, r⟩

theorem own_below {w w' : World} {base e size n : Nat} {v : Value} {xs : List Value} (h : w.ownsRow base e size v n xs) (hb : Below w.heap.size w w') : w'.ownsRow base e size v n xs :=
  h.kept (row := none) ⟨hb.os, hb.tape, hb.output, hb.size, fun k hk _ => hb.block k hk⟩ (by
    cases hv : v.ownBlock with
    | none => exact .inl rfl
    | some b => exact .inr (by simp))

/-- rows of the call's own, each apart from the others -/
structure OwnList (w : World) (B e size : Nat) (l : List (Value × Nat × List Value)) : Prop where
  own : ∀ p ∈ l, w.ownsRow B e size p.1 p.2.1 p.2.2
  apart : l.Pairwise fun p q => p.1.ownBlock = none ∨ p.1.ownBlock ≠ q.1.ownBlock

theorem OwnList.kept {w w' : World} {B e size : Nat} {l : List (Value × Nat × List Value)} (h : OwnList w B e size l) (hg : w.grownBy w' none) : OwnList w' B e size l :=
  ⟨fun p hp => (h.own p hp).kept hg (by
    cases hb : p.1.ownBlock with
    | none => exact .inl rfl
    | some b => exact .inr (by simp)), h.apart⟩

theorem OwnList.get {w : World} {B e size : Nat} {l : List (Value × Nat × List Value)} (h : OwnList w B e size l) (i : Nat) {p : Value × Nat × List Value} (hp : l[i]? = some p) : w.ownsRow B e size p.1 p.2.1 p.2.2 :=
  h.own p (List.mem_of_getElem? hp)

theorem OwnList.push {t e size bytes : Nat} {z : Value} (R : RowTy P t e size bytes z) {w : World} {B : Nat} {l : List (Value × Nat × List Value)} (h : OwnList w B e size l) (hB : B ≤ w.heap.size) (i : Nat) {v : Value} {n : Nat} {xs : List Value}
    (hi : l[i]? = some (v, n, xs)) (cs : Array Value) (hcs : cs.size = size) (h1 : ∀ u ∈ cs.toList, u.oneCell' = true) (h63 : n + 1 ≤ maxLen) (hbytes : (n + 1) * bytes ≤ 140737488355328) :
    ∃ g cap w', (∀ ty, (Builtin.append_ #[t, t] ty #[v, .slice (some ⟨w.heap.size, 0, none⟩) 1 1]).run P (w.alloc (.cells cs e)) = .ok (.slice (some ⟨g, 0, none⟩) (n + 1) cap) w') ∧
      OwnList w' B e size (l.set i (.slice (some ⟨g, 0, none⟩) (n + 1) cap, n + 1, xs ++ cs.toList)) ∧ Below B w w' ∧ w.heap.size + 1 ≤ w'.heap.size := by
  have hown := h.get i hi
  obtain ⟨g, cap, w', hr, h2, h3, h4, h5⟩ := run_push R hown hB cs hcs h1 h63 hbytes
  have hlt : ∀ p ∈ l, ∀ b, p.1.ownBlock = some b → B ≤ b ∧ b < w.heap.size := fun p hp b hb => (h.own p hp).lt b hb
  obtain ⟨hil, hie⟩ := List.getElem?_eq_some_iff.1 hi
  have hne : ∀ j (hj : j < l.length), j ≠ i → l[j].1.ownBlock = none ∨ (l[j].1.ownBlock ≠ v.ownBlock ∧ l[j].1.ownBlock ≠ some g) := by
    intro j hj hji
    have hp := List.pairwise_iff_getElem.1 h.apart
    cases hb : l[j].1.ownBlock with
    | none => exact .inl rfl
    | some b =>
      right
      have hbl := hlt l[j] (List.getElem_mem hj) b hb
      have hnv : some b ≠ v.ownBlock := by
        rcases Nat.lt_or_ge j i with hlt' | hge
        · have := hp j i hj hil hlt'
          rw [hie, hb] at this
          simpa using this
        · have := hp i j hil hj (by omega)
          rw [hie, hb] at this
          rcases this with h0 | h0
          · simp only at h0; rw [h0]; simp
          · exact fun e => h0 e.symm
      refine ⟨hnv, fun e => ?_⟩
      simp only [Option.some.injEq] at e
      subst e
      rcases h4 with h4 | h4
      · exact hnv h4.symm
      · omega
  refine ⟨g, cap, w', hr, ⟨fun p hp => ?_, ?_⟩, ?_, by have := h3.size; simp at this; omega⟩
  · obtain ⟨j, hj, rfl⟩ := List.mem_iff_getElem.1 hp
    simp only [List.length_set] at hj
    rw [List.getElem_set]
    split
    · exact h2
    · rename_i hij
      have := hne j hj (fun e => hij e.symm)
      refine ((h.own l[j] (List.getElem_mem hj)).alloc _).kept h3 ?_
      rcases this with h0 | ⟨h0, _⟩
      · exact .inl h0
      · exact .inr h0
  · rw [List.pairwise_iff_getElem]
    intro a b ha hb hab
    simp only [List.length_set] at ha hb
    rw [List.getElem_set, List.getElem_set]
    have hp := List.pairwise_iff_getElem.1 h.apart a b ha hb hab
    split
    · rename_i hia
      subst hia
      rw [if_neg (by omega)]
      right
      have := hne b hb (by omega)
      show some g ≠ l[b].1.ownBlock
      rcases this with h0 | ⟨_, h0⟩
      · rw [h0]; simp
      · exact fun e => h0 e.symm
    · rename_i hia
      split
      · rename_i hib
        subst hib
        have := hne a ha (fun e => hia e.symm)
        rcases this with h0 | ⟨_, h0⟩
        · exact .inl h0
        · exact .inr h0
      · exact hp
  · exact ((Below.refl B w).alloc hB _).grown h3 (by simp; omega) (by intro b hb; exact (hown.lt b hb).1)

end

end Go.Proofs.Ytfjhipaoljnfaaa
