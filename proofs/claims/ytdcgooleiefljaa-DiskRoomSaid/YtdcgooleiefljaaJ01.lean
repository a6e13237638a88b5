/-
  Ground words of this family: how a slice in memory reads as a list of cells, and what a call leaves as it was.
  How a law's contract closes its given row: the answer true, each argument as it read, nothing old turned.
  Rows that the call itself owns, several side by side; one more element at the end of one of them.
-/
import Derived.Test.YtdcgooleiefljaaRows
import Derived.WalkKit
import Derived.WalkSpells
import Derived.WalkLawsBesides
import Derived.Lib.Hide
import Derived.Deep.LoopGhost
import Derived.Deep.QuietTactic
import Derived.BigQuiet
import Derived.Handy
import Derived.ProofKit
import Derived.Deep.AppendLies
namespace Go.Proofs.Ytdcgooleiefljaa
open Go.RowKit

theorem uA1 {α : Type} (l : List α) (i : Nat) (a : α) : l.toArray.setIfInBounds i a = (l.set i a).toArray := List.setIfInBounds_toArray ..
theorem uB1 {α : Type} (x : α) (xs : List α) (a : α) : (x :: xs).set 0 a = a :: xs := List.set_cons_zero ..
theorem uC1 {α : Type} (x : α) (xs : List α) (n : Nat) (a : α) : (x :: xs).set (n + 1) a = x :: xs.set n a := List.set_cons_succ ..

/-- the slice value v of n elements (size cells each) reads in w as the cells xs -/
def Reads (w : World) (v : Value) (size n : Nat) (xs : List Value) : Prop :=
  xs.length = n * size ∧ ∃ p cap, v = .slice p n cap ∧ n ≤ cap ∧ cap ≤ 9223372036854775807 ∧ (p = none → cap = 0) ∧
    ∀ j u, xs[j]? = some u → ∃ b off, p = some ⟨b, off, none⟩ ∧ w.cell? ⟨b, off + j, none⟩ = some u

/-- a slice of numbers of kind k -/
def Nums (w : World) (k : IntKind) (v : Value) (xs : List Int) : Prop := Reads w v 1 xs.length (xs.map (Value.int k))

theorem Nums.slice {w : World} {k : IntKind} {v : Value} {xs : List Int} (h : Nums w k v xs) : ∃ p cap, v = .slice p xs.length cap ∧ xs.length ≤ cap ∧ cap ≤ 9223372036854775807 ∧ (p = none → cap = 0) ∧
    ∀ i (hi : i < xs.length), ∃ b off, p = some ⟨b, off, none⟩ ∧ w.cell? ⟨b, off + i, none⟩ = some (.int k xs[i]) := by
  obtain ⟨_, p, cap, hv, h1, h2, h3, h4⟩ := h
  exact ⟨p, cap, hv, h1, h2, h3, fun i hi => h4 i _ (by simp [List.getElem?_eq_getElem hi])⟩

theorem Nums.mk {w : World} {k : IntKind} {p : Option Addr} {cap : Nat} {xs : List Int} (h1 : xs.length ≤ cap) (h2 : cap ≤ 9223372036854775807) (h3 : p = none → cap = 0)
    (h4 : ∀ i (hi : i < xs.length), ∃ b off, p = some ⟨b, off, none⟩ ∧ w.cell? ⟨b, off + i, none⟩ = some (.int k xs[i])) : Nums w k (.slice p xs.length cap) xs := by
  refine ⟨by simp, p, cap, rfl, h1, h2, h3, fun j u hj => ?_⟩
  rw [List.getElem?_map, Option.map_eq_some_iff] at hj
  obtain ⟨x, hx, rfl⟩ := hj
  obtain ⟨hj', rfl⟩ := List.getElem?_eq_some_iff.1 hx
  exact h4 j hj'

theorem lt_of_cell {w : World} {a : Addr} {v : Value} (h : w.cell? a = some v) : a.block < w.heap.size := by
  refine Nat.lt_of_not_le fun hge => ?_
  simp [World.cell?, Array.getElem?_eq_none hge] at h

theorem Reads.below {w w' : World} {v : Value} {size n : Nat} {xs : List Value} (h : Reads w v size n xs) (hb : Below w.heap.size w w') : Reads w' v size n xs := by
  obtain ⟨h0, p, cap, hv, h1, h2, h3, h4⟩ := h
  refine ⟨h0, p, cap, hv, h1, h2, h3, fun j u hj => ?_⟩
  obtain ⟨b, off, hp, hc⟩ := h4 j u hj
  exact ⟨b, off, hp, by rw [hb.cell (lt_of_cell hc)]; exact hc⟩

theorem Nums.below {w w' : World} {k : IntKind} {v : Value} {xs : List Int} (h : Nums w k v xs) (hb : Below w.heap.size w w') : Nums w' k v xs := Reads.below h hb

theorem Nums.elem {w : World} {k : IntKind} {p : Option Addr} {n cap : Nat} {xs : List Int} (h : Nums w k (.slice p n cap) xs) {j : Nat} (hj : j < xs.length) :
    ∃ b off, p = some ⟨b, off, none⟩ ∧ w.cell? ⟨b, off + j, none⟩ = some (.int k xs[j]) := by
  obtain ⟨p', cap', hv, _, _, _, h⟩ := h.slice
  simp only [Value.slice.injEq] at hv
  obtain ⟨rfl, _, _⟩ := hv
  exact h j hj

theorem below_cells {w w' : World} (hb : Below w.heap.size w w') {a : Addr} {v : Value} (h : w.cell? a = some v) : w'.cell? a = some v := by
  rw [hb.cell (lt_of_cell h)]; exact h

/-- the world but for draws -/
def Drawn (w w' : World) : Prop := ∃ n, w' = w.drewN n
theorem Drawn.refl (w : World) : Drawn w w := ⟨0, rfl⟩
theorem Drawn.drewN {w w' : World} (h : Drawn w w') (m : Nat) : Drawn w (w'.drewN m) := by
  obtain ⟨n, rfl⟩ := h; exact ⟨n + m, by simp⟩
theorem Drawn.below {w w' : World} (h : Drawn w w') : Below w.heap.size w w' := by
  obtain ⟨n, rfl⟩ := h; exact below_drewN (Below.refl _ _) n

theorem sw {P : Program} {f : FuncId} {args : Array Value} {w : World} {v : Value} (h : Calls P f args w fun e w' => e = .returned v ∧ w = w') :
    Calls P f args w fun e w' => e = .returned v ∧ w' = w := h.mono fun _ _ ⟨a, b⟩ => ⟨a, b.symm⟩

theorem ret_eq {a b : Value} (h : a = b) : Ending.returned a = .returned b := by rw [h]
theorem ret_int {k : IntKind} {a b : Int} (h : a = b) : Ending.returned (.int k a) = .returned (.int k b) := by rw [h]
theorem ret_bool {a b : Bool} (h : a = b) : Ending.returned (.bool a) = .returned (.bool b) := by rw [h]
theorem ret_ii {k k' : IntKind} {a b c d : Int} (h : a = c) (h' : b = d) : Ending.returned (.tuple #[.int k a, .int k' b]) = .returned (.tuple #[.int k c, .int k' d]) := by rw [h, h']
theorem ret_two {a b c d : Value} (h : a = c) (h' : b = d) : Ending.returned (.tuple #[a, b]) = .returned (.tuple #[c, d]) := by rw [h, h']

end Go.Proofs.Ytdcgooleiefljaa

namespace Go.Proofs.Ytdcgooleiefljaa
open Go.ChangeShapes Go.WideShapes Go.ChangeAt Go.RowKit

theorem own : ownKnob Try.prog.godebug = none := by kernel_rfl
theorem laidOut : laidOutB Try.prog = true := by kernel_rfl

/-- a law's contract: whatever the world, it answers true, and nothing that was there has turned -/
def Law (f : FuncId) (args : Array Value) (w : World) : Prop := Calls Try.prog f args w fun e w' => e = .returned (.bool true) ∧ Below w.heap.size w w'

theorem trodAll_below {H : Type} {enc : TypeId × Value → H} {W W' : World} (hb : Below W.heap.size W W') : ∀ (ts : List TypeId) (vs : List Value) (ds : List (DataW H)) (ps : List MemPlace),
    (∀ t ∈ ts, Try.prog.readableRec t = true ∧ t < Try.prog.types.size) → DataW.TrodAll enc Try.prog W 0 (fun _ => true) true ts vs ds ps → (∀ x ∈ ps, x.block < W.heap.size) →
    DataW.TrodAll enc Try.prog W' 0 (fun b => decide (b < W.heap.size)) true ts vs ds ps
  | [], [], [], _, _, h, _ => h
  | t :: ts, v :: vs, d :: ds, ps, hr, h, hlt => by
    obtain ⟨p, q, h1, h2, rfl⟩ := h
    have ht := hr t (by simp)
    exact ⟨p, q, Below.trod laidOut ht.1 ht.2 h1 hb fun x hx => hlt x (by simp [hx]), trodAll_below hb ts vs ds q (fun t' ht' => hr t' (by simp [ht'])) h2 fun x hx => hlt x (by simp [hx]), rfl⟩
  | [], _ :: _, _, _, _, h, _ => h.elim
  | [], [], _ :: _, _, _, h, _ => h.elim
  | _ :: _, [], _, _, _, h, _ => h.elim
  | _ :: _, _ :: _, [], _, _, h, _ => h.elim

theorem law_post {H : Type} {enc : TypeId × Value → H} {f : Func} {s : ChangeSpec} {W W' : World} {args : Array Value} {ds : List (DataW H)} {before : List MemPlace}
    (hW : DataW.Whole enc Try.prog f.params.toList s.vars false W args.toList ds [] before) (hvars : s.vars = []) (hres : f.resultTypes = #[4])
    (h1 : (s.fn H (ds ++ [])).results = [.lit (.bool true)]) (h2 : (s.fn H (ds ++ [])).args = ds) (h3 : (s.fn H (ds ++ [])).vars = [])
    (hr : ∀ t ∈ f.params.toList, Try.prog.readableRec t = true ∧ t < Try.prog.types.size) (hb : Below W.heap.size W W') :
    s.post enc Try.prog f false true false false W args (.bool true) W' := by
  have hW' := hW
  obtain ⟨p, q, hA, hV, rfl, _, _⟩ := hW
  rw [hvars] at hV
  obtain ⟨_, rfl⟩ := trodVars_none hV
  refine ⟨ds, [], p ++ [], [], p, [], hW', ?_, ?_, ?_, hb.frame _, fun h => by cases h⟩
  · rw [h1, hres]; exact trodAll_mk1 (shut_bool Try.underlying4 true)
  · rw [h2]; exact trodAll_below hb _ _ _ _ hr hA fun x hx => hW'.lt x (by simp [hx])
  · rw [h3, hvars]; rfl

/-- an argument that is a slice of numbers reads so -/
theorem open_nums {H : Type} {enc : TypeId × Value → H} {W : World} {base t e : TypeId} {k : IntKind} {v : Value} {d : DataW H} {ps : List MemPlace}
    (ht : Try.prog.underlying t = some (.slice e)) (he : Try.prog.underlying e = some (.int k)) (hc : Try.prog.cellsOf e = 1)
    (hok : Value.okWide Try.prog W .any base t v) (h : DataW.Trod enc Try.prog W 0 (fun _ => true) true t v d ps) :
    ∃ xs : List Int, Nums W k v xs ∧ ∀ x ∈ xs, (Lit.int k x).wf = true := by
  obtain ⟨a0, len, cap, rfl⟩ := okWide_slice ht hok
  obtain ⟨fuel, hf⟩ := h
  rcases open_ints ht he hc hf with ⟨hcs, hx⟩ | ⟨a, len', cap', zs, hcs, _, hl, hm, hz, hx, hcell, hwz⟩
  · simp [Value.cells] at hcs
    obtain ⟨rfl, rfl, rfl⟩ := hcs
    exact ⟨[], Nums.mk (xs := []) (by simp) (by simp) (by simp) (by simp), by simp⟩
  · simp [Value.cells] at hcs
    obtain ⟨rfl, rfl, rfl⟩ := hcs
    simp only [if_true] at hz
    have hlen : (zs.take len).length = len := by simp; omega
    refine ⟨zs.take len, ?_, fun x hx => hwz x (List.mem_of_mem_take hx)⟩
    have key : Nums W k (.slice (some a) (zs.take len).length cap) (zs.take len) := by
      refine Nums.mk (by omega) (by simpa [maxLen] using hm) (by simp) fun i hi => ?_
      have hi' : i < zs.length := by omega
      have := hcell i hi'
      obtain ⟨b, off, spot⟩ := a
      obtain rfl : spot = none := by
        simpa [Addr.add] using World.cell?_spot (hcell 0 (by omega))
      rw [Addr.add_lit] at this
      refine ⟨b, off, rfl, ?_⟩
      rw [this]
      simp [List.getD, List.getElem?_eq_getElem hi']
    rw [hlen] at key
    exact key

end Go.Proofs.Ytdcgooleiefljaa

namespace Go.Proofs.Ytdcgooleiefljaa
open Go.RowKit

section
variable {P : Program}

/-- the row of a type: its slice type t, element e of size cells and bytes bytes, zero z -/
structure RowTy (P : Program) (t e size bytes : Nat) (z : Value) : Prop where
  ty : P.underlying t = some (.slice e)
  info : (P.info? e).map (fun i => (i.zero, i.size, i.bytes)) = some (some z, size, bytes)
  zs : z.cells.size = size
  pos : 0 < size

/-- append(v, x) where x's cells have just been laid in a block of their own -/
theorem run_push {t e size bytes : Nat} {z : Value} (R : RowTy P t e size bytes z) {w : World} {base : Nat} {v : Value} {n : Nat} {xs : List Value} (hown : w.ownsRow base e size v n xs) (hbase : base ≤ w.heap.size)
    (cs : Array Value) (hcs : cs.size = size) (h1 : ∀ u ∈ cs.toList, u.oneCell' = true) (h63 : n + 1 ≤ maxLen) (hbytes : (n + 1) * bytes ≤ 140737488355328) :
    ∃ g cap w', (∀ ty, (Builtin.append_ #[t, t] ty #[v, .slice (some ⟨w.heap.size, 0, none⟩) 1 1]).run P (w.alloc (.cells cs e)) = .ok (.slice (some ⟨g, 0, none⟩) (n + 1) cap) w') ∧
      w'.ownsRow base e size (.slice (some ⟨g, 0, none⟩) (n + 1) cap) (n + 1) (xs ++ cs.toList) ∧ (w.alloc (.cells cs e)).grownBy w' v.ownBlock ∧ (v.ownBlock = some g ∨ g = w.heap.size + 1) ∧ g < w'.heap.size := by
  obtain ⟨i, hi, hz, hs, hb⟩ := info_parts R.info
  obtain ⟨g, cap, w', hr, h2, h3, h4, h5⟩ := run_append_lies (P := P) (w.alloc (.cells cs e)) t 0 base e i z size bytes R.ty hi hz hs hb R.zs R.pos v n xs (hown.alloc _) ⟨w.heap.size, 0, none⟩ 1 1 cs.toList (by simp [hcs])
    (World.news_of_block (cs := cs) (t := e) (fr := (0, 0)) (heap_alloc_new w _)) h1 (by omega) h63 hbytes (by simp; omega) (w.heap.size + 1) (by simp)
  exact ⟨g, cap, w', fun ty => hr, h2, h3, h4, h5⟩

/-- an append whose run is known, at its place in a list of operations -/
theorem wpList_append_eq {w : World} {ops : Array Oper} {rest : List Oper} {o : Oper} {a : Act} {Q : Exit → Act → World → Prop} {t : TypeId} {vs vx v' : Value} {w' : World}
    (hrun : ∀ ty, (Builtin.append_ #[t, t] ty #[vs, vx]).run P w = .ok v' w') (hg : o.guard = none) (s x : Operand)
    (hop : o.op = Op.call { callee := Callee.builtin Builtin.append, args := #[s, x], argTypes := #[t, t] }) (hs : a.eval s = vs) (hx : a.eval x = vx)
    (h : wpList P ops Q rest (a.put o.dst v') w') : wpList P ops Q (o :: rest) a w := by
  refine wpList_plain hg fun K hK => ?_
  have hr := hrun o.type
  unfold Oper.wp execOp
  simp only [hop, resolve, invoke, builtin, Sem.run_bind, Sem.run_pure, Result.andThen_ok, List.map_toArray, List.map_cons, List.map_nil, hs, hx, hr]
  exact hK _ _ h

/-- the same at the operation itself -/
theorem wp_append_eq {w : World} {o : Oper} {a : Act} {K : Act → World → Prop} {Q : Exit → Act → World → Prop} {t : TypeId} {vs vx v' : Value} {w' : World}
    (hrun : ∀ ty, (Builtin.append_ #[t, t] ty #[vs, vx]).run P w = .ok v' w') (s x : Operand)
    (hop : o.op = Op.call { callee := Callee.builtin Builtin.append, args := #[s, x], argTypes := #[t, t] }) (hs : a.eval s = vs) (hx : a.eval x = vx)
    (h : K (a.put o.dst v') w') : o.wp P a w K Q := by
  have hr := hrun o.type
  unfold Oper.wp execOp
  simp only [hop, resolve, invoke, builtin, Sem.run_bind, Sem.run_pure, Result.andThen_ok, List.map_toArray, List.map_cons, List.map_nil, hs, hx, hr]
  exact h

theorem own_form {w : World} {base e size n : Nat} {v : Value} {xs : List Value} (h : w.ownsRow base e size v n xs) : ∃ q m c, v = .slice q m c := by
  rcases h.2 with ⟨rfl, _⟩ | ⟨g, cap, cur, hv, _⟩
  · exact ⟨_, _, _, rfl⟩
  · exact ⟨_, _, _, hv⟩

theorem own_mono {w : World} {base base' e size n : Nat} {v : Value} {xs : List Value} (h : w.ownsRow base e size v n xs) (hb : base' ≤ base) : w.ownsRow base' e size v n xs := by
  refine ⟨h.1, ?_⟩
  rcases h.2 with h2 | ⟨g, cap, cur, hv, hg, r⟩
  · exact .inl h2
  · exact .inr ⟨g, cap, cur, hv, Nat.le_trans hb hg, r⟩

theorem own_below {w w' : World} {base e size n : Nat} {v : Value} {xs : List Value} (h : w.ownsRow base e size v n xs) (hb : Below w.heap.size w w') : w'.ownsRow base e size v n xs :=
  h.kept (row := none) ⟨hb.os, hb.tape, hb.output, hb.size, fun k hk _ => hb.block k hk⟩ (by
    cases hv : v.ownBlock with
    | none => exact .inl rfl
    | some b => exact .inr (by simp))

/-- rows of the call's own, each apart from the others -/
structure OwnList (w : World) (B e size : Nat) (l : List (Value × Nat × List Value)) : Prop where
  own : ∀ p ∈ l, w.ownsRow B e size p.1 p.2.1 p.2.2
  apart : l.Pairwise fun p q => p.1.ownBlock = none ∨ p.1.ownBlock ≠ q.1.ownBlock

theorem OwnList.kept {w w' : World} {B e size : Nat} {l : List (Value × Nat × List Value)} (h : OwnList w B e size l) (hg : w.grownBy w' none) : OwnList w' B e size l :=
  ⟨fun p hp => (h.own p hp).kept hg (by
    cases hb : p.1.ownBlock with
    | none => exact .inl rfl
    | some b => exact .inr (by simp)), h.apart⟩

theorem OwnList.get {w : World} {B e size : Nat} {l : List (Value × Nat × List Value)} (h : OwnList w B e size l) (i : Nat) {p : Value × Nat × List Value} (hp : l[i]? = some p) : w.ownsRow B e size p.1 p.2.1 p.2.2 :=
  h.own p (List.mem_of_getElem? hp)

theorem OwnList.push {t e size bytes : Nat} {z : Value} (R : RowTy P t e size bytes z) {w : World} {B : Nat} {l : List (Value × Nat × List Value)} (h : OwnList w B e size l) (hB : B ≤ w.heap.size) (i : Nat) {v : Value} {n : Nat} {xs : List Value}
    (hi : l[i]? = some (v, n, xs)) (cs : Array Value) (hcs : cs.size = size) (h1 : ∀ u ∈ cs.toList, u.oneCell' = true) (h63 : n + 1 ≤ maxLen) (hbytes : (n + 1) * bytes ≤ 140737488355328) :
    ∃ g cap w', (∀ ty, (Builtin.append_ #[t, t] ty #[v, .slice (some ⟨w.heap.size, 0, none⟩) 1 1]).run P (w.alloc (.cells cs e)) = .ok (.slice (some ⟨g, 0, none⟩) (n + 1) cap) w') ∧
      OwnList w' B e size (l.set i (.slice (some ⟨g, 0, none⟩) (n + 1) cap, n + 1, xs ++ cs.toList)) ∧ Below B w w' ∧ w.heap.size + 1 ≤ w'.heap.size := by
  have hown := h.get i hi
  obtain ⟨g, cap, w', hr, h2, h3, h4, h5⟩ := run_push R hown hB cs hcs h1 h63 hbytes
  have hlt : ∀ p ∈ l, ∀ b, p.1.ownBlock = some b → B ≤ b ∧ b < w.heap.size := fun p hp b hb => (h.own p hp).lt b hb
  obtain ⟨hil, hie⟩ := List.getElem?_eq_some_iff.1 hi
  have hne : ∀ j (hj : j < l.length), j ≠ i → l[j].1.ownBlock = none ∨ (l[j].1.ownBlock ≠ v.ownBlock ∧ l[j].1.ownBlock ≠ some g) := by
    intro j hj hji
    have hp := List.pairwise_iff_getElem.1 h.apart
    cases hb : l[j].1.ownBlock with
    | none => exact .inl rfl
    | some b =>
      right
      have hbl := hlt l[j] (List.getElem_mem hj) b hb
      have hnv : some b ≠ v.ownBlock := by
        rcases Nat.lt_or_ge j i with hlt' | hge
        · have := hp j i hj hil hlt'
          rw [hie, hb] at this
          simpa using this
        · have := hp i j hil hj (by omega)
          rw [hie, hb] at this
          rcases this with h0 | h0
          · simp only at h0; rw [h0]; simp
          · exact fun e => h0 e.symm
      refine ⟨hnv, fun e => ?_⟩
      simp only [Option.some.injEq] at e
      subst e
      rcases h4 with h4 | h4
      · exact hnv h4.symm
      · omega
  refine ⟨g, cap, w', hr, ⟨fun p hp => ?_, ?_⟩, ?_, by have := h3.size; simp at this; omega⟩
  · obtain ⟨j, hj, rfl⟩ := List.mem_iff_getElem.1 hp
    simp only [List.length_set] at hj
    rw [List.getElem_set]
    split
    · exact h2
    · rename_i hij
      have := hne j hj (fun e => hij e.symm)
      refine ((h.own l[j] (List.getElem_mem hj)).alloc _).kept h3 ?_
      rcases this with h0 | ⟨h0, _⟩
      · exact .inl h0
      · exact .inr h0
  · rw [List.pairwise_iff_getElem]
    intro a b ha hb hab
    simp only [List.length_set] at ha hb
    rw [List.getElem_set, List.getElem_set]
    have hp := List.pairwise_iff_getElem.1 h.apart a b ha hb hab
    split
    · rename_i hia
      subst hia
      rw [if_neg (by omega)]
      right
      have := hne b hb (by omega)
      show some g ≠ l[b].1.ownBlock
      rcases this with h0 | ⟨_, h0⟩
      · rw [h0]; simp
      · exact fun e => h0 e.symm
    · rename_i hia
      split
      · rename_i hib
        subst hib
        have := hne a ha (fun e => hia e.symm)
        rcases this with h0 | ⟨_, h0⟩
        · exact .inl h0
        · exact .inr h0
      · exact hp
  · exact ((Below.refl B w).alloc hB _).grown h3 (by simp; omega) (by intro b hb; exact (hown.lt b hb).1)

end

end Go.Proofs.Ytdcgooleiefljaa
