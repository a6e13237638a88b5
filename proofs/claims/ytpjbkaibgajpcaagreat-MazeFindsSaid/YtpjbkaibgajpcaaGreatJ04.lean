/- best: slices.Insert at hits, one hit. best: a list in memory; what is put where. -/
import Derived.Test.YtpjbkaibgajpcaaGreatJ03
import Derived.IntWalk
namespace Go.Proofs.YtpjbkaibgajpcaaGreat
open Go.RowKit
set_option maxRecDepth 20000

section
variable {P : Program}

theorem wp_copy_eq {w : World} {o : Oper} {a : Act} {K : Act → World → Prop} {Q : Exit → Act → World → Prop} {t : TypeId} {vs vx v' : Value} {w' : World}
    (hrun : ∀ ty, (Builtin.copy_ #[t, t] ty #[vs, vx]).run P w = .ok v' w') (s x : Operand)
    (hop : o.op = Op.call { callee := Callee.builtin Builtin.copy, args := #[s, x], argTypes := #[t, t] }) (hs : a.eval s = vs) (hx : a.eval x = vx)
    (h : K (a.put o.dst v') w') : o.wp P a w K Q := by
  have hr := hrun o.type
  unfold Oper.wp execOp
  simp only [hop, resolve, invoke, builtin, Sem.run_bind, Sem.run_pure, Result.andThen_ok, List.map_toArray, List.map_cons, List.map_nil, hs, hx, hr]
  exact h

theorem wpList_copy_eq {w : World} {ops : Array Oper} {rest : List Oper} {o : Oper} {a : Act} {Q : Exit → Act → World → Prop} {t : TypeId} {vs vx v' : Value} {w' : World}
    (hrun : ∀ ty, (Builtin.copy_ #[t, t] ty #[vs, vx]).run P w = .ok v' w') (hg : o.guard = none) (s x : Operand)
    (hop : o.op = Op.call { callee := Callee.builtin Builtin.copy, args := #[s, x], argTypes := #[t, t] }) (hs : a.eval s = vs) (hx : a.eval x = vx)
    (h : wpList P ops Q rest (a.put o.dst v') w') : wpList P ops Q (o :: rest) a w :=
  wpList_plain hg fun _ hK => wp_copy_eq hrun s x hop hs hx (hK _ _ h)

theorem wpList_appendN_eq {w : World} {ops : Array Oper} {rest : List Oper} {o : Oper} {a : Act} {Q : Exit → Act → World → Prop} {t tn : TypeId} {vs vx v' : Value} {w' : World}
    (hrun : ∀ ty, (Builtin.append_ #[t, tn] ty #[vs, vx]).run P w = .ok v' w') (hg : o.guard = none) (s x : Operand)
    (hop : o.op = Op.call { callee := Callee.builtin Builtin.append, args := #[s, x], argTypes := #[t, tn] }) (hs : a.eval s = vs) (hx : a.eval x = vx)
    (h : wpList P ops Q rest (a.put o.dst v') w') : wpList P ops Q (o :: rest) a w := by
  refine wpList_plain hg fun K hK => ?_
  have hr := hrun o.type
  unfold Oper.wp execOp
  simp only [hop, resolve, invoke, builtin, Sem.run_bind, Sem.run_pure, Result.andThen_ok, List.map_toArray, List.map_cons, List.map_nil, hs, hx, hr]
  exact hK _ _ h

end

def Inserted (B : Nat) (v : Value) (n : Nat) (rs : List Hv) (w : World) (e : Ending) (w' : World) : Prop :=
  ∃ q k c', e = .returned (.slice q k c') ∧ w'.ownsRow B 38 3 (.slice q k c') n (flat3 rs) ∧ Mod (fun k => v.ownBlock = some k) w w' ∧ ((Value.slice q k c').ownBlock = v.ownBlock ∨ ∀ b, (Value.slice q k c').ownBlock = some b → w.heap.size ≤ b)

theorem insert_end (B : Nat) (p : Option Addr) (n cap : Nat) (rs : List Hv) (r : Hv) (e0 : Nat) (w : World) (h : w.ownsRow B 38 3 (.slice p n cap) n (flat3 rs)) (hrn : rs.length = n) (hB : B ≤ w.heap.size) (hn : n ≤ 1000000) (hone : r.vec.oneCell' = true)
    (he : w.heap[e0]? = some (.cells #[.int .u64 r.id, .int .u64 r.dist, r.vec] 38 (0, 0))) :
    Calls Tryz.prog 95 #[.slice p n cap, .int .i64 n, .slice (some ⟨e0, 0, none⟩) 1 1] w (Inserted B (.slice p n cap) (n + 1) (rs ++ [r]) w) := by
  obtain ⟨g5, c5, w5, hrun, hown5, hg5, hat5, hlt5⟩ := run_push_at rowHit h hB he rfl (by simp [Value.oneCell']; exact hone) (by simp [maxLen]; omega) (by omega)
  have hfl : flat3 (rs ++ [r]) = flat3 rs ++ (#[.int .u64 r.id, .int .u64 r.dist, r.vec] : Array Value).toList := flat3_snoc rs r.id r.dist r.vec
  have FIN := Lib.hid (show Inserted B (.slice p n cap) (n + 1) (rs ++ [r]) w (.returned (.slice (some ⟨g5, 0, none⟩) (n + 1) c5)) w5 from
    ⟨_, _, _, rfl, by rw [hfl]; exact hown5, (Mod.refl _ _).grown hg5 (fun k hk => .inl hk), hat5.imp (fun e => e.symm) fun e b hb => by simp only [Value.ownBlock, Option.some.injEq] at hb; omega⟩)
  have hcap : n ≤ cap ∧ cap ≤ 9223372036854775807 := by
    rcases h.2 with ⟨h1, h2⟩ | ⟨g, cap', cur, h1, _, _, h2, h3, _⟩
    · obtain ⟨_, rfl, rfl⟩ := Value.slice.inj h1; exact ⟨by omega, by omega⟩
    · obtain ⟨_, _, rfl⟩ := Value.slice.inj h1; exact ⟨h2, by simpa [maxLen] using h3⟩
  obtain ⟨hc1, hc2⟩ := hcap
  have RUN := Lib.hid hrun
  have hx1 : ((1 : Int) == 0) = false := by decide
  clear hrun hown5 hg5 hat5 hlt5 h hfl he
  by_cases hcn : cap = n
  · obtain rfl : n = cap := hcn.symm
    cases p
    all_goals
      go_enter Tryz.func95, Tryz.ntmps95
      go_wp2_with (refine wpList_append_eq RUN.out rfl _ _ rfl rfl rfl ?_)
      go_ret
      exact FIN.out
  · cases p
    all_goals
      go_enter Tryz.func95, Tryz.ntmps95
      go_wp2_with (refine wpList_append_eq RUN.out rfl _ _ rfl rfl rfl ?_)
      go_ret
      exact FIN.out

theorem ins_parts (rs : List Hv) (r : Hv) (i : Nat) (hi : i ≤ rs.length) (ys : List Value) (hy : ys.length = 3) :
    setAt (setAt (flat3 rs ++ ys) ((i + 1) * 3) (flat3 (rs.drop i))) (i * 3) [.int .u64 r.id, .int .u64 r.dist, r.vec] = flat3 (rs.take i ++ r :: rs.drop i) := by
  have hl := flat3_length rs
  have hd : (flat3 (rs.drop i)).length = (rs.length - i) * 3 := by rw [flat3_length, List.length_drop]
  rw [setAt_eq (flat3 (rs.drop i)) _ _ (by simp [hl, hd, hy]; omega)]
  have e1 : (flat3 rs ++ ys).take ((i + 1) * 3) ++ flat3 (rs.drop i) ++ (flat3 rs ++ ys).drop ((i + 1) * 3 + (flat3 (rs.drop i)).length) = (flat3 rs ++ ys).take ((i + 1) * 3) ++ flat3 (rs.drop i) := by
    have e0 : (flat3 rs ++ ys).drop ((i + 1) * 3 + (flat3 (rs.drop i)).length) = [] := List.drop_eq_nil_of_le (by simp only [List.length_append, hl, hd, hy]; omega)
    rw [e0, List.append_nil]
  rw [e1, setAt_eq _ _ _ (by simp [hl, hd, hy]; omega)]
  have e2 : ((flat3 rs ++ ys).take ((i + 1) * 3) ++ flat3 (rs.drop i)).take (i * 3) = flat3 (rs.take i) := by
    rw [List.take_append_of_le_length (by simp [hl, hy]; omega), List.take_take, show min (i * 3) ((i + 1) * 3) = i * 3 by omega, List.take_append_of_le_length (by omega), flat3_take]
  have e3 : ((flat3 rs ++ ys).take ((i + 1) * 3) ++ flat3 (rs.drop i)).drop (i * 3 + [Value.int .u64 r.id, Value.int .u64 r.dist, r.vec].length) = flat3 (rs.drop i) := by
    rw [List.drop_append_of_le_length (by simp [hl, hy]; omega), List.drop_eq_nil_of_le (by simp [hl, hy]; omega), List.nil_append]
  rw [e2, e3, flat3_append]
  simp [flat3]

set_option maxHeartbeats 1000000 in
set_option maxRecDepth 100000 in
theorem insert_room (B g : Nat) (n cap i : Nat) (rs : List Hv) (r : Hv) (e0 : Nat) (w : World) (h : w.ownsRow B 38 3 (.slice (some ⟨g, 0, none⟩) n cap) n (flat3 rs)) (hrn : rs.length = n) (hi : i < n) (hroom : n + 1 ≤ cap) (hn : n ≤ 1000000) (hone : r.vec.oneCell' = true) (hones : ∀ x ∈ rs, x.vec.oneCell' = true)
    (he : w.heap[e0]? = some (.cells #[.int .u64 r.id, .int .u64 r.dist, r.vec] 38 (0, 0))) (hne : e0 ≠ g) :
    Calls Tryz.prog 95 #[.slice (some ⟨g, 0, none⟩) n cap, .int .i64 i, .slice (some ⟨e0, 0, none⟩) 1 1] w (Inserted B (.slice (some ⟨g, 0, none⟩) n cap) (n + 1) (rs.take i ++ r :: rs.drop i) w) := by
  obtain ⟨hc1, hc2, cur, hcur, hcs⟩ := own_cap h
  simp only [maxLen] at hc2
  obtain ⟨ys, hys, hx⟩ := own_extend h (m := n + 1) (by omega) hroom
  rw [show n + 1 - n = 1 by omega, Nat.one_mul] at hys
  have hl := flat3_length rs
  have hd : (flat3 (rs.drop i)).length = (n - i) * 3 := by rw [flat3_length, List.length_drop, hrn]
  have hxd := own_below hx (Below.refl _ w).drew
  have hcurd : w.drew.heap[g]? = some (.cells cur 38 (0, 0)) := hcur
  have C1 := run_copyG rowHit (w := w.drew) (g := g) (o := (i + 1) * 3) (dLen := n - i) (dCap := cap - (i + 1)) (a := ⟨g, i * 3, none⟩) (sLen := n + 1 - i) (sCap := cap - i) (m := n - i) (cs := flat3 (rs.drop i)) hcurd (by simp [Nat.min_def]; omega) hd
    (fun j u hj => by
      rw [← flat3_drop, List.getElem?_drop] at hj
      rw [Addr.add_lit]
      have := own_rangeAt hxd rfl 0 (flat3 rs ++ ys) (fun j u h => by simpa using h)
      have := this (i * 3 + j) u (by rw [List.getElem?_append_left (by have := (List.getElem?_eq_some_iff.1 hj).1; omega)]; exact hj)
      simpa using this) (by omega) (flat3_one fun x hx => hones x (List.mem_of_mem_drop hx))
  have h1 := own_setCells (size := 3) (g := g) rfl (flat3 (rs.drop i)) ((i + 1) * 3) w.drew (flat3 rs ++ ys) hxd (by omega)
  obtain ⟨_, _, cur1, hcur1, hcs1⟩ := own_cap h1
  have he1 : (w.drew.setCells g ((i + 1) * 3) (flat3 (rs.drop i))).heap[e0]? = some (.cells #[.int .u64 r.id, .int .u64 r.dist, r.vec] 38 (0, 0)) := by
    rw [(grownBy_setCells g (flat3 (rs.drop i)) ((i + 1) * 3) w.drew).block e0 (lt_block he) (by simpa using hne)]; exact he
  have C2 := run_copyG rowHit (w := w.drew.setCells g ((i + 1) * 3) (flat3 (rs.drop i))) (g := g) (o := i * 3) (dLen := n + 1 - i) (dCap := cap - i) (a := ⟨e0, 0, none⟩) (sLen := 1) (sCap := 1) (m := 1) (cs := [.int .u64 r.id, .int .u64 r.dist, r.vec]) hcur1 (by simp [Nat.min_def]; omega) rfl
    (fun j u hj => by
      rw [Addr.add_lit, Nat.zero_add]
      simp only [World.cell?, he1]
      simpa using hj) (by simp; omega) (by simp [Value.oneCell']; exact hone)
  have h2 := own_setCells (size := 3) (g := g) rfl [.int .u64 r.id, .int .u64 r.dist, r.vec] (i * 3) _ _ h1 (by simp; omega)
  rw [ins_parts rs r i (by omega) ys hys] at h2
  have M1 := mod_setCells (mod_setCells (F := fun k => (Value.slice (some ⟨g, 0, none⟩) n cap).ownBlock = some k) (Mod.of_below (Below.refl w.heap.size w).drew) (g := g) (.inl rfl) (flat3 (rs.drop i)) ((i + 1) * 3)) (g := g) (.inl rfl) [.int .u64 r.id, .int .u64 r.dist, r.vec] (i * 3)
  have FIN := Lib.hid (show Inserted B (.slice (some ⟨g, 0, none⟩) n cap) (n + 1) (rs.take i ++ r :: rs.drop i) w (.returned (.slice (some ⟨g, 0, none⟩) (n + 1) cap)) _ from ⟨_, _, _, rfl, h2, M1, .inl rfl⟩)
  have OV := overlaps_no (o := (i + 1) * 3) (lb := n - i) (cb := cap - (i + 1)) he hcur hne (by omega)
  have R1 := Lib.hid C1
  have R2 := Lib.hid C2
  have a1 : ((1 : Int) == 0) = false := by decide
  have a2 : ((i : Int) == (n : Int)) = false := by rw [beq_eq_false_iff_ne]; omega
  have a3 : ¬ cap = i := by omega
  have a4 : ¬ cap = i + 1 := by omega
  have a5 : (n : Int) + 1 ≤ (cap : Int) := by omega
  have a6 : (i : Int) ≤ (n : Int) + 1 := by omega
  have a7 : (i : Int) + 1 ≤ (n : Int) + 1 := by omega
  have a8 : (i : Int) + 1 ≤ (n : Int) := by omega
  have a9 : i ≤ n := by omega
  have s1 : IntKind.i64.wrap ((i : Int) + 1) = (i : Int) + 1 := IntWalk.i64_in _ (by omega)
  have s2 : (0 : Int) ≤ (i : Int) + 1 := by omega
  have s3 : ((i : Int) + 1).toNat = i + 1 := by omega
  clear h hx hxd C1 C2 h1 h2 M1 hcur hcurd hcur1 hcs1 he1 he hd hl hys
  go_enter Tryz.func95, Tryz.ntmps95
  go_wp2_with fail
  refine region_go (fun _ => True) (by kernel_rfl) ?hS0 (fun hH => ?_)
  case hS0 =>
    trivial
  refine kY 0 hH ?_
  repeat simp only [Act.put, uA1, uB1, uC1]
  refine kY 1 hH ?_
  repeat simp only [Act.put, uA1, uB1, uC1]
  refine kY 2 hH ?_
  repeat simp only [Act.put, uA1, uB1, uC1]
  refine kY 3 hH ?_
  repeat simp only [Act.put, uA1, uB1, uC1]
  refine kY 4 hH ?_
  repeat simp only [Act.put, uA1, uB1, uC1]
  refine kY 5 hH ?_
  repeat simp only [Act.put, uA1, uB1, uC1]
  refine kY 6 hH ?_
  repeat simp only [Act.put, uA1, uB1, uC1]
  refine kY 7 hH ?_
  repeat simp only [Act.put, uA1, uB1, uC1]
  refine spk 8 rfl (by decide +kernel) (by rfl) (fun K' hK => ?_)
  refine wp_copy_eq R1.out _ _ rfl rfl rfl ?_
  try dsimp only
  refine hK.out _ _ ?hS (fun hH' => ?_)
  case hS =>
    trivial
  clear hK K' hH; have hH := hH'; clear hH'; repeat simp only [Act.put, uA1, uB1, uC1]
  refine wpAnyH_done (by decide +kernel) ?_ _
  clear hH
  go_wp2_with (refine wpList_copy_eq R2.out rfl _ _ rfl rfl rfl ?_)
  go_ret
  exact FIN.out

set_option maxHeartbeats 1000000 in
set_option maxRecDepth 100000 in
theorem insert_grow (B g : Nat) (n i : Nat) (rs : List Hv) (r : Hv) (e0 : Nat) (w : World) (h : w.ownsRow B 38 3 (.slice (some ⟨g, 0, none⟩) n n) n (flat3 rs)) (hrn : rs.length = n) (hi : i < n) (hB : B ≤ w.heap.size) (hn : n ≤ 1000000) (hone : r.vec.oneCell' = true) (hones : ∀ x ∈ rs, x.vec.oneCell' = true)
    (he : w.heap[e0]? = some (.cells #[.int .u64 r.id, .int .u64 r.dist, r.vec] 38 (0, 0))) :
    Calls Tryz.prog 95 #[.slice (some ⟨g, 0, none⟩) n n, .int .i64 i, .slice (some ⟨e0, 0, none⟩) 1 1] w (Inserted B (.slice (some ⟨g, 0, none⟩) n n) (n + 1) (rs.take i ++ r :: rs.drop i) w) := by
  have hp := own_prefix h (k := i) (by omega)
  rw [flat3_take] at hp
  obtain ⟨c1, w1, zs, hr1, ho1, hz1, hb1, hlt1⟩ := run_app_zeros (tn := 3) rowHit Tryz.underlying3 hp hB (k := n + 1 - i) (by omega) (by omega) (by simp [maxLen]; omega) (by omega) (by simp [Value.cells, Value.oneCell'])
  rw [show i + (n + 1 - i) = n + 1 by omega] at hr1 ho1
  have hl := flat3_length rs
  have hlt := flat3_length (rs.take i)
  have hlti : (rs.take i).length = i := by simp; omega
  have hd : (flat3 (rs.drop i)).length = (n - i) * 3 := by rw [flat3_length, List.length_drop, hrn]
  rw [hlti] at hlt
  obtain ⟨hcc1, hcc2, cur1, hcur1, hcs1⟩ := own_cap ho1
  simp only [maxLen] at hcc2
  have he1 : w1.heap[e0]? = some (.cells #[.int .u64 r.id, .int .u64 r.dist, r.vec] 38 (0, 0)) := by rw [hb1.block e0 (lt_block he)]; exact he
  have C1 := run_copyG rowHit (w := w1) (g := w.heap.size) (o := i * 3) (dLen := n + 1 - i) (dCap := c1 - i) (a := ⟨e0, 0, none⟩) (sLen := 1) (sCap := 1) (m := 1) (cs := [.int .u64 r.id, .int .u64 r.dist, r.vec]) hcur1 (by simp [Nat.min_def]; omega) rfl
    (fun j u hj => by
      rw [Addr.add_lit, Nat.zero_add]
      simp only [World.cell?, he1]
      simpa using hj) (by simp; omega) (by simp [Value.oneCell']; exact hone)
  have h2 := own_setCells (size := 3) (g := w.heap.size) rfl [.int .u64 r.id, .int .u64 r.dist, r.vec] (i * 3) w1 _ ho1 (by simp; omega)
  have h2d := own_below h2 (Below.refl _ (w1.setCells w.heap.size (i * 3) [.int .u64 r.id, .int .u64 r.dist, r.vec])).drew
  obtain ⟨_, _, cur2, hcur2, hcs2⟩ := own_cap h2d
  have hsrc := SrcAt.of_own h
  have hg := (h.lt g rfl).2
  have hbk : ∀ j u, (flat3 rs)[j]? = some u → (w1.setCells w.heap.size (i * 3) [.int .u64 r.id, .int .u64 r.dist, r.vec]).drew.cell? ⟨g, j, none⟩ = some u := by
    intro j u hj
    have h0 := hsrc.cells _ rfl j u hj
    rw [Addr.add_lit, Nat.zero_add] at h0
    have : (w1.setCells w.heap.size (i * 3) [.int .u64 r.id, .int .u64 r.dist, r.vec]).drew.heap[g]? = w.heap[g]? := by
      have e1 := (grownBy_setCells w.heap.size [.int .u64 r.id, .int .u64 r.dist, r.vec] (i * 3) w1).block g (by omega) (by simp; omega)
      exact e1.trans (hb1.block g hg)
    rw [World.cell?_of_block this]; exact h0
  have C2 := run_copyG rowHit (w := (w1.setCells w.heap.size (i * 3) [.int .u64 r.id, .int .u64 r.dist, r.vec]).drew) (g := w.heap.size) (o := (i + 1) * 3) (dLen := n - i) (dCap := c1 - (i + 1)) (a := ⟨g, i * 3, none⟩) (sLen := n - i) (sCap := n - i) (m := n - i) (cs := flat3 (rs.drop i)) hcur2 (by simp []) hd
    (fun j u hj => by
      rw [← flat3_drop, List.getElem?_drop] at hj
      rw [Addr.add_lit]
      exact hbk _ _ hj) (by omega) (flat3_one fun x hx => hones x (List.mem_of_mem_drop hx))
  have h3 := own_setCells (size := 3) (g := w.heap.size) rfl (flat3 (rs.drop i)) ((i + 1) * 3) _ _ h2d (by omega)
  have hfin : setAt (setAt (flat3 (rs.take i) ++ zs) (i * 3) [.int .u64 r.id, .int .u64 r.dist, r.vec]) ((i + 1) * 3) (flat3 (rs.drop i)) = flat3 (rs.take i ++ r :: rs.drop i) := by
    rw [setAt_eq [.int .u64 r.id, .int .u64 r.dist, r.vec] _ _ (by simp [hlt, hz1]; omega)]
    have f1 : (flat3 (rs.take i) ++ zs).take (i * 3) = flat3 (rs.take i) := by rw [List.take_append_of_le_length (by omega), List.take_of_length_le (by omega)]
    rw [f1, setAt_eq _ _ _ (by simp [hlt, hz1, hd]; omega)]
    have f2 : (flat3 (rs.take i) ++ [.int .u64 r.id, .int .u64 r.dist, r.vec] ++ (flat3 (rs.take i) ++ zs).drop (i * 3 + [Value.int .u64 r.id, .int .u64 r.dist, r.vec].length)).take ((i + 1) * 3) = flat3 (rs.take i) ++ [.int .u64 r.id, .int .u64 r.dist, r.vec] := by
      rw [List.take_append_of_le_length (by simp [hlt]; omega), List.take_of_length_le (by simp [hlt]; omega)]
    have f3 : (flat3 (rs.take i) ++ [.int .u64 r.id, .int .u64 r.dist, r.vec] ++ (flat3 (rs.take i) ++ zs).drop (i * 3 + [Value.int .u64 r.id, .int .u64 r.dist, r.vec].length)).drop ((i + 1) * 3 + (flat3 (rs.drop i)).length) = [] :=
      List.drop_eq_nil_of_le (by simp [hlt, hz1, hd]; omega)
    rw [f2, f3, flat3_append]
    simp [flat3]
  rw [hfin] at h3
  have M1 := mod_setCells ((mod_setCells (F := fun k => (Value.slice (some ⟨g, 0, none⟩) n n).ownBlock = some k) (Mod.of_below hb1) (g := w.heap.size) (.inr (Nat.le_refl _)) [.int .u64 r.id, .int .u64 r.dist, r.vec] (i * 3)).andBelow (Below.refl _ _).drew) (g := w.heap.size) (.inr (Nat.le_refl _)) (flat3 (rs.drop i)) ((i + 1) * 3)
  have FIN := Lib.hid (show Inserted B (.slice (some ⟨g, 0, none⟩) n n) (n + 1) (rs.take i ++ r :: rs.drop i) w (.returned (.slice (some ⟨w.heap.size, 0, none⟩) (n + 1) c1)) _ from ⟨_, _, _, rfl, h3, M1, .inr fun b hb => by simp only [Value.ownBlock, Option.some.injEq] at hb; omega⟩)
  rw [show ((n + 1 - i : Nat) : Int) = (n : Int) + 1 - (i : Int) by omega] at hr1
  have R0 := Lib.hid hr1
  have R1 := Lib.hid C1
  have R2 := Lib.hid C2
  have a1 : ((1 : Int) == 0) = false := by decide
  have a2 : ((i : Int) == (n : Int)) = false := by rw [beq_eq_false_iff_ne]; omega
  have a3 : ¬ n = i := by omega
  have a4 : ¬ c1 = i := by omega
  have a5 : ¬ c1 = i + 1 := by omega
  have a6 : (i : Int) ≤ (n : Int) + 1 := by omega
  have a7 : (i : Int) + 1 ≤ (n : Int) + 1 := by omega
  have a8 : (i : Int) + 1 ≤ (n : Int) := by omega
  have a9 : i ≤ n := by omega
  have s1 : IntKind.i64.wrap ((i : Int) + 1) = (i : Int) + 1 := IntWalk.i64_in _ (by omega)
  have s2 : (0 : Int) ≤ (i : Int) + 1 := by omega
  have s3 : ((i : Int) + 1).toNat = i + 1 := by omega
  clear hp h C1 C2 h2 h2d h3 M1 hcur1 hcur2 hcs1 hcs2 he1 he hd hl hlt hlti hsrc hbk hfin hr1 ho1 hz1 hb1
  go_enter Tryz.func95, Tryz.ntmps95
  go_wp2_with (first | (refine wpList_appendN_eq R0.out rfl _ _ rfl rfl rfl ?_) | (refine wpList_copy_eq (v' := .int .i64 1) R1.out rfl _ _ rfl rfl rfl ?_))
  go_frame
  refine region_go (fun _ => True) (by kernel_rfl) ?hS0 (fun hH => ?_)
  case hS0 =>
    trivial
  refine kY 0 hH ?_
  repeat simp only [Act.put, uA1, uB1, uC1]
  refine kY 1 hH ?_
  repeat simp only [Act.put, uA1, uB1, uC1]
  refine kY 2 hH ?_
  repeat simp only [Act.put, uA1, uB1, uC1]
  refine kY 3 hH ?_
  repeat simp only [Act.put, uA1, uB1, uC1]
  refine kY 4 hH ?_
  repeat simp only [Act.put, uA1, uB1, uC1]
  refine kY 5 hH ?_
  repeat simp only [Act.put, uA1, uB1, uC1]
  refine kY 6 hH ?_
  repeat simp only [Act.put, uA1, uB1, uC1]
  refine kY 7 hH ?_
  repeat simp only [Act.put, uA1, uB1, uC1]
  refine spk 8 rfl (by decide +kernel) (by rfl) (fun K' hK => ?_)
  refine wp_copy_eq R2.out _ _ rfl rfl rfl ?_
  try dsimp only
  refine hK.out _ _ ?hS (fun hH' => ?_)
  case hS =>
    trivial
  clear hK K' hH; have hH := hH'; clear hH'; repeat simp only [Act.put, uA1, uB1, uC1]
  refine wpAnyH_done (by decide +kernel) ?_ _
  clear hH
  go_wp2_with fail
  go_ret
  exact FIN.out

end Go.Proofs.YtpjbkaibgajpcaaGreat

namespace Go.Proofs.YtpjbkaibgajpcaaGreat
open Go.RowKit
set_option maxRecDepth 20000

theorem near_trans {a b c : Hz} (h : near a b = true) (g : near b c = true) : near a c = true := by
  simp only [near, nearB, Bool.or_eq_true, Bool.and_eq_true, decide_eq_true_eq] at *
  omega

theorem near_irrefl (a : Hz) : near a a = false := by
  simp [near, nearB]

theorem near_total {a b : Hz} (h : a.id ≠ b.id) : near a b = true ∨ near b a = true := by
  simp only [near, nearB, Bool.or_eq_true, Bool.and_eq_true, decide_eq_true_eq]
  omega

theorem near_asymm {a b : Hz} (h : near a b = true) : near b a = false := by
  cases hb : near b a
  · rfl
  · have := near_trans h hb
    rw [near_irrefl] at this; cases this

def Sorted (l : List Hz) : Prop := l.Pairwise fun a b => near a b = true

def rankZ (l : List Hz) (h : Hz) : Nat := (l.takeWhile fun x => near x h).length

theorem rankZ_le (l : List Hz) (h : Hz) : rankZ l h ≤ l.length := (List.takeWhile_sublist _).length_le

theorem rankZ_below {l : List Hz} {h : Hz} {k : Nat} (hk : k < l.length) (hr : k < rankZ l h) : near l[k] h = true := by
  unfold rankZ at hr
  induction l generalizing k with
  | nil => simp at hk
  | cons a l ih =>
    simp only [List.takeWhile_cons] at hr
    split at hr
    · rename_i ha
      cases k with
      | zero => exact ha
      | succ k => exact ih (by simpa using hk) (by simpa using hr)
    · simp at hr

theorem rankZ_above {l : List Hz} (hs : Sorted l) {h : Hz} {k : Nat} (hk : k < l.length) (hr : rankZ l h ≤ k) : near l[k] h = false := by
  unfold rankZ at hr
  induction l generalizing k with
  | nil => simp at hk
  | cons a l ih =>
    have hs' := List.pairwise_cons.1 hs
    simp only [List.takeWhile_cons] at hr
    split at hr
    · cases k with
      | zero => simp at hr
      | succ k => exact ih hs'.2 (by simpa using hk) (by simpa using hr)
    · rename_i ha
      cases k with
      | zero => simpa using ha
      | succ k =>
        have hk' : k < l.length := by simpa using hk
        simp only [List.getElem_cons_succ]
        cases hn : near l[k] h
        · rfl
        · exact absurd (near_trans (hs'.1 _ (List.getElem_mem hk')) hn) (by simpa using ha)

def insZ (l : List Hz) (h : Hz) : List Hz := l.take (rankZ l h) ++ h :: l.drop (rankZ l h)

structure ListOwn (w : World) (B c : Nat) (most : Int) (v : Value) (rs : List Hv) (G : Nat → Prop) (l : List Hz) : Prop where
  obj : w.heap[c]? = some (.cells #[.int .i64 most, v] 156 (0, 0))
  ge : B ≤ c
  row : w.ownsRow B 38 3 v rs.length (flat3 rs)
  rows : Rows3 w G rs l
  gc : ¬ G c
  gv : ∀ b, v.ownBlock = some b → ¬ G b
  glo : ∀ k, G k → B ≤ k
  ghi : ∀ k, G k → k < w.heap.size

def ListAt (w : World) (B : Nat) (F : Nat → Prop) (c : Nat) (most : Int) (l : List Hz) : Prop :=
  ∃ v rs G, ListOwn w B c most v rs G l ∧ F c ∧ (∀ b, v.ownBlock = some b → F b) ∧ ∀ k, G k → F k

def Plus (F : Nat → Prop) (w w' : World) (k : Nat) : Prop := F k ∨ (w.heap.size ≤ k ∧ k < w'.heap.size)

theorem ListOwn.below {w w' : World} {B c : Nat} {most : Int} {v : Value} {rs : List Hv} {G : Nat → Prop} {l : List Hz} (h : ListOwn w B c most v rs G l) (hb : Below w.heap.size w w') : ListOwn w' B c most v rs G l :=
  ⟨by rw [hb.block _ (lt_block h.obj)]; exact h.obj, h.ge, own_below h.row hb, h.rows.below hb, h.gc, h.gv, h.glo, fun k hk => by have := h.ghi k hk; have := hb.size; omega⟩

theorem ListAt.below {w w' : World} {B c : Nat} {F : Nat → Prop} {most : Int} {l : List Hz} (h : ListAt w B F c most l) (hb : Below w.heap.size w w') : ListAt w' B F c most l :=
  let ⟨v, rs, G, h, a, b, d⟩ := h; ⟨v, rs, G, h.below hb, a, b, d⟩

theorem ListAt.mono {w : World} {B c : Nat} {F F' : Nat → Prop} {most : Int} {l : List Hz} (h : ListAt w B F c most l) (hs : ∀ k, F k → F' k) : ListAt w B F' c most l :=
  let ⟨v, rs, G, h, a, b, d⟩ := h; ⟨v, rs, G, h, hs _ a, fun k hk => hs _ (b k hk), fun k hk => hs _ (d k hk)⟩

theorem ListAt.agree {w w' : World} {B c : Nat} {F : Nat → Prop} {most : Int} {l : List Hz} (h : ListAt w B F c most l) (ha : Agree F w w') (hs : w.heap.size ≤ w'.heap.size) : ListAt w' B F c most l := by
  obtain ⟨v, rs, G, h, a, b, d⟩ := h
  refine ⟨v, rs, G, ⟨by rw [ha c a]; exact h.obj, h.ge, ?_, h.rows.agree fun k hk => ha k (d k hk), h.gc, h.gv, h.glo, fun k hk => by have := h.ghi k hk; omega⟩, a, b, d⟩
  obtain ⟨h0, h | ⟨g, cap, cur, rfl, hb, hh, r⟩⟩ := h.row
  · exact ⟨h0, .inl h⟩
  · exact ⟨h0, .inr ⟨g, cap, cur, rfl, hb, by rw [ha g (b g rfl)]; exact hh, r⟩⟩

theorem ListOwn.cells {w : World} {B c : Nat} {most : Int} {v : Value} {rs : List Hv} {G : Nat → Prop} {l : List Hz} (h : ListOwn w B c most v rs G l) : w.cell? ⟨c, 0, none⟩ = some (.int .i64 most) ∧ w.cell? ⟨c, 1, none⟩ = some v ∧ w.frozen? ⟨c, 1, none⟩ = false :=
  ⟨by simp [World.cell?, h.obj], by simp [World.cell?, h.obj], by simp [World.frozen?, h.obj]⟩

theorem ListOwn.hits {w : World} {B c : Nat} {most : Int} {v : Value} {rs : List Hv} {G : Nat → Prop} {l : List Hz} (h : ListOwn w B c most v rs G l) : HitsF w (fun k => v.ownBlock = some k ∨ G k) v l :=
  HitsF.of_own h.row (fun _b hb => .inl hb) (h.rows.mono fun _k hk => .inr hk)

theorem own_not {w : World} {base e size n c t : Nat} {v : Value} {xs : List Value} {cur : Array Value} {fr : Nat × Nat} (h : w.ownsRow base e size v n xs) (hc : w.heap[c]? = some (.cells cur t fr)) (hne : e ≠ t) : v.ownBlock ≠ some c := by
  rcases h.2 with ⟨rfl, _⟩ | ⟨g, cap, cur', rfl, _, hh, _⟩
  · simp [Value.ownBlock]
  · simp only [Value.ownBlock, ne_eq, Option.some.injEq]
    rintro rfl
    rw [hc] at hh
    simp only [Option.some.injEq, Obj.cells.injEq] at hh
    exact hne hh.2.1.symm

theorem ListOwn.put {w0 w1 : World} {B c : Nat} {most : Int} {v v' : Value} {rs rs' : List Hv} {G G' : Nat → Prop} {l l' : List Hz} (h : ListOwn w0 B c most v rs G l) (hm : Mod (fun k => v.ownBlock = some k) w0 w1)
    (ho : w1.ownsRow B 38 3 v' rs'.length (flat3 rs')) (hr : Rows3 w1 G' rs' l') (hc : ¬ G' c) (hv : ∀ b, v'.ownBlock = some b → ¬ G' b) (hlo : ∀ k, G' k → B ≤ k) (hhi : ∀ k, G' k → k < w1.heap.size) :
    ListOwn (w1.setCell ⟨c, 1, none⟩ v') B c most v' rs' G' l' := by
  have hvc := own_not h.row h.obj (by decide)
  have hc1 : w1.heap[c]? = some (.cells #[.int .i64 most, v] 156 (0, 0)) := by rw [hm.block c (lt_block h.obj) hvc]; exact h.obj
  have hv'c := own_not ho hc1 (by decide)
  refine ⟨by simp [World.setCell, Array.getElem?_modify, hc1], h.ge, ownsRow_setCell_other ho hv'c _, hr.agree fun k hk => ?_, hc, hv, hlo, fun k hk => by simpa [World.setCell] using hhi k hk⟩
  exact Below.heap_setCell _ _ _ _ (by rintro rfl; exact hc hk)

theorem len (B c : Nat) (most : Int) (v : Value) (rs : List Hv) (G : Nat → Prop) (l : List Hz) (w : World) (h : ListOwn w B c most v rs G l) :
    Calls Tryz.prog 120 #[.pointer (some ⟨c, 0, none⟩)] w fun e w' => e = .returned (.int .i64 l.length) ∧ w = w' := by
  obtain ⟨p, cap, rfl, -, -, -, -⟩ := h.hits
  obtain ⟨c0, c1, -⟩ := h.cells
  clear h
  go_enter Tryz.func120, Tryz.ntmps120
  go_wp2_with fail
  go_ret
  exact ⟨rfl, rfl⟩

theorem new_yes (most : Int) (w : World) (h1 : 1 ≤ most) (h2 : most ≤ 256) :
    Calls Tryz.prog 69 #[.int .i64 most] w fun e w' => ∃ c, e = .returned (.tuple #[.pointer (some ⟨c, 0, none⟩), .int .i64 0]) ∧ ListAt w' w.heap.size (Plus (fun _ => False) w w') c most [] ∧ Below w.heap.size w w' := by
  go_enter Tryz.func69, Tryz.ntmps69
  go_wp2_with fail
  go_ret2
  refine ⟨_, rfl, ⟨.slice none 0 0, [], fun _ => False, ⟨heap_alloc_new _ _, Nat.le_refl _, World.ownsRow_nil _ _ _ _, Rows3.nil _ _, fun h => h, fun _ _ h => h, fun _ h => h.elim, fun _ h => h.elim⟩, .inr ⟨Nat.le_refl _, by simp⟩, by simp [Value.ownBlock], fun _ h => h.elim⟩, (Below.refl _ _).alloc (Nat.le_refl _) _⟩

end Go.Proofs.YtpjbkaibgajpcaaGreat
