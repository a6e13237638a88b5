/-
  gather's document: a question is under way no more.
  gather's document: Ask: what it needs.
-/
import Derived.Test.YtfmlhdikagogcaaDoorJ24
import Derived.Test.YtfmlhdikagogcaaDoorJ22
namespace Go.Proofs.YtfmlhdikagogcaaDoor
open Go.RowKit
set_option maxRecDepth 20000

theorem rowDQ : RowTy Tryd.prog 66 108 19 232 (.agg #[.int .u8 0, .int .u64 0, .int .u64 0, .int .u64 0, .int .u64 0, .int .u64 0, .int .u64 0, .int .u64 0, .int .i64 0, .int .i64 0, .int .i64 0, .int .i64 0, .slice none 0 0, .slice none 0 0, .slice none 0 0, .slice none 0 0, .int .i64 0, .int .u64 0, .slice none 0 0]) := ⟨Tryd.underlying66, by kernel_rfl, rfl, by decide⟩

theorem RefG.rowed {w W : World} {c B n : Nat} {F : Nat → Prop} {g' : Gz} {xs' : List (Qs × Dq)} {v' : Value} (hlow : ∀ k, F k → k < w.heap.size ∧ k ≠ c) (hm : Mod (fun k => k = c) w W) (hcs : c < w.heap.size)
    (hc : W.heap[c]? = some (.cells #[.int .i64 g'.shards, .int .i64 g'.dim, .int .u64 g'.last, v'] 68 (0, 0))) (ho : W.ownsRow B 108 19 v' n (flatU dqCells xs')) (hB : w.heap.size ≤ B) (hx : ∀ x ∈ xs', DqAt W (Plus F w W) x.1 x.2) (hg : xs'.map (·.1) = g'.l) : RefG W c (Plus F w W) g' := by
  have hs := hm.size
  exact ⟨v', xs', hc, DocF.of_own ho (fun b e => .inr ⟨Nat.le_trans hB (ho.lt b e).1, (ho.lt b e).2⟩) hx, hg, fun k hk => hk.elim (fun h => ⟨by have := (hlow k h).1; omega, (hlow k h).2⟩) (fun h => ⟨h.2, by omega⟩)⟩

theorem DocF.each {w : World} {F : Nat → Prop} {v : Value} {xs : List (Qs × Dq)} (h : DocF w F v xs) : ∀ x ∈ xs, DqAt w F x.1 x.2 := by
  obtain ⟨p, cap, hv, h1, h2, h3, h4, h5⟩ := h
  exact h5

theorem DocF.src {w : World} {F : Nat → Prop} {p : Option Addr} {n c : Nat} {xs : List (Qs × Dq)} (h : DocF w F (.slice p n c) xs) : SrcAt w p xs.length c 19 (flatU dqCells xs) := by
  obtain ⟨p', cap, hv, h1, h2, h3, h4, h5⟩ := h
  obtain ⟨rfl, rfl, rfl⟩ := Value.slice.inj hv
  exact h4

theorem DocF.ones {w : World} {F : Nat → Prop} {v : Value} {xs : List (Qs × Dq)} (h : DocF w F v xs) : ∀ u ∈ flatU dqCells xs, u.oneCell' = true := flatU_one fun x hx u hu => (h.each x hx).one u hu

/-- without number k -/
theorem rem_end {w w3 : World} {c B n k : Nat} {F : Nat → Prop} {g : Gz} {xs : List (Qs × Dq)} {v v' : Value} (hxs : xs.map (·.1) = g.l) (hob : w.heap[c]? = some (.cells #[.int .i64 g.shards, .int .i64 g.dim, .int .u64 g.last, v] 68 (0, 0))) (hlow : ∀ k, F k → k < w.heap.size ∧ k ≠ c)
    (hD : ∀ x ∈ xs, DqAt w F x.1 x.2) (hk : k < xs.length) (hb : Below w.heap.size w w3) (hB : w.heap.size ≤ B)
    (ho : w3.ownsRow B 108 19 v' n (flatU dqCells ((xs.drop 0).take k) ++ flatU dqCells ((xs.drop (k + 1)).take (xs.length - (k + 1))))) :
    RefG (w3.setCell ⟨c, 3, none⟩ v') c (Plus F w (w3.setCell ⟨c, 3, none⟩ v')) (dropZ g k) ∧ Mod (fun k => k = c) w (w3.setCell ⟨c, 3, none⟩ v') := by
  have e : (xs.drop 0).take k ++ (xs.drop (k + 1)).take (xs.length - (k + 1)) = xs.eraseIdx k := by
    rw [List.eraseIdx_eq_take_drop_succ, List.drop_zero, List.take_of_length_le (l := xs.drop (k + 1)) (by rw [List.length_drop]; omega)]
  rw [← flatU_append, e] at ho
  have hcs := lt_block hob
  have hm : Mod (fun k => k = c) w (w3.setCell ⟨c, 3, none⟩ v') := Mod.setCell (F := fun k => k = c) (Mod.of_below hb) (p := ⟨c, 3, none⟩) (.inl rfl) _
  refine ⟨RefG.rowed hlow hm hcs (set_block ((hb.block c hcs).trans hob) 3 v') (ho.kept (grownBy_setCells c [v'] 3 w3) (.inr (by intro e; have := (ho.lt c e).1; omega))) hB (fun x hx => ?_) (by rw [map_erase, hxs]; rfl), hm⟩
  exact ((hD x (List.mem_of_mem_eraseIdx hx)).agree (Agree.of_mod hm (fun j hj => (hlow j hj).1) (fun j hj => (hlow j hj).2))).mono fun j hj => .inl hj

set_option maxHeartbeats 4000000 in
theorem dremove (c k : Nat) (F : Nat → Prop) (g : Gz) (w : World) (hG : RefG w c F g) (hk : k < g.l.length) (hl : g.l.length ≤ 1000) :
    Calls Tryd.prog 52 #[.pointer (some ⟨c, 0, none⟩), .int .i64 k] w fun e w' => e = .returned (.tuple #[]) ∧ RefG w' c (Plus F w w') (dropZ g k) ∧ Mod (fun k => k = c) w w' := by
  obtain ⟨v, xs, hob, hD, hxs, hlow⟩ := hG
  have hxl : xs.length = g.l.length := by rw [← hxs]; simp
  obtain ⟨p, cap, rfl, hcap, hbig, -, -, -⟩ := id hD
  obtain ⟨b, off, rfl, -, -, -⟩ := hD.elem (i := k) (by omega)
  have hcs := lt_block hob
  have hkx : k < xs.length := by omega
  have S1 := Lib.hid (hD.src.subU dqCells_length 0 k cap (by omega))
  have S2 := Lib.hid (hD.src.subU dqCells_length (k + 1) (xs.length - (k + 1)) (cap - (k + 1)) (by omega))
  have ONE := Lib.hid (show ∀ x ∈ xs, ∀ u ∈ dqCells x, u.oneCell' = true from fun x hx u hu => (hD.each x hx).one u hu)
  have k0 : (0 : Int) ≤ (k : Int) := by omega
  have k1 : (k : Int) ≤ (cap : Int) := by omega
  have k2 : (k : Int) < (xs.length : Int) := by omega
  have k3 : ((k : Int) + 1) ≤ (xs.length : Int) := by omega
  have k4 : IntKind.i64.wrap ((k : Int) + 1) = (k : Int) + 1 := by simp [IntKind.wrap, IntKind.signed, IntKind.bits] <;> omega
  have k5 : (0 : Int) ≤ (k : Int) + 1 := by omega
  have k6 : ((k : Int) + 1).toNat = k + 1 := by omega
  have hx1 : xs.length ≤ 1000 := by omega
  have K := Lib.hid (And.intro hxs (And.intro hob (And.intro hlow hD.each)))
  have HKX := Lib.hid hkx
  obtain ⟨W0, hW0⟩ : ∃ W0, W0 = w.drew := ⟨_, rfl⟩
  have hb0 : Below w.heap.size w W0 := by rw [hW0]; exact (Below.refl _ _).drew
  have HW := Lib.hid hW0
  have c3 : W0.cell? ⟨c, 3, none⟩ = some (.slice (some ⟨b, off, none⟩) xs.length cap) := below_cells hb0 (by rw [cells_get hob 3]; rfl)
  have cf : ∀ W, Below w.heap.size w W → W.frozen? ⟨c, 3, none⟩ = false := fun W h => thawed ((h.block c hcs).trans K.out.2.1) 3
  have c3' : ∀ W, Below w.heap.size w W → W.cell? ⟨c, 3, none⟩ = some (.slice (some ⟨b, off, none⟩) xs.length cap) := fun W h => below_cells h (by rw [cells_get K.out.2.1 3]; rfl)
  have CF := Lib.hid (And.intro cf c3')
  clear hW0 hD hxs hob hlow hxl hk hl cf c3' hkx
  go_enter Tryd.func52, Tryd.ntmps52
  by_cases hcap2 : cap = k + 1
  · subst hcap2
    have k7 : (k : Int) ≤ (k : Int) + 1 := by omega
    replace S2 : Hid (SrcAt w (some ⟨b, off, none⟩) 0 0 19 (flatU dqCells ((xs.drop (k + 1)).take (xs.length - (k + 1))))) := Lib.hid (by
      have e : xs.length - (k + 1) = 0 := by omega
      rw [e]
      exact ⟨by simp [flatU], by simp, fun a _ j u hj => by simp [flatU] at hj⟩)
    refine region_goN 19 (fun w' => w'.cell? ⟨c, 3, none⟩ = some (.slice (some ⟨b, off, none⟩) xs.length (k + 1))) (by kernel_rfl) ?hS0 (fun hH => ?_)
    case hS0 =>
      rw [← HW.out]; exact c3
    rw [← HW.out] at hH ⊢
    refine kYN 0 hH ?_
    repeat simp only [Act.put, uA1, uB1, uC1]
    refine kYN 2 hH ?_
    repeat simp only [Act.put, uA1, uB1, uC1]
    refine kYN 3 hH ?_
    repeat simp only [Act.put, uA1, uB1, uC1]
    refine kYN 4 hH ?_
    repeat simp only [Act.put, uA1, uB1, uC1]
    refine kYN 5 hH ?_
    repeat simp only [Act.put, uA1, uB1, uC1]
    refine kYN 6 hH ?_
    repeat simp only [Act.put, uA1, uB1, uC1]
    refine kYN 7 hH ?_
    repeat simp only [Act.put, uA1, uB1, uC1]
    refine kYN 9 hH ?_
    repeat simp only [Act.put, uA1, uB1, uC1]
    refine kYN 10 hH ?_
    repeat simp only [Act.put, uA1, uB1, uC1]
    refine kYN 11 hH ?_
    repeat simp only [Act.put, uA1, uB1, uC1]
    refine kYN 12 hH ?_
    repeat simp only [Act.put, uA1, uB1, uC1]
    refine kYN 13 hH ?_
    repeat simp only [Act.put, uA1, uB1, uC1]
    refine kYN 14 hH ?_
    repeat simp only [Act.put, uA1, uB1, uC1]
    refine kYN 15 hH ?_
    repeat simp only [Act.put, uA1, uB1, uC1]
    refine spkN 1 rfl (by decide) (by decide +kernel) (by rfl) (fun K' hK => ?_)
    go_simp
    have hr0 := own_empty W0 w.heap.size 108 19 hb0.size
    replace hb0 := hb0.alloc hb0.size (.cells #[] 108)
    try dsimp only
    refine hK.out _ _ ?hS (fun hH' => ?_)
    case hS =>
      exact CF.out.2 _ hb0
    clear hK K' hH; have hH := hH'; clear hH'; repeat simp only [Act.put, uA1, uB1, uC1]
    refine spkN 8 rfl (by decide) (by decide +kernel) (by rfl) (fun K' hK => ?_)
    obtain ⟨q2, n2, c2, w2, hrun2, hr2, hg2, -⟩ := run_app rowDQ hr0 hb0.size (S1.out.below hb0) (flatU_one fun r hr => ONE.out r (List.mem_of_mem_drop (List.mem_of_mem_take hr))) (by simp [maxLen]; omega) (by omega)
    refine wp_append_eq hrun2 _ _ rfl rfl rfl ?_
    replace hb0 := hb0.grown hg2 hb0.size (fun b hb => (hr0.lt b hb).1)
    simp only [Nat.zero_add, List.nil_append] at hr2
    clear hrun2 hg2 hr0
    try dsimp only
    refine hK.out _ _ ?hS (fun hH' => ?_)
    case hS =>
      exact CF.out.2 _ hb0
    clear hK K' hH; have hH := hH'; clear hH'; repeat simp only [Act.put, uA1, uB1, uC1]
    refine spkN 16 rfl (by decide) (by decide +kernel) (by rfl) (fun K' hK => ?_)
    obtain ⟨q3, n3, c3, w3, hrun3, hr3, hg3, -⟩ := run_app rowDQ hr2 hb0.size (S2.out.below hb0) (flatU_one fun r hr => ONE.out r (List.mem_of_mem_drop (List.mem_of_mem_take hr))) (by simp [maxLen]; omega) (by omega)
    refine wp_append_eq hrun3 _ _ rfl rfl rfl ?_
    replace hb0 := hb0.grown hg3 hb0.size (fun b hb => (hr2.lt b hb).1)
    have y3 := CF.out.2 _ hb0
    have yf := CF.out.1 _ hb0
    have E := Lib.hid (rem_end K.out.1 K.out.2.1 K.out.2.2.1 K.out.2.2.2 HKX.out hb0 (Nat.le_refl _) hr3)
    clear hrun3 hg3 hr2 hr3
    try dsimp only
    refine hK.out _ _ ?hS (fun hH' => ?_)
    case hS =>
      exact CF.out.2 _ hb0
    clear hK K' hH; have hH := hH'; clear hH'; repeat simp only [Act.put, uA1, uB1, uC1]
    refine spkN 17 rfl (by decide) (by decide +kernel) (by rfl) (fun K' hK => ?_)
    go_simp
    try dsimp only
    refine hK.out _ _ ?hS (fun hH' => ?_)
    case hS =>
      exact CF.out.2 _ hb0
    clear hK K' hH; have hH := hH'; clear hH'; repeat simp only [Act.put, uA1, uB1, uC1]
    refine kYN 18 hH ?_
    repeat simp only [Act.put, uA1, uB1, uC1]
    refine spkL rfl (by decide +kernel) (by rfl) (fun K' hK => ?_)
    go_simp
    try dsimp only
    refine hK.out _ _ ?_
    clear hK K' hH; repeat simp only [Act.put, uA1, uB1, uC1]
    refine anyBut_done (by decide +kernel) ?_ _
    go_wp2_with fail
    go_returns
    exact ⟨rfl, E.out.1, E.out.2⟩
  · have hcap' : ¬ ((cap : Int) = (k : Int) + 1) := by omega
    refine region_goN 19 (fun w' => w'.cell? ⟨c, 3, none⟩ = some (.slice (some ⟨b, off, none⟩) xs.length cap)) (by kernel_rfl) ?hS0 (fun hH => ?_)
    case hS0 =>
      rw [← HW.out]; exact c3
    rw [← HW.out] at hH ⊢
    refine kYN 0 hH ?_
    repeat simp only [Act.put, uA1, uB1, uC1]
    refine kYN 2 hH ?_
    repeat simp only [Act.put, uA1, uB1, uC1]
    refine kYN 3 hH ?_
    repeat simp only [Act.put, uA1, uB1, uC1]
    refine kYN 4 hH ?_
    repeat simp only [Act.put, uA1, uB1, uC1]
    refine kYN 5 hH ?_
    repeat simp only [Act.put, uA1, uB1, uC1]
    refine kYN 6 hH ?_
    repeat simp only [Act.put, uA1, uB1, uC1]
    refine kYN 7 hH ?_
    repeat simp only [Act.put, uA1, uB1, uC1]
    refine kYN 9 hH ?_
    repeat simp only [Act.put, uA1, uB1, uC1]
    refine kYN 10 hH ?_
    repeat simp only [Act.put, uA1, uB1, uC1]
    refine kYN 11 hH ?_
    repeat simp only [Act.put, uA1, uB1, uC1]
    refine kYN 12 hH ?_
    repeat simp only [Act.put, uA1, uB1, uC1]
    refine kYN 13 hH ?_
    repeat simp only [Act.put, uA1, uB1, uC1]
    refine kYN 14 hH ?_
    repeat simp only [Act.put, uA1, uB1, uC1]
    refine kYN 15 hH ?_
    repeat simp only [Act.put, uA1, uB1, uC1]
    refine spkN 1 rfl (by decide) (by decide +kernel) (by rfl) (fun K' hK => ?_)
    go_simp
    have hr0 := own_empty W0 w.heap.size 108 19 hb0.size
    replace hb0 := hb0.alloc hb0.size (.cells #[] 108)
    try dsimp only
    refine hK.out _ _ ?hS (fun hH' => ?_)
    case hS =>
      exact CF.out.2 _ hb0
    clear hK K' hH; have hH := hH'; clear hH'; repeat simp only [Act.put, uA1, uB1, uC1]
    refine spkN 8 rfl (by decide) (by decide +kernel) (by rfl) (fun K' hK => ?_)
    obtain ⟨q2, n2, c2, w2, hrun2, hr2, hg2, -⟩ := run_app rowDQ hr0 hb0.size (S1.out.below hb0) (flatU_one fun r hr => ONE.out r (List.mem_of_mem_drop (List.mem_of_mem_take hr))) (by simp [maxLen]; omega) (by omega)
    refine wp_append_eq hrun2 _ _ rfl rfl rfl ?_
    replace hb0 := hb0.grown hg2 hb0.size (fun b hb => (hr0.lt b hb).1)
    simp only [Nat.zero_add, List.nil_append] at hr2
    clear hrun2 hg2 hr0
    try dsimp only
    refine hK.out _ _ ?hS (fun hH' => ?_)
    case hS =>
      exact CF.out.2 _ hb0
    clear hK K' hH; have hH := hH'; clear hH'; repeat simp only [Act.put, uA1, uB1, uC1]
    refine spkN 16 rfl (by decide) (by decide +kernel) (by rfl) (fun K' hK => ?_)
    obtain ⟨q3, n3, c3, w3, hrun3, hr3, hg3, -⟩ := run_app rowDQ hr2 hb0.size (S2.out.below hb0) (flatU_one fun r hr => ONE.out r (List.mem_of_mem_drop (List.mem_of_mem_take hr))) (by simp [maxLen]; omega) (by omega)
    refine wp_append_eq hrun3 _ _ rfl rfl rfl ?_
    replace hb0 := hb0.grown hg3 hb0.size (fun b hb => (hr2.lt b hb).1)
    have y3 := CF.out.2 _ hb0
    have yf := CF.out.1 _ hb0
    have E := Lib.hid (rem_end K.out.1 K.out.2.1 K.out.2.2.1 K.out.2.2.2 HKX.out hb0 (Nat.le_refl _) hr3)
    clear hrun3 hg3 hr2 hr3
    try dsimp only
    refine hK.out _ _ ?hS (fun hH' => ?_)
    case hS =>
      exact CF.out.2 _ hb0
    clear hK K' hH; have hH := hH'; clear hH'; repeat simp only [Act.put, uA1, uB1, uC1]
    refine spkN 17 rfl (by decide) (by decide +kernel) (by rfl) (fun K' hK => ?_)
    go_simp
    try dsimp only
    refine hK.out _ _ ?hS (fun hH' => ?_)
    case hS =>
      exact CF.out.2 _ hb0
    clear hK K' hH; have hH := hH'; clear hH'; repeat simp only [Act.put, uA1, uB1, uC1]
    refine kYN 18 hH ?_
    repeat simp only [Act.put, uA1, uB1, uC1]
    refine spkL rfl (by decide +kernel) (by rfl) (fun K' hK => ?_)
    go_simp
    try dsimp only
    refine hK.out _ _ ?_
    clear hK K' hH; repeat simp only [Act.put, uA1, uB1, uC1]
    refine anyBut_done (by decide +kernel) ?_ _
    go_wp2_with fail
    go_returns
    exact ⟨rfl, E.out.1, E.out.2⟩

end Go.Proofs.YtfmlhdikagogcaaDoor

namespace Go.Proofs.YtfmlhdikagogcaaDoor
open Go.RowKit
set_option maxRecDepth 20000

theorem foldl_set {α : Type} (q : List α) : ∀ (p z : List α), z.length = q.length → (q.zipIdx p.length).foldl (fun (cs : Array α) (x : α × Nat) => cs.setIfInBounds x.2 x.1) (p ++ z).toArray = (p ++ q).toArray := by
  induction q with
  | nil => intro p z h; have : z = [] := List.eq_nil_of_length_eq_zero h; subst this; rfl
  | cons a q ih =>
    intro p z h
    cases z with
    | nil => simp at h
    | cons b z =>
      simp only [List.zipIdx_cons, List.foldl_cons, List.setIfInBounds_toArray]
      have e : (p ++ b :: z).set p.length a = (p ++ [a]) ++ z := by simp
      rw [e]
      have := ih (p ++ [a]) z (by simpa using h)
      simp only [List.length_append, List.length_cons, List.length_nil] at this
      rw [this]
      simp

theorem fold_zip {α : Type} (z q : Array α) (n : Nat) (h : z.size = q.size) (hn : q.size = n) : Array.foldl (fun (cs : Array α) (x : α × Nat) => cs.setIfInBounds x.2 x.1) z q.zipIdx 0 n = q := by
  have h1 := foldl_set q.toList [] z.toList (by simpa using h)
  subst hn
  have e : q.size = q.zipIdx.size := by simp
  rw [e, ← Array.foldl_toList]
  simpa using h1

theorem load_row_yields {P : Program} {o : Oper} {a : Act} {w : World} (ty : TypeId) (x : Operand) (ho : o.op = .load ty x) (g : Nat) (hx : a.eval x = .pointer (some ⟨g, 0, none⟩)) (t : TypeId) (cs : Array Value) (fr : Nat × Nat) (d : TypeDesc) (hg : w.heap[g]? = some (.cells cs t fr))
    (hu : P.underlying ty = some d) (hd : (match d with | .struct _ | .array _ _ => true | _ => false) = true) (hi : (P.info? ty).map (·.size) = some cs.size) : (execOp a.eval o).run P w = .ok (.value (.agg cs)) w := by
  unfold execOp
  simp only [ho, hx, Instr.loadAt, Instr.sureAddr, Sem.run_bind, Sem.run_pure, Result.andThen_ok, run_loadVar_row w g t ty cs fr d hg hu hd hi]

/-- a guarded load of a whole struct, in a block of its own -/
theorem wpList_rowH {P : Program} {ops : Array Oper} {rest : List Oper} {o : Oper} {a : Act} {w : World} {Q : Exit → Act → World → Prop} (ty : TypeId) (x : Operand) (ho : o.op = .load ty x) (hw : Region.wanted o (yielded ops a.tmps) = true)
    (g : Nat) (hx : a.eval x = .pointer (some ⟨g, 0, none⟩)) (t : TypeId) (cs : Array Value) (fr : Nat × Nat) (d : TypeDesc) (hg : w.heap[g]? = some (.cells cs t fr))
    (hu : P.underlying ty = some d) (hd : (match d with | .struct _ | .array _ _ => true | _ => false) = true) (hi : (P.info? ty).map (·.size) = some cs.size)
    (h : wpList P ops Q rest (a.put o.dst (.agg cs)) w) : wpList P ops Q (o :: rest) a w :=
  wpList_step fun K hK => by rw [if_pos hw]; exact wp_load_row ty x ho g hx t cs fr d hg hu hd hi (hK _ _ h)

theorem rowPart : RowTy Tryd.prog 106 112 3 40 (.agg #[.int .i64 0, .bool false, .slice none 0 0]) := ⟨Tryd.underlying106, by kernel_rfl, rfl, by decide⟩

theorem DTold.nope {w w' : World} {c : Nat} {F E : Nat → Prop} {g : Gz} (h : RefG w c F g) (hb : Below w.heap.size w w') : DTold w c F E [] g (.returned (.slice none 0 0)) w' :=
  ⟨_, [], fun _ => False, F, rfl, World.ownsRow_nil _ _ _ _, rfl, fun r hr => absurd hr (by simp), fun _ h => h.elim, h.below hb, Mod.of_below hb, fun _ h => .inl h⟩

theorem DTold.same {w wr w' : World} {c : Nat} {F E R : Nat → Prop} {g : Gz} {l : List (Int × Nt)} {r : Ending} (hG : RefG w c F g) (hb : Below w.heap.size w wr) (h : NewMails wr 120 R l r w') : DTold w c F E l g r w' := by
  obtain ⟨v, rs, G, rfl, ho, hs, hm, hG', hb'⟩ := h
  have hbb := hb.trans (hb'.mono hb.size)
  exact ⟨v, rs, G, F, rfl, own_mono ho hb.size, hs, hm, fun k hk => (hG' k hk).1, hG.below hbb, Mod.of_below hbb, fun _ h => .inl h⟩

/-- behind a change of the gather -/
theorem DTold.after {w wr w' : World} {c : Nat} {F E R F' : Nat → Prop} {g' : Gz} {l : List (Int × Nt)} {r : Ending} (hG : RefG wr c F' g') (hm : Mod (fun k => k = c) w wr) (hF : ∀ k, F' k → F k ∨ E k ∨ w.heap.size ≤ k) (h : NewMails wr 120 R l r w') : DTold w c F E l g' r w' := by
  obtain ⟨v, rs, G, rfl, ho, hs, hmm, hG', hb'⟩ := h
  exact ⟨v, rs, G, F', rfl, own_mono ho hm.size, hs, hmm, fun k hk => (hG' k hk).1, hG.below hb', hm.andBelow hb', hF⟩

theorem DTold.quiet {w wr w' : World} {c : Nat} {F E F' : Nat → Prop} {g' : Gz} (hG : RefG wr c F' g') (hm : Mod (fun k => k = c) w wr) (hF : ∀ k, F' k → F k ∨ E k ∨ w.heap.size ≤ k) (hb : Below wr.heap.size wr w') : DTold w c F E [] g' (.returned (.slice none 0 0)) w' :=
  ⟨_, [], fun _ => False, F', rfl, World.ownsRow_nil _ _ _ _, rfl, fun r hr => absurd hr (by simp), fun _ h => h.elim, hG.below hb, hm.andBelow hb, hF⟩

/-- the parts of a new question, while they are put -/
def docP (n : Nt) (sh : Int) (k : Nat) : List Int := ((List.range k).map fun (p : Nat) => (p : Int) + 1).filter fun p => decide (0 < n.vec.length) || homeZ n.id sh == p - 1

theorem docP_succ (n : Nt) (sh : Int) (k : Nat) : docP n sh (k + 1) = docP n sh k ++ (if (decide (0 < n.vec.length) || homeZ n.id sh == (k : Int)) = true then [(k : Int) + 1] else []) := by
  unfold docP
  rw [List.range_succ, List.map_append, List.filter_append]
  congr 1
  simp only [List.map_cons, List.map_nil, List.filter_cons, List.filter_nil, Int.add_sub_cancel]

theorem docP_len (n : Nt) (sh : Int) (k : Nat) : (docP n sh k).length ≤ k := by
  have := List.length_filter_le (fun p => decide (0 < n.vec.length) || homeZ n.id sh == p - 1) ((List.range k).map fun (p : Nat) => (p : Int) + 1)
  simpa [docP] using this

theorem docP_one (n : Nt) (sh : Int) (hn : n.vec.length = 0) (h0 : 0 ≤ homeZ n.id sh) (k : Nat) : docP n sh k = if homeZ n.id sh < (k : Int) then [1 + homeZ n.id sh] else [] := by
  induction k with
  | zero => rw [if_neg (by simpa using h0)]; rfl
  | succ k ih =>
    rw [docP_succ, ih]
    have hd : decide (0 < n.vec.length) = false := by simp [hn]
    rw [hd, Bool.false_or]
    by_cases h1 : homeZ n.id sh < (k : Int)
    · rw [if_pos h1, if_neg (show ¬ (homeZ n.id sh == (k : Int)) = true by simp; omega), if_pos (show homeZ n.id sh < ((k + 1 : Nat) : Int) by omega), List.append_nil]
    · rw [if_neg h1]
      by_cases h2 : homeZ n.id sh = (k : Int)
      · rw [if_pos (show (homeZ n.id sh == (k : Int)) = true by simp [h2]), if_pos (show homeZ n.id sh < ((k + 1 : Nat) : Int) by omega), h2, List.nil_append, Int.add_comm]
      · rw [if_neg (show ¬ (homeZ n.id sh == (k : Int)) = true by simp [h2]), if_neg (show ¬ homeZ n.id sh < ((k + 1 : Nat) : Int) by omega)]; rfl

theorem docP_all (g : Gz) (n : Nt) (frm stamp mark : Int) (h : 1 ≤ g.shards) : docP n g.shards g.shards.toNat = (askQ g frm n stamp mark).parts := by
  unfold askQ
  simp only
  by_cases hv : n.vec.length = 0
  · obtain ⟨h1, h2⟩ := home_range n.id g.shards h
    rw [if_pos hv, docP_one n _ hv h1, if_pos (by omega)]
  · rw [if_neg hv]
    unfold docP
    have hd : decide (0 < n.vec.length) = true := by simp; omega
    rw [hd]
    simp

theorem askZ_odd {g : Gz} {frm : Int} {n : Nt} {stamp mark : Int} (h : oddB frm n 8 = true) : askZ g frm n stamp mark = ([], g) := by unfold askZ; rw [h, if_pos rfl]

theorem oddB_kind {frm : Int} {n : Nt} {k : Int} (h : n.kind ≠ k) : oddB frm n k = true := by
  unfold oddB
  rw [show (n.kind != k) = true from bne_iff_ne.2 h]; simp

theorem oddB_right {frm : Int} {n : Nt} {k : Int} (h : rightN n = false) : oddB frm n k = true := by
  unfold oddB
  rw [h]; simp

theorem oddB_low {frm : Int} {n : Nt} {k : Int} (h : frm < 0) : oddB frm n k = true := by
  unfold oddB
  rw [decide_eq_true h]; simp

theorem oddB_high {frm : Int} {n : Nt} {k : Int} (h : 15 < frm) : oddB frm n k = true := by
  unfold oddB
  rw [decide_eq_true (show 16 ≤ frm by omega)]; simp

theorem oddB_no {frm : Int} {n : Nt} {k : Int} (h1 : n.kind = k) (h2 : rightN n = true) (h3 : ¬ frm < 0) (h4 : ¬ 15 < frm) : oddB frm n k = false := by
  unfold oddB
  rw [h2, decide_eq_false h3, decide_eq_false (show ¬ 16 ≤ frm by omega), show (n.kind != k) = false by simp [h1]]; rfl

theorem note_range {w : World} {b : Nat} {n : Nt} {vp vo vv vh : Value} {t : TypeId} {fr : Nat × Nat} (h : w.heap[b]? = some (.cells (n.cells vp vo vv vh) t fr)) (j : Nat) : w.cell? ⟨b, j, none⟩ = (n.cells vp vo vv vh)[j]? := cells_get h j

theorem DocF.place {w : World} {F : Nat → Prop} {p : Option Addr} {n c : Nat} {xs : List (Qs × Dq)} (h : DocF w F (.slice p n c) xs) : p = none ∨ ∃ b off, p = some ⟨b, off, none⟩ ∧ F b := by
  obtain ⟨p', cap, hv, h1, h2, h3, h4, h5⟩ := h
  obtain ⟨rfl, rfl, rfl⟩ := Value.slice.inj hv
  exact h3

/-- a part that has not told -/
def bareP (p : Int) : Pv := ⟨p, false, .slice none 0 0⟩

/-- the parts of a new question, while they are put -/
structure DPart (W wr : World) (qb : Nat) (QV : Array Value) (ps : List Int) (pv : Value) : Prop where
  mod : Mod (fun j => j = qb) W wr
  blk : wr.heap[qb]? = some (.cells (QV.setIfInBounds 18 pv) 108 (0, 0))
  own : wr.ownsRow W.heap.size 112 3 pv ps.length (flatU Pv.cells (ps.map bareP))

theorem DPart.start {W : World} {qb : Nat} {QV : Array Value} (h : W.heap[qb]? = some (.cells QV 108 (0, 0))) (hc : QV.setIfInBounds 18 (.slice none 0 0) = QV) : DPart W W qb QV [] (.slice none 0 0) :=
  ⟨Mod.refl _ _, by rw [hc]; exact h, World.ownsRow_nil _ _ _ _⟩

theorem DPart.below {W wr w' : World} {qb : Nat} {QV : Array Value} {ps : List Int} {pv : Value} (h : DPart W wr qb QV ps pv) (hb : Below wr.heap.size wr w') : DPart W w' qb QV ps pv :=
  ⟨h.mod.andBelow hb, (hb.block _ (lt_block h.blk)).trans h.blk, own_below h.own hb⟩

theorem DPart.step {W wr w5 : World} {qb : Nat} {QV : Array Value} {ps : List Int} {p : Int} {pv pv' : Value} {o : Obj} (h : DPart W wr qb QV ps pv) (hbq : qb < W.heap.size) (hg : (wr.alloc o).grownBy w5 pv.ownBlock)
    (ho : w5.ownsRow W.heap.size 112 3 pv' (ps.length + 1) (flatU Pv.cells (ps.map bareP) ++ [.int .i64 p, .bool false, .slice none 0 0])) : DPart W (w5.setCell ⟨qb, 18, none⟩ pv') qb QV (ps ++ [p]) pv' := by
  have hs := h.mod.size
  have hne : ∀ j, pv.ownBlock = some j → W.heap.size ≤ j := fun j e => (h.own.lt j e).1
  have hb : w5.heap[qb]? = wr.heap[qb]? := by
    rw [hg.block qb (by rw [World.size_alloc]; omega) (fun e => by have := hne qb e.symm; omega)]
    exact Below.heap_alloc wr o qb (by omega)
  refine ⟨?_, ?_, ?_⟩
  · exact Mod.setCell (F := fun j => j = qb) ((h.mod.andBelow ((Below.refl _ _).alloc (Nat.le_refl _) o)).grown hg (fun j e => .inr (hne j e))) (p := ⟨qb, 18, none⟩) (.inl rfl) _
  · have := set_block (hb.trans h.blk) 18 pv'
    rw [this]
    simp
  · rw [List.map_append, flatU_append, List.length_append]
    exact ho.kept (grownBy_setCells qb [pv'] 18 w5) (.inr (fun e => by have := (ho.lt _ e).1; omega))

/-- they are the question's -/
theorem DPart.parts {W wr : World} {qb : Nat} {QV : Array Value} {ps : List Int} {pv : Value} (h : DPart W wr qb QV ps pv) {q : Qs} (hp : q.parts = ps) (ht : q.told = []) : PartsF wr (fun k => W.heap.size ≤ k ∧ k < wr.heap.size) pv (partsOf q) := by
  refine PartsF.of_own h.own (fun b e => h.own.lt b e) (by rw [partsOf_length, hp, List.length_map]) fun i h1 h2 => ?_
  rw [partsOf_length] at h2
  rw [partsOf_get q i _ h2, ht]
  simp only [List.getElem_map, bareP, hp]
  exact ⟨trivial, rfl, HitsF.nil _ _⟩

/-- a question is put behind the others -/
theorem RefG.added {w w5 : World} {c B : Nat} {F : Nat → Prop} {g : Gz} {q : Qs} {d : Dq} {xs : List (Qs × Dq)} {v v' : Value} {L : Int} {QP : Array Value} (hxs : xs.map (·.1) = g.l) (hlow : ∀ k, F k → k < w.heap.size ∧ k ≠ c) (hcs : c < w.heap.size) (hD : ∀ x ∈ xs, DqAt w F x.1 x.2)
    (hm : Mod (fun k => k = c) w w5) (hc : w5.heap[c]? = some (.cells #[.int .i64 g.shards, .int .i64 g.dim, .int .u64 L, v] 68 (0, 0))) (hQ : QP.toList = dqCells (q, d)) (hB : w.heap.size ≤ B) (hq : DqAt w5 (Plus F w w5) q d)
    (ho : w5.ownsRow B 108 19 v' (xs.length + 1) (flatU dqCells xs ++ QP.toList)) :
    RefG (w5.setCell ⟨c, 3, none⟩ v') c (Plus F w (w5.setCell ⟨c, 3, none⟩ v')) {g with last := L, l := g.l ++ [q]} ∧ Mod (fun k => k = c) w (w5.setCell ⟨c, 3, none⟩ v') := by
  have hm' : Mod (fun k => k = c) w (w5.setCell ⟨c, 3, none⟩ v') := Mod.setCell (F := fun k => k = c) hm (p := ⟨c, 3, none⟩) (.inl rfl) _
  have hsz : (w5.setCell ⟨c, 3, none⟩ v').heap.size = w5.heap.size := by simp [World.setCell]
  rw [hQ, show dqCells (q, d) = flatU dqCells [(q, d)] by simp [flatU], ← flatU_append] at ho
  refine ⟨RefG.rowed hlow hm' hcs (set_block hc 3 v') (ho.kept (grownBy_setCells c [v'] 3 w5) (.inr (by intro e; have := (ho.lt c e).1; omega))) hB (fun x hx => ?_) (by simp [hxs]), hm'⟩
  rcases List.mem_append.1 hx with hx | hx
  · exact ((hD x hx).agree (Agree.of_mod hm' (fun j hj => (hlow j hj).1) (fun j hj => (hlow j hj).2))).mono fun j hj => .inl hj
  · rw [List.mem_singleton.1 hx]
    have hne : ∀ j, Plus F w w5 j → j ≠ c := fun j hj => hj.elim (fun h => (hlow j h).2) (fun h => by omega)
    refine (hq.agree (w' := w5.setCell ⟨c, 3, none⟩ v') fun j hj => Below.heap_setCell _ _ _ _ (hne j hj)).mono fun j hj => ?_
    exact hj.elim .inl (fun h => .inr ⟨h.1, by rw [hsz]; exact h.2⟩)

end Go.Proofs.YtfmlhdikagogcaaDoor
