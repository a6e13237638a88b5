/-
  best: the worst; all; many are added.
-/
import Derived.Test.YtfjhipaoljnfaaaBestH
namespace Go.Proofs.Ytfjhipaoljnfaaa
open Go.RowKit

/-- Worst of a list with hits: a copy of the last -/
def WorstIs (w : World) (h : Hz) (e : Ending) (w' : World) : Prop :=
  ∃ u, e = .returned (.tuple #[.agg #[.int .u64 h.id, .int .u64 h.dist, u], .bool true]) ∧ w'.ownsRow w.heap.size 21 1 u h.vec.length (h.vec.map (Value.int .i32)) ∧ Below w.heap.size w w'

def WorstNo (w : World) (e : Ending) (w' : World) : Prop :=
  e = .returned (.tuple #[.agg #[.int .u64 0, .int .u64 0, .slice none 0 0], .bool false]) ∧ Below w.heap.size w w'

theorem results_cell_tmp {P : Program} {fn : Func} {p q : Tmp} {ty : TypeId} (h : fn.results = #[.cell p ty, .tmp q]) (tmps : Array Value) (w : World) (g o : Nat) (cs : List Value) (d : TypeDesc)
    (hp : tmps.getD p undef = .pointer (some ⟨g, o, none⟩)) (hc : w.rangeAt g o cs) (hu : P.underlying ty = some d) (hd : d.isRow = true) (hi : (P.info? ty).map (·.size) = some cs.length) :
    (results fn tmps).run P w = .ok (.tuple #[.agg cs.toArray, tmps.getD q undef]) w := by
  have hp' : tmps[p]?.getD undef = .pointer (some ⟨g, o, none⟩) := by simpa using hp
  simp [results, h, hp', asAddr, run_loadVar_mid w g o ty cs d hc hu hd hi]

theorem range3 {w : World} {g : Nat} {x y z : Value} (h0 : w.cell? ⟨g, 0, none⟩ = some x) (h1 : w.cell? ⟨g, 1, none⟩ = some y) (h2 : w.cell? ⟨g, 2, none⟩ = some z) : w.rangeAt g 0 [x, y, z] := by
  intro j v hj
  match j, hj with
  | 0, hj => simp at hj; subst hj; exact h0
  | 1, hj => simp at hj; subst hj; exact h1
  | 2, hj => simp at hj; subst hj; exact h2
  | (n + 3), hj => simp at hj

/-- a struct of three cells is written whole -/
theorem range_set3 {w : World} {g : Nat} {x y z x' y' z' : Value} (h0 : w.cell? ⟨g, 0, none⟩ = some x') (h1 : w.cell? ⟨g, 1, none⟩ = some y') (h2 : w.cell? ⟨g, 2, none⟩ = some z') :
    (((w.setCell ⟨g, 0, none⟩ x).setCell ⟨g, 1, none⟩ y).setCell ⟨g, 2, none⟩ z).rangeAt g 0 [x, y, z] := by
  have x1 : (w.setCell ⟨g, 0, none⟩ x).cell? ⟨g, 1, none⟩ = some y' := by rw [World.cell?_setCell_other _ _ _ _ (by simp)]; exact h1
  have x2 : ((w.setCell ⟨g, 0, none⟩ x).setCell ⟨g, 1, none⟩ y).cell? ⟨g, 2, none⟩ = some z' := by rw [World.cell?_setCell_other _ _ _ _ (by simp), World.cell?_setCell_other _ _ _ _ (by simp)]; exact h2
  refine range3 ?_ ?_ ?_
  · rw [World.cell?_setCell_other _ _ _ _ (by simp), World.cell?_setCell_other _ _ _ _ (by simp), World.cell?_setCell_same _ _ _ h0]
  · rw [World.cell?_setCell_other _ _ _ _ (by simp), World.cell?_setCell_same _ _ _ x1]
  · rw [World.cell?_setCell_same _ _ _ x2]

theorem cell_set3 {w : World} {g : Nat} {x y z v : Value} {a : Addr} (h : g ≠ a.block) (hv : w.cell? a = some v) : (((w.setCell ⟨g, 0, none⟩ x).setCell ⟨g, 1, none⟩ y).setCell ⟨g, 2, none⟩ z).cell? a = some v := by
  have hn : ∀ i : Nat, (⟨g, i, none⟩ : Addr) ≠ a := fun i e => h (by rw [← e])
  rw [World.cell?_setCell_other _ _ _ _ (hn _), World.cell?_setCell_other _ _ _ _ (hn _), World.cell?_setCell_other _ _ _ _ (hn _)]
  exact hv

/-- written over below what is owned -/
theorem own_set3 {w : World} {B e n g : Nat} {v x y z : Value} {xs : List Value} (h : w.ownsRow B e 1 v n xs) (hg : g < B) : (((w.setCell ⟨g, 0, none⟩ x).setCell ⟨g, 1, none⟩ y).setCell ⟨g, 2, none⟩ z).ownsRow B e 1 v n xs := by
  have hlt : ∀ b, v.ownBlock = some b → B ≤ b := fun b hb => (h.lt b hb).1
  refine ownsRow_setCell_other (ownsRow_setCell_other (ownsRow_setCell_other h ?_ _) ?_ _) ?_ _
  all_goals exact fun e => by have := hlt _ e; dsimp only at this; omega

set_option maxHeartbeats 4000000 in
theorem worst_nil (w : World) : Calls Try.prog 19 #[.pointer none] w (WorstNo w) := by
  have HB := Lib.hid ((Below.refl w.heap.size w).alloc (Nat.le_refl _) (Obj.cells #[Value.int .u64 0, Value.int .u64 0, Value.slice none 0 0] 35))
  go_enter Try.func19, Try.ntmps19
  go_wp2_with fail
  refine (len_nil _).mono ?_
  rintro e w' ⟨rfl, rfl⟩
  go_wp2_with fail
  refine bodyPost_ret (results_cell_tmp (p := 2) (q := 3) (by kernel_rfl) _ _ w.heap.size 0 [.int .u64 0, .int .u64 0, .slice none 0 0] _ (by rfl) (range3 (by go_simp) (by go_simp) (by go_simp)) Try.underlying35 rfl (by kernel_rfl)) rfl ?_
  exact ⟨rfl, HB.out⟩

set_option maxHeartbeats 4000000 in
theorem worst_none (B c : Nat) (most : Int) (v : Value) (rs : List Hv) (G : Nat → Prop) (w : World) (h : ListOwn w B c most v rs G []) : Calls Try.prog 19 #[.pointer (some ⟨c, 0, none⟩)] w (WorstNo w) := by
  have HB := Lib.hid ((Below.refl w.heap.size w).alloc (Nat.le_refl _) (Obj.cells #[Value.int .u64 0, Value.int .u64 0, Value.slice none 0 0] 35))
  have LN := Lib.hid (len B c most v rs G [] _ (h.below HB.out))
  clear h
  go_enter Try.func19, Try.ntmps19
  go_wp2_with fail
  refine LN.out.mono ?_
  rintro e w' ⟨rfl, rfl⟩
  go_wp2_with fail
  refine bodyPost_ret (results_cell_tmp (p := 2) (q := 3) (by kernel_rfl) _ _ w.heap.size 0 [.int .u64 0, .int .u64 0, .slice none 0 0] _ (by rfl) (range3 (by go_simp) (by go_simp) (by go_simp)) Try.underlying35 rfl (by kernel_rfl)) rfl ?_
  exact ⟨rfl, HB.out⟩

set_option maxHeartbeats 8000000 in
theorem worst_some (B c : Nat) (most : Int) (v : Value) (rs : List Hv) (G : Nat → Prop) (l : List Hz) (n : Nat) (hk : n < l.length) (hn : l.length = n + 1) (hn2 : n ≤ 1000000) (hx : l[n].vec.length ≤ 1000000) (w : World) (h : ListOwn w B c most v rs G l) :
    Calls Try.prog 19 #[.pointer (some ⟨c, 0, none⟩)] w (WorstIs w l[n]) := by
  have HB := Lib.hid ((Below.refl w.heap.size w).alloc (Nat.le_refl _) (Obj.cells #[Value.int .u64 0, Value.int .u64 0, Value.slice none 0 0] 35))
  have LN := Lib.hid (len B c most v rs G l _ (h.below HB.out))
  have hO := h.below HB.out
  have hcw : c < w.heap.size := lt_block h.obj
  have hvw := h.row.lt
  obtain ⟨g, cap, hv, -, -⟩ := hO.row.form (by rw [hO.rows.len]; omega)
  obtain ⟨-, k1, -⟩ := hO.cells
  subst hv
  have hgw : g < w.heap.size := (hvw g rfl).2
  have hcg : w.heap.size ≠ c ∧ w.heap.size ≠ g := ⟨by omega, by omega⟩
  clear hvw
  have hlr : rs.length = l.length := hO.rows.len
  rw [hlr] at k1 hO
  obtain ⟨rs', -, -, hel⟩ := hO.hits.rows
  obtain ⟨bb, off, up, uc, -, hpb, -, -, c0, c1, c2, hu, -⟩ := hel n (by omega)
  obtain ⟨rfl, rfl⟩ : g = bb ∧ 0 = off := by simpa using hpb
  simp only [Nat.zero_add] at c0 c1 c2
  have z0 : (w.alloc (Obj.cells #[Value.int .u64 0, Value.int .u64 0, Value.slice none 0 0] 35)).cell? ⟨w.heap.size, 0, none⟩ = some (.int .u64 0) := by go_simp
  have z1 : (w.alloc (Obj.cells #[Value.int .u64 0, Value.int .u64 0, Value.slice none 0 0] 35)).cell? ⟨w.heap.size, 1, none⟩ = some (.int .u64 0) := by go_simp
  have z2 : (w.alloc (Obj.cells #[Value.int .u64 0, Value.int .u64 0, Value.slice none 0 0] 35)).cell? ⟨w.heap.size, 2, none⟩ = some (.slice none 0 0) := by go_simp
  have f0 : (w.alloc (Obj.cells #[Value.int .u64 0, Value.int .u64 0, Value.slice none 0 0] 35)).frozen? ⟨w.heap.size, 0, none⟩ = false := by go_simp
  have f1 : (w.alloc (Obj.cells #[Value.int .u64 0, Value.int .u64 0, Value.slice none 0 0] 35)).frozen? ⟨w.heap.size, 1, none⟩ = false := by go_simp
  have f2 : (w.alloc (Obj.cells #[Value.int .u64 0, Value.int .u64 0, Value.slice none 0 0] 35)).frozen? ⟨w.heap.size, 2, none⟩ = false := by go_simp
  have HSUB := Lib.hid (show IntKind.i64.wrap ((l.length : Int) - 1) = (n : Int) by rw [IntWalk.i64_in _ (by omega)]; omega)
  have hn0 : (0 : Int) ≤ (n : Int) := by omega
  have hnl : (n : Int) < (l.length : Int) := by omega
  have hz : ((l.length : Int) == 0) = false := by rw [beq_eq_false_iff_ne]; omega
  have UH := Lib.hid hu
  have XH := Lib.hid hx
  have N1 := Lib.hid hn
  clear h hO hel hpb hu hlr hx hn
  go_enter Try.func19, Try.ntmps19
  go_wp2_with fail
  refine LN.out.mono ?_
  rintro e w' ⟨rfl, rfl⟩
  generalize (w.alloc (Obj.cells #[Value.int .u64 0, Value.int .u64 0, Value.slice none 0 0] 35)) = W1 at *
  go_wp2_with fail
  obtain ⟨W0, hW0⟩ : ∃ W0, W0 = W1.drew := ⟨_, rfl⟩
  have b0 : Below W1.heap.size W1 W0 := by rw [hW0]; exact (Below.refl _ _).drew
  replace k1 := below_cells b0 k1
  replace c0 := below_cells b0 c0
  replace c1 := below_cells b0 c1
  replace c2 := below_cells b0 c2
  replace f0 := below_frozen b0 (lt_of_cell z0) f0
  replace f1 := below_frozen b0 (lt_of_cell z1) f1
  replace f2 := below_frozen b0 (lt_of_cell z2) f2
  replace z0 := below_cells b0 z0
  replace z1 := below_cells b0 z1
  replace z2 := below_cells b0 z2
  have CP := Lib.hid (copyOf l[n] _ W0 (UH.out.below b0) XH.out)
  have B1 := Lib.hid (HB.out.trans (b0.mono HB.out.size))
  have HW := Lib.hid hW0
  have hs1 := HSUB.out
  have ht1 : ((n : Int)).toNat = n := Int.toNat_natCast _
  have hzW : w.heap.size < W0.heap.size := lt_of_cell z0
  clear hW0 b0
  refine region_go (fun w' => w'.cell? ⟨c, 1, none⟩ = some (.slice (some ⟨g, 0, none⟩) l.length cap) ∧ w'.cell? ⟨g, n * 3, none⟩ = some (.int .u64 l[n].id) ∧ w'.cell? ⟨g, n * 3 + 1, none⟩ = some (.int .u64 l[n].dist) ∧ w'.cell? ⟨g, n * 3 + 1 + 1, none⟩ = some (.slice up l[n].vec.length uc)) (by kernel_rfl) ?hS0 (fun hH => ?_)
  case hS0 =>
    rw [← HW.out]; exact ⟨k1, c0, c1, c2⟩
  rw [← HW.out] at hH ⊢
  refine tkY (v := ?_) 0 hH rfl (fun _ _ _ h => h) ?hc ?hw ?hy ?_
  case hc => decide +kernel
  case hw => rfl
  case hy => (intro w hS; (try dsimp only at hS); go_simp; try with_reducible rfl)
  (try simp only [Act.put]); (repeat (first | simp only [List.setIfInBounds_toArray] | simp only [List.set_cons_zero] | simp only [List.set_cons_succ]))
  refine tkY (v := ?_) 1 hH rfl (fun _ _ _ h => h) ?hc ?hw ?hy ?_
  case hc => decide +kernel
  case hw => rfl
  case hy => (intro w hS; (try dsimp only at hS); go_simp; try with_reducible rfl)
  (try simp only [Act.put]); (repeat (first | simp only [List.setIfInBounds_toArray] | simp only [List.set_cons_zero] | simp only [List.set_cons_succ]))
  refine tkY (v := ?_) 2 hH rfl (fun _ _ _ h => h) ?hc ?hw ?hy ?_
  case hc => decide +kernel
  case hw => rfl
  case hy => (intro w hS; (try dsimp only at hS); go_simp; try with_reducible rfl)
  (try simp only [Act.put]); (repeat (first | simp only [List.setIfInBounds_toArray] | simp only [List.set_cons_zero] | simp only [List.set_cons_succ]))
  refine tkY (v := ?_) 3 hH rfl (fun _ _ _ h => h) ?hc ?hw ?hy ?_
  case hc => decide +kernel
  case hw => rfl
  case hy => (intro w hS; (try dsimp only at hS); go_simp; try with_reducible rfl)
  (try simp only [Act.put]); (repeat (first | simp only [List.setIfInBounds_toArray] | simp only [List.set_cons_zero] | simp only [List.set_cons_succ]))
  refine tkY (v := ?_) 4 hH rfl (fun _ _ _ h => h) ?hc ?hw ?hy ?_
  case hc => decide +kernel
  case hw => rfl
  case hy => (intro w hS; (try dsimp only at hS); go_simp; try with_reducible rfl)
  (try simp only [Act.put]); (repeat (first | simp only [List.setIfInBounds_toArray] | simp only [List.set_cons_zero] | simp only [List.set_cons_succ]))
  refine tkY (v := ?_) 5 hH rfl (fun _ _ _ h => h) ?hc ?hw ?hy ?_
  case hc => decide +kernel
  case hw => rfl
  case hy => (intro w hS; (try dsimp only at hS); go_simp; try with_reducible rfl)
  (try simp only [Act.put]); (repeat (first | simp only [List.setIfInBounds_toArray] | simp only [List.set_cons_zero] | simp only [List.set_cons_succ]))
  refine tkY (v := ?_) 6 hH rfl (fun _ _ _ h => h) ?hc ?hw ?hy ?_
  case hc => decide +kernel
  case hw => rfl
  case hy => (intro w hS; (try dsimp only at hS); go_simp; try with_reducible rfl)
  (try simp only [Act.put]); (repeat (first | simp only [List.setIfInBounds_toArray] | simp only [List.set_cons_zero] | simp only [List.set_cons_succ]))
  refine tkY (v := ?_) 7 hH rfl (fun _ _ _ h => h) ?hc ?hw ?hy ?_
  case hc => decide +kernel
  case hw => rfl
  case hy => (intro w hS; (try dsimp only at hS); go_simp; try with_reducible rfl)
  (try simp only [Act.put]); (repeat (first | simp only [List.setIfInBounds_toArray] | simp only [List.set_cons_zero] | simp only [List.set_cons_succ]))
  refine tkY (v := ?_) 8 hH rfl (fun _ _ _ h => h) ?hc ?hw ?hy ?_
  case hc => decide +kernel
  case hw => rfl
  case hy => (intro w hS; (try dsimp only at hS); go_simp; try with_reducible rfl)
  (try simp only [Act.put]); (repeat (first | simp only [List.setIfInBounds_toArray] | simp only [List.set_cons_zero] | simp only [List.set_cons_succ]))
  refine tkY (v := ?_) 9 hH rfl (fun _ _ _ h => h) ?hc ?hw ?hy ?_
  case hc => decide +kernel
  case hw => rfl
  case hy => (intro w hS; (try dsimp only at hS); go_simp; try with_reducible rfl)
  (try simp only [Act.put]); (repeat (first | simp only [List.setIfInBounds_toArray] | simp only [List.set_cons_zero] | simp only [List.set_cons_succ]))
  refine tkY (v := ?_) 10 hH rfl (fun _ _ _ h => h) ?hc ?hw ?hy ?_
  case hc => decide +kernel
  case hw => rfl
  case hy => (intro w hS; (try dsimp only at hS); go_simp; try with_reducible rfl)
  (try simp only [Act.put]); (repeat (first | simp only [List.setIfInBounds_toArray] | simp only [List.set_cons_zero] | simp only [List.set_cons_succ]))
  refine tkY (v := ?_) 11 hH rfl (fun _ _ _ h => h) ?hc ?hw ?hy ?_
  case hc => decide +kernel
  case hw => rfl
  case hy => (intro w hS; (try dsimp only at hS); go_simp; try with_reducible rfl)
  (try simp only [Act.put]); (repeat (first | simp only [List.setIfInBounds_toArray] | simp only [List.set_cons_zero] | simp only [List.set_cons_succ]))
  refine spk 12 rfl ?hr ?hw (fun K' hK => ?_)
  case hr => decide +kernel
  case hw => rfl
  go_simp
  refine CP.out.mono ?_
  rintro e w4 ⟨u4, rfl, hu4, hb4⟩
  obtain ⟨q4, m4, k4, rfl⟩ := own_form hu4
  have y0 := below_cells hb4 z0
  have y1 := below_cells hb4 z1
  have y2 := below_cells hb4 z2
  have e0 := below_frozen hb4 (a := ⟨w.heap.size, 0, none⟩) hzW f0
  have e1 := below_frozen hb4 (a := ⟨w.heap.size, 1, none⟩) hzW f1
  have e2 := below_frozen hb4 (a := ⟨w.heap.size, 2, none⟩) hzW f2
  try dsimp only
  refine hK.out _ _ ?hS (fun hH' => ?_)
  case hS =>
    exact ⟨below_cells hb4 k1, below_cells hb4 c0, below_cells hb4 c1, below_cells hb4 c2⟩
  clear hK K' hH; have hH := hH'; clear hH'; (try simp only [Act.put]); (repeat (first | simp only [List.setIfInBounds_toArray] | simp only [List.set_cons_zero] | simp only [List.set_cons_succ]))
  refine spk 13 rfl ?hr ?hw (fun K' hK => ?_)
  case hr => decide +kernel
  case hw => rfl
  go_simp
  try dsimp only
  refine hK.out _ _ ?hS (fun hH' => ?_)
  case hS =>
    exact ⟨cell_set3 hcg.1 (below_cells hb4 k1), cell_set3 hcg.2 (below_cells hb4 c0), cell_set3 hcg.2 (below_cells hb4 c1), cell_set3 hcg.2 (below_cells hb4 c2)⟩
  clear hK K' hH; have hH := hH'; clear hH'; (try simp only [Act.put]); (repeat (first | simp only [List.setIfInBounds_toArray] | simp only [List.set_cons_zero] | simp only [List.set_cons_succ]))
  refine tkY (v := ?_) 14 hH rfl (fun _ _ _ h => h) ?hc ?hw ?hy ?_
  case hc => decide +kernel
  case hw => rfl
  case hy => (intro w hS; (try dsimp only at hS); go_simp; try with_reducible rfl)
  (try simp only [Act.put]); (repeat (first | simp only [List.setIfInBounds_toArray] | simp only [List.set_cons_zero] | simp only [List.set_cons_succ]))
  refine wpAnyH_done (by decide +kernel) ?_ _
  have RG := range_set3 (x := .int .u64 l[n].id) (y := .int .u64 l[n].dist) (z := .slice q4 m4 k4) y0 y1 y2
  have OW := own_mono (own_set3 (x := .int .u64 l[n].id) (y := .int .u64 l[n].dist) (z := .slice q4 m4 k4) hu4 hzW) (base' := w.heap.size) (Nat.le_of_lt hzW)
  have BW := (((B1.out.trans (hb4.mono B1.out.size)).setCell (p := ⟨w.heap.size, 0, none⟩) (Nat.le_refl _) (.int .u64 l[n].id)).setCell (p := ⟨w.heap.size, 1, none⟩) (Nat.le_refl _) (.int .u64 l[n].dist)).setCell (p := ⟨w.heap.size, 2, none⟩) (Nat.le_refl _) (.slice q4 m4 k4)
  clear hH hu4 hb4 y0 y1 y2 e0 e1 e2
  generalize (((w4.setCell ⟨w.heap.size, 0, none⟩ (.int .u64 l[n].id)).setCell ⟨w.heap.size, 1, none⟩ (.int .u64 l[n].dist)).setCell ⟨w.heap.size, 2, none⟩ (.slice q4 m4 k4)) = W9 at *
  go_wp2_with fail
  refine bodyPost_ret (results_cell_tmp (p := 2) (q := 3) (by kernel_rfl) _ W9 w.heap.size 0 [.int .u64 l[n].id, .int .u64 l[n].dist, .slice q4 m4 k4] _ (by rfl) RG Try.underlying35 rfl (by kernel_rfl)) rfl ?_
  exact ⟨_, rfl, OW, BW⟩

end Go.Proofs.Ytfjhipaoljnfaaa
