/- best: the worst; all; many are added. best: all hits are told, anew. best, the plain law: a good list stays good. walk: what a walk is: the best, what was seen, what is to be gone to. -/
import Derived.Test.YtpjbkaibgajpcaaGreatJ05
namespace Go.Proofs.YtpjbkaibgajpcaaGreat
open Go.RowKit
set_option maxRecDepth 20000

def WorstIs (w : World) (h : Hz) (e : Ending) (w' : World) : Prop :=
  ∃ u, e = .returned (.tuple #[.agg #[.int .u64 h.id, .int .u64 h.dist, u], .bool true]) ∧ w'.ownsRow w.heap.size 21 1 u h.vec.length (h.vec.map (Value.int .i32)) ∧ Below w.heap.size w w'

def WorstNo (w : World) (e : Ending) (w' : World) : Prop :=
  e = .returned (.tuple #[.agg #[.int .u64 0, .int .u64 0, .slice none 0 0], .bool false]) ∧ Below w.heap.size w w'

theorem results_cell_tmp {P : Program} {fn : Func} {p q : Tmp} {ty : TypeId} (h : fn.results = #[.cell p ty, .tmp q]) (tmps : Array Value) (w : World) (g o : Nat) (cs : List Value) (d : TypeDesc)
    (hp : tmps.getD p undef = .pointer (some ⟨g, o, none⟩)) (hc : w.rangeAt g o cs) (hu : P.underlying ty = some d) (hd : d.isRow = true) (hi : (P.info? ty).map (·.size) = some cs.length) :
    (results fn tmps).run P w = .ok (.tuple #[.agg cs.toArray, tmps.getD q undef]) w := by
  have hp' : tmps[p]?.getD undef = .pointer (some ⟨g, o, none⟩) := by simpa using hp
  simp [results, h, hp', asAddr, run_loadVar_mid w g o ty cs d hc hu hd hi]

theorem range3 {w : World} {g : Nat} {x y z : Value} (h0 : w.cell? ⟨g, 0, none⟩ = some x) (h1 : w.cell? ⟨g, 1, none⟩ = some y) (h2 : w.cell? ⟨g, 2, none⟩ = some z) : w.rangeAt g 0 [x, y, z] := by
  intro j v hj
  match j, hj with
  | 0, hj => simp at hj; subst hj; exact h0
  | 1, hj => simp at hj; subst hj; exact h1
  | 2, hj => simp at hj; subst hj; exact h2
  | (n + 3), hj => simp at hj

theorem range_set3 {w : World} {g : Nat} {x y z x' y' z' : Value} (h0 : w.cell? ⟨g, 0, none⟩ = some x') (h1 : w.cell? ⟨g, 1, none⟩ = some y') (h2 : w.cell? ⟨g, 2, none⟩ = some z') :
    (((w.setCell ⟨g, 0, none⟩ x).setCell ⟨g, 1, none⟩ y).setCell ⟨g, 2, none⟩ z).rangeAt g 0 [x, y, z] := by
  have x1 : (w.setCell ⟨g, 0, none⟩ x).cell? ⟨g, 1, none⟩ = some y' := by rw [World.cell?_setCell_other _ _ _ _ (by simp)]; exact h1
  have x2 : ((w.setCell ⟨g, 0, none⟩ x).setCell ⟨g, 1, none⟩ y).cell? ⟨g, 2, none⟩ = some z' := by rw [World.cell?_setCell_other _ _ _ _ (by simp), World.cell?_setCell_other _ _ _ _ (by simp)]; exact h2
  refine range3 ?_ ?_ ?_
  · rw [World.cell?_setCell_other _ _ _ _ (by simp), World.cell?_setCell_other _ _ _ _ (by simp), World.cell?_setCell_same _ _ _ h0]
  · rw [World.cell?_setCell_other _ _ _ _ (by simp), World.cell?_setCell_same _ _ _ x1]
  · rw [World.cell?_setCell_same _ _ _ x2]

theorem cell_set3 {w : World} {g : Nat} {x y z v : Value} {a : Addr} (h : g ≠ a.block) (hv : w.cell? a = some v) : (((w.setCell ⟨g, 0, none⟩ x).setCell ⟨g, 1, none⟩ y).setCell ⟨g, 2, none⟩ z).cell? a = some v := by
  have hn : ∀ i : Nat, (⟨g, i, none⟩ : Addr) ≠ a := fun i e => h (by rw [← e])
  rw [World.cell?_setCell_other _ _ _ _ (hn _), World.cell?_setCell_other _ _ _ _ (hn _), World.cell?_setCell_other _ _ _ _ (hn _)]
  exact hv

theorem own_set3 {w : World} {B e n g : Nat} {v x y z : Value} {xs : List Value} (h : w.ownsRow B e 1 v n xs) (hg : g < B) : (((w.setCell ⟨g, 0, none⟩ x).setCell ⟨g, 1, none⟩ y).setCell ⟨g, 2, none⟩ z).ownsRow B e 1 v n xs := by
  have hlt : ∀ b, v.ownBlock = some b → B ≤ b := fun b hb => (h.lt b hb).1
  refine ownsRow_setCell_other (ownsRow_setCell_other (ownsRow_setCell_other h ?_ _) ?_ _) ?_ _
  all_goals exact fun e => by have := hlt _ e; dsimp only at this; omega

set_option maxHeartbeats 4000000 in
theorem worst_none (B c : Nat) (most : Int) (v : Value) (rs : List Hv) (G : Nat → Prop) (w : World) (h : ListOwn w B c most v rs G []) : Calls Tryz.prog 96 #[.pointer (some ⟨c, 0, none⟩)] w (WorstNo w) := by
  have HB := Lib.hid ((Below.refl w.heap.size w).alloc (Nat.le_refl _) (Obj.cells #[Value.int .u64 0, Value.int .u64 0, Value.slice none 0 0] 38))
  have LN := Lib.hid (len B c most v rs G [] _ (h.below HB.out))
  clear h
  go_enter Tryz.func96, Tryz.ntmps96
  go_wp2_with fail
  refine LN.out.mono ?_
  rintro e w' ⟨rfl, rfl⟩
  go_wp2_with fail
  refine bodyPost_ret (results_cell_tmp (p := 2) (q := 3) (by kernel_rfl) _ _ w.heap.size 0 [.int .u64 0, .int .u64 0, .slice none 0 0] _ (by rfl) (range3 (by go_simp) (by go_simp) (by go_simp)) Tryz.underlying38 rfl (by kernel_rfl)) rfl ?_
  exact ⟨rfl, HB.out⟩

set_option maxHeartbeats 8000000 in
theorem worst_some (B c : Nat) (most : Int) (v : Value) (rs : List Hv) (G : Nat → Prop) (l : List Hz) (n : Nat) (hk : n < l.length) (hn : l.length = n + 1) (hn2 : n ≤ 1000000) (hx : l[n].vec.length ≤ 1000000) (w : World) (h : ListOwn w B c most v rs G l) :
    Calls Tryz.prog 96 #[.pointer (some ⟨c, 0, none⟩)] w (WorstIs w l[n]) := by
  have HB := Lib.hid ((Below.refl w.heap.size w).alloc (Nat.le_refl _) (Obj.cells #[Value.int .u64 0, Value.int .u64 0, Value.slice none 0 0] 38))
  have LN := Lib.hid (len B c most v rs G l _ (h.below HB.out))
  have hO := h.below HB.out
  have hcw : c < w.heap.size := lt_block h.obj
  have hvw := h.row.lt
  obtain ⟨g, cap, hv, -, -⟩ := hO.row.form (by rw [hO.rows.len]; omega)
  obtain ⟨-, k1, -⟩ := hO.cells
  subst hv
  have hgw : g < w.heap.size := (hvw g rfl).2
  have hcg : w.heap.size ≠ c ∧ w.heap.size ≠ g := ⟨by omega, by omega⟩
  clear hvw
  have hlr : rs.length = l.length := hO.rows.len
  rw [hlr] at k1 hO
  obtain ⟨rs', -, -, hel⟩ := hO.hits.rows
  obtain ⟨bb, off, up, uc, -, hpb, -, -, c0, c1, c2, hu, -⟩ := hel n (by omega)
  obtain ⟨rfl, rfl⟩ : g = bb ∧ 0 = off := by simpa using hpb
  simp only [Nat.zero_add] at c0 c1 c2
  have z0 : (w.alloc (Obj.cells #[Value.int .u64 0, Value.int .u64 0, Value.slice none 0 0] 38)).cell? ⟨w.heap.size, 0, none⟩ = some (.int .u64 0) := by go_simp
  have z1 : (w.alloc (Obj.cells #[Value.int .u64 0, Value.int .u64 0, Value.slice none 0 0] 38)).cell? ⟨w.heap.size, 1, none⟩ = some (.int .u64 0) := by go_simp
  have z2 : (w.alloc (Obj.cells #[Value.int .u64 0, Value.int .u64 0, Value.slice none 0 0] 38)).cell? ⟨w.heap.size, 2, none⟩ = some (.slice none 0 0) := by go_simp
  have f0 : (w.alloc (Obj.cells #[Value.int .u64 0, Value.int .u64 0, Value.slice none 0 0] 38)).frozen? ⟨w.heap.size, 0, none⟩ = false := by go_simp
  have f1 : (w.alloc (Obj.cells #[Value.int .u64 0, Value.int .u64 0, Value.slice none 0 0] 38)).frozen? ⟨w.heap.size, 1, none⟩ = false := by go_simp
  have f2 : (w.alloc (Obj.cells #[Value.int .u64 0, Value.int .u64 0, Value.slice none 0 0] 38)).frozen? ⟨w.heap.size, 2, none⟩ = false := by go_simp
  have HSUB := Lib.hid (show IntKind.i64.wrap ((l.length : Int) - 1) = (n : Int) by rw [IntWalk.i64_in _ (by omega)]; omega)
  have hn0 : (0 : Int) ≤ (n : Int) := by omega
  have hnl : (n : Int) < (l.length : Int) := by omega
  have hz : ((l.length : Int) == 0) = false := by rw [beq_eq_false_iff_ne]; omega
  have UH := Lib.hid hu
  have XH := Lib.hid hx
  have N1 := Lib.hid hn
  clear h hO hel hpb hu hlr hx hn
  go_enter Tryz.func96, Tryz.ntmps96
  go_wp2_with fail
  refine LN.out.mono ?_
  rintro e w' ⟨rfl, rfl⟩
  generalize (w.alloc (Obj.cells #[Value.int .u64 0, Value.int .u64 0, Value.slice none 0 0] 38)) = W1 at *
  go_wp2_with fail
  obtain ⟨W0, hW0⟩ : ∃ W0, W0 = W1.drew := ⟨_, rfl⟩
  have b0 : Below W1.heap.size W1 W0 := by rw [hW0]; exact (Below.refl _ _).drew
  replace k1 := below_cells b0 k1
  replace c0 := below_cells b0 c0
  replace c1 := below_cells b0 c1
  replace c2 := below_cells b0 c2
  replace f0 := below_frozen b0 (lt_of_cell z0) f0
  replace f1 := below_frozen b0 (lt_of_cell z1) f1
  replace f2 := below_frozen b0 (lt_of_cell z2) f2
  replace z0 := below_cells b0 z0
  replace z1 := below_cells b0 z1
  replace z2 := below_cells b0 z2
  have CP := Lib.hid (copyOf l[n] _ W0 (UH.out.below b0) XH.out)
  have B1 := Lib.hid (HB.out.trans (b0.mono HB.out.size))
  have HW := Lib.hid hW0
  have hs1 := HSUB.out
  have ht1 : ((n : Int)).toNat = n := Int.toNat_natCast _
  have hzW : w.heap.size < W0.heap.size := lt_of_cell z0
  clear hW0 b0
  refine region_go (fun w' => w'.cell? ⟨c, 1, none⟩ = some (.slice (some ⟨g, 0, none⟩) l.length cap) ∧ w'.cell? ⟨g, n * 3, none⟩ = some (.int .u64 l[n].id) ∧ w'.cell? ⟨g, n * 3 + 1, none⟩ = some (.int .u64 l[n].dist) ∧ w'.cell? ⟨g, n * 3 + 1 + 1, none⟩ = some (.slice up l[n].vec.length uc)) (by kernel_rfl) ?hS0 (fun hH => ?_)
  case hS0 =>
    rw [← HW.out]; exact ⟨k1, c0, c1, c2⟩
  rw [← HW.out] at hH ⊢
  refine kY 0 hH ?_
  repeat simp only [Act.put, uA1, uB1, uC1]
  refine kY 1 hH ?_
  repeat simp only [Act.put, uA1, uB1, uC1]
  refine kY 2 hH ?_
  repeat simp only [Act.put, uA1, uB1, uC1]
  refine kY 3 hH ?_
  repeat simp only [Act.put, uA1, uB1, uC1]
  refine kY 4 hH ?_
  repeat simp only [Act.put, uA1, uB1, uC1]
  refine kY 5 hH ?_
  repeat simp only [Act.put, uA1, uB1, uC1]
  refine kY 6 hH ?_
  repeat simp only [Act.put, uA1, uB1, uC1]
  refine kY 7 hH ?_
  repeat simp only [Act.put, uA1, uB1, uC1]
  refine kY 8 hH ?_
  repeat simp only [Act.put, uA1, uB1, uC1]
  refine kY 9 hH ?_
  repeat simp only [Act.put, uA1, uB1, uC1]
  refine kY 10 hH ?_
  repeat simp only [Act.put, uA1, uB1, uC1]
  refine kY 11 hH ?_
  repeat simp only [Act.put, uA1, uB1, uC1]
  refine spk 12 rfl (by decide +kernel) (by rfl) (fun K' hK => ?_)
  go_simp
  refine CP.out.mono ?_
  rintro e w4 ⟨u4, rfl, hu4, hb4⟩
  obtain ⟨q4, m4, k4, rfl⟩ := own_form hu4
  have y0 := below_cells hb4 z0
  have y1 := below_cells hb4 z1
  have y2 := below_cells hb4 z2
  have e0 := below_frozen hb4 (a := ⟨w.heap.size, 0, none⟩) hzW f0
  have e1 := below_frozen hb4 (a := ⟨w.heap.size, 1, none⟩) hzW f1
  have e2 := below_frozen hb4 (a := ⟨w.heap.size, 2, none⟩) hzW f2
  try dsimp only
  refine hK.out _ _ ?hS (fun hH' => ?_)
  case hS =>
    exact ⟨below_cells hb4 k1, below_cells hb4 c0, below_cells hb4 c1, below_cells hb4 c2⟩
  clear hK K' hH; have hH := hH'; clear hH'; repeat simp only [Act.put, uA1, uB1, uC1]
  refine spk 13 rfl (by decide +kernel) (by rfl) (fun K' hK => ?_)
  go_simp
  try dsimp only
  refine hK.out _ _ ?hS (fun hH' => ?_)
  case hS =>
    exact ⟨cell_set3 hcg.1 (below_cells hb4 k1), cell_set3 hcg.2 (below_cells hb4 c0), cell_set3 hcg.2 (below_cells hb4 c1), cell_set3 hcg.2 (below_cells hb4 c2)⟩
  clear hK K' hH; have hH := hH'; clear hH'; repeat simp only [Act.put, uA1, uB1, uC1]
  refine kY 14 hH ?_
  repeat simp only [Act.put, uA1, uB1, uC1]
  refine wpAnyH_done (by decide +kernel) ?_ _
  have RG := range_set3 (x := .int .u64 l[n].id) (y := .int .u64 l[n].dist) (z := .slice q4 m4 k4) y0 y1 y2
  have OW := own_mono (own_set3 (x := .int .u64 l[n].id) (y := .int .u64 l[n].dist) (z := .slice q4 m4 k4) hu4 hzW) (base' := w.heap.size) (Nat.le_of_lt hzW)
  have BW := (((B1.out.trans (hb4.mono B1.out.size)).setCell (p := ⟨w.heap.size, 0, none⟩) (Nat.le_refl _) (.int .u64 l[n].id)).setCell (p := ⟨w.heap.size, 1, none⟩) (Nat.le_refl _) (.int .u64 l[n].dist)).setCell (p := ⟨w.heap.size, 2, none⟩) (Nat.le_refl _) (.slice q4 m4 k4)
  clear hH hu4 hb4 y0 y1 y2 e0 e1 e2
  generalize (((w4.setCell ⟨w.heap.size, 0, none⟩ (.int .u64 l[n].id)).setCell ⟨w.heap.size, 1, none⟩ (.int .u64 l[n].dist)).setCell ⟨w.heap.size, 2, none⟩ (.slice q4 m4 k4)) = W9 at *
  go_wp2_with fail
  refine bodyPost_ret (results_cell_tmp (p := 2) (q := 3) (by kernel_rfl) _ W9 w.heap.size 0 [.int .u64 l[n].id, .int .u64 l[n].dist, .slice q4 m4 k4] _ (by rfl) RG Tryz.underlying38 rfl (by kernel_rfl)) rfl ?_
  exact ⟨_, rfl, OW, BW⟩

end Go.Proofs.YtpjbkaibgajpcaaGreat

namespace Go.Proofs.YtpjbkaibgajpcaaGreat
open Go.RowKit
set_option maxRecDepth 20000

structure Held3 (w : World) (B E : Nat) (rs : List Hv) (l : List Hz) : Prop where
  len : rs.length = l.length
  own : ∀ i (h1 : i < rs.length) (h2 : i < l.length), (rs[i].id = l[i].id ∧ rs[i].dist = l[i].dist) ∧ w.ownsRow B E 1 rs[i].vec l[i].vec.length (l[i].vec.map (Value.int .i32))
  apart : rs.Pairwise fun p q => p.vec.ownBlock = none ∨ p.vec.ownBlock ≠ q.vec.ownBlock

theorem Held3.nil (w : World) (B E : Nat) : Held3 w B E [] [] := ⟨rfl, fun i h _ => absurd h (by simp), List.Pairwise.nil⟩

theorem Held3.below {w w' : World} {B E : Nat} {rs : List Hv} {l : List Hz} (h : Held3 w B E rs l) (hb : Below w.heap.size w w') : Held3 w' B E rs l :=
  ⟨h.len, fun i h1 h2 => ⟨(h.own i h1 h2).1, own_below (h.own i h1 h2).2 hb⟩, h.apart⟩

theorem Held3.other {w w' : World} {B E B' e size n : Nat} {v : Value} {xs : List Value} {rs : List Hv} {l : List Hz} (h : Held3 w B E rs l) (ho : w.ownsRow B' e size v n xs) (hne : E ≠ e) (hg : w.grownBy w' v.ownBlock) : Held3 w' B E rs l :=
  ⟨h.len, fun i h1 h2 => ⟨(h.own i h1 h2).1, (h.own i h1 h2).2.kept hg (own_apart (h.own i h1 h2).2 ho hne)⟩, h.apart⟩

theorem Held3.lt {w : World} {B E : Nat} {rs : List Hv} {l : List Hz} (h : Held3 w B E rs l) {r : Hv} (hr : r ∈ rs) : ∀ b, r.vec.ownBlock = some b → B ≤ b ∧ b < w.heap.size := by
  obtain ⟨i, hi, rfl⟩ := List.mem_iff_getElem.1 hr
  exact (h.own i hi (by rw [← h.len]; exact hi)).2.lt

theorem Held3.snoc {w : World} {B E : Nat} {rs : List Hv} {l : List Hz} (h : Held3 w B E rs l) {z : Hz} {u : Value} (hn : w.ownsRow B E 1 u z.vec.length (z.vec.map (Value.int .i32)))
    (hap : ∀ r ∈ rs, r.vec.ownBlock = none ∨ r.vec.ownBlock ≠ u.ownBlock) : Held3 w B E (rs ++ [⟨z.id, z.dist, u⟩]) (l ++ [z]) := by
  refine ⟨by simp [h.len], fun i h1 h2 => ?_, ?_⟩
  · simp only [List.length_append, List.length_cons, List.length_nil] at h1 h2
    rcases Nat.lt_or_ge i rs.length with hi | hi
    · rw [List.getElem_append_left hi, List.getElem_append_left (by rw [← h.len]; exact hi)]
      exact h.own i hi _
    · have e1 : i = rs.length := by omega
      subst e1
      rw [List.getElem_append_right (by omega)]
      have e2 : l.length ≤ rs.length := by rw [h.len]; exact Nat.le_refl _
      rw [List.getElem_append_right e2]
      simp [h.len, hn]
  · refine List.pairwise_append.2 ⟨h.apart, List.pairwise_singleton _ _, fun p hp q hq => ?_⟩
    rw [List.mem_singleton.1 hq]
    exact hap p hp

theorem Held3.rows {w : World} {B E : Nat} {rs : List Hv} {l : List Hz} (h : Held3 w B E rs l) : Rows3 w (fun k => B ≤ k ∧ k < w.heap.size) rs l :=
  ⟨h.len, fun i h1 h2 => by
    obtain ⟨⟨a, b⟩, c⟩ := h.own i h1 h2
    exact ⟨a, b, Nums.of_own c, fun _ k hk => c.lt k hk⟩⟩

def NewHits (w : World) (e : Nat) (l : List Hz) (r : Ending) (w' : World) : Prop :=
  ∃ v rs, r = .returned v ∧ w'.ownsRow w.heap.size e 3 v rs.length (flat3 rs) ∧ Held3 w' w.heap.size 21 rs l ∧ Below w.heap.size w w'

theorem hits_step {l : List Hz} {z : Hz} {rs : List Hv} {w wr w4 w5 : World} {v v5 : Value} {u4 : Value} {e E B4 : Nat} {o : Obj} (hown : wr.ownsRow w.heap.size e 3 v rs.length (flat3 rs)) (hheld : Held3 wr w.heap.size E rs l) (hb : Below w.heap.size w wr)
    (hu : w4.ownsRow B4 E 1 u4 z.vec.length (z.vec.map (Value.int .i32))) (hB4 : wr.heap.size ≤ B4) (hne : E ≠ e) (hb4 : Below wr.heap.size wr w4)
    (hown5 : w5.ownsRow w.heap.size e 3 v5 (rs.length + 1) (flat3 rs ++ (#[.int .u64 z.id, .int .u64 z.dist, u4] : Array Value).toList)) (hg5 : (w4.alloc o).grownBy w5 v.ownBlock) :
    w5.ownsRow w.heap.size e 3 v5 (rs ++ [(⟨z.id, z.dist, u4⟩ : Hv)]).length (flat3 (rs ++ [(⟨z.id, z.dist, u4⟩ : Hv)])) ∧ Held3 w5 w.heap.size E (rs ++ [⟨z.id, z.dist, u4⟩]) (l ++ [z]) ∧ Below w.heap.size w w5 := by
  have hown4 := (own_below hown hb4).alloc o
  have hheld4 := (hheld.below hb4).below ((Below.refl _ _).alloc (Nat.le_refl _) o)
  have hsz := hb.size
  have hsz4 := hb4.size
  refine ⟨by rw [flat3_snoc]; simpa using hown5, ?_, ((hb.trans (hb4.mono hsz)).alloc (by omega) o).grown hg5 (by simp; omega) (fun b hbk => (hown.lt b hbk).1)⟩
  refine (hheld4.other hown4 hne hg5).snoc ?_ fun r hr => ?_
  · have := (hu.alloc o).kept hg5 (own_apart (hu.alloc o) hown4 hne)
    exact own_mono this (by omega)
  · cases hrb : r.vec.ownBlock with
    | none => exact .inl rfl
    | some b =>
      right
      intro he
      have h1 := hheld.lt hr b hrb
      have h2 := hu.lt b he.symm
      omega

theorem take_snoc {α : Type} (l : List α) (k : Nat) (h : k < l.length) : l.take (k + 1) = l.take k ++ [l[k]] := by rw [List.take_succ_eq_append_getElem h]

set_option maxHeartbeats 4000000 in
set_option maxRecDepth 100000 in
theorem hits (B c : Nat) (most : Int) (v : Value) (rs0 : List Hv) (G : Nat → Prop) (l : List Hz) (hn : l.length ≤ 1000000) (hx : ∀ r ∈ l, r.vec.length ≤ 1000000) (w : World) (h : ListOwn w B c most v rs0 G l) :
    Calls Tryz.prog 72 #[.pointer (some ⟨c, 0, none⟩)] w (NewHits w 38 l) := by
  have A := Lib.hid h
  obtain ⟨p, cap, rfl, hcap, hbig, -, -⟩ := h.hits
  obtain ⟨-, k1, -⟩ := h.cells
  have X := Lib.hid hx
  clear hx h hcap hbig
  go_enter Tryz.func72, Tryz.ntmps72
  go_wp2_with fail
  go_loopg [3, 13] l.length (fun q out i wr => ∃ (k : Nat) (rs : List Hv), q = l.length - k ∧ k ≤ l.length ∧ i = .int .i64 k ∧ rs.length = k ∧ wr.ownsRow w.heap.size 38 3 out rs.length (flat3 rs) ∧ Held3 wr w.heap.size 21 rs (l.take k) ∧ Below w.heap.size w wr)
  case atStart => exact ⟨0, [], rfl, by omega, rfl, rfl, World.ownsRow_nil _ _ _ _, Held3.nil _ _ _, Below.refl _ _⟩
  case round =>
    obtain ⟨k, rs, rfl, hk, rfl, hlen, hown, hheld, hb⟩ := hrel
    by_cases hlt : k < l.length
    · obtain ⟨rs', -, -, hel⟩ := (A.out.below hb).hits.rows
      obtain ⟨b, off, up, ucap, -, rfl, -, -, c0, c1, c2, hu, -⟩ := hel k hlt
      have O := Lib.hid (And.intro hown (And.intro hheld (And.intro hb hlen)))
      have U := Lib.hid hu
      have hsz := hb.size
      clear hown hheld hb hu hlen hel
      go_wp2_with fail
      have hbW := (Below.refl wr.heap.size wr).alloc (Nat.le_refl _) (Obj.cells #[Value.int IntKind.u64 l[k].id, Value.int IntKind.u64 l[k].dist, Value.slice up l[k].vec.length ucap] 38)
      refine (copyOf l[k] _ _ (U.out.below hbW) (X.out _ (List.getElem_mem hlt))).mono ?_
      rintro e w4 ⟨u4, rfl, hu4, hb4⟩
      obtain ⟨q4, n4, c4, rfl⟩ := own_form hu4
      have hb04 := hbW.trans (hb4.mono (by simp))
      obtain ⟨g5, c5, w5, hrun, hown5, hg5, hat5, -⟩ := run_push rowHit (own_below O.out.1 hb04) (by have := hb04.size; omega) #[.int .u64 l[k].id, .int .u64 l[k].dist, .slice q4 n4 c4] rfl (by simp [Value.oneCell']) (by have := O.out.2.2.2; simp [maxLen]; omega) (by have := O.out.2.2.2; omega)
      have F := Lib.hid (hits_step O.out.1 O.out.2.1 O.out.2.2.1 hu4 (by simp) (by decide) hb04 hown5 hg5)
      clear hbW hb04 hown5 hg5 hat5 hu4 hb4
      go_wp2_with (refine wpList_append_eq hrun rfl _ _ rfl rfl rfl ?_)
      go_roundg (l.length - (k + 1))
      case measure => omega
      case rel => exact ⟨k + 1, rs ++ [⟨l[k].id, l[k].dist, .slice q4 n4 c4⟩], rfl, by omega, by go_num, by have := O.out.2.2.2; rw [List.length_append, this]; rfl, F.out.1, by rw [take_snoc l k hlt]; exact F.out.2.1, F.out.2.2⟩
    · obtain rfl : k = l.length := by omega
      go_wp2_with fail
      go_ret
      exact ⟨_, rs, rfl, hown, by rw [List.take_length] at hheld; exact hheld, hb⟩

end Go.Proofs.YtpjbkaibgajpcaaGreat

namespace Go.Proofs.YtpjbkaibgajpcaaGreat
open Go.RowKit
set_option maxRecDepth 20000

theorem near_of_take {l : List Hz} {h x : Hz} (hx : x ∈ l.take (rankZ l h)) : near x h = true := by
  obtain ⟨i, hi, rfl⟩ := List.mem_iff_getElem.1 hx
  rw [List.length_take] at hi
  rw [List.getElem_take]
  exact rankZ_below _ (by omega)

theorem not_near_of_drop {l : List Hz} (hs : Sorted l) {h x : Hz} (hx : x ∈ l.drop (rankZ l h)) : near x h = false := by
  obtain ⟨i, hi, rfl⟩ := List.mem_iff_getElem.1 hx
  rw [List.getElem_drop]
  exact rankZ_above hs _ (by omega)

theorem insZ_perm (l : List Hz) (h : Hz) : (insZ l h).Perm (h :: l) := by
  unfold insZ
  refine List.perm_middle.trans ?_
  rw [List.take_append_drop]

theorem insZ_length (l : List Hz) (h : Hz) : (insZ l h).length = l.length + 1 := by
  have := (insZ_perm l h).length_eq
  simpa using this

theorem insZ_mem {l : List Hz} {h x : Hz} : x ∈ insZ l h ↔ x = h ∨ x ∈ l := by
  rw [(insZ_perm l h).mem_iff]; simp

theorem insZ_sorted {l : List Hz} (hs : Sorted l) {h : Hz} (hi : ∀ x ∈ l, x.id ≠ h.id) : Sorted (insZ l h) := by
  unfold insZ
  have hl : Sorted (l.take (rankZ l h) ++ l.drop (rankZ l h)) := by rw [List.take_append_drop]; exact hs
  obtain ⟨h1, h2, h3⟩ := List.pairwise_append.1 hl
  refine List.pairwise_append.2 ⟨h1, List.pairwise_cons.2 ⟨fun y hy => ?_, h2⟩, fun a ha b hb => ?_⟩
  · rcases near_total (hi y (List.mem_of_mem_drop hy)) with h4 | h4
    · rw [not_near_of_drop hs hy] at h4; cases h4
    · exact h4
  · rcases List.mem_cons.1 hb with rfl | hb
    · exact near_of_take ha
    · exact h3 a ha b hb

def Ids (l : List Hz) : Prop := l.Pairwise fun a b => a.id ≠ b.id

theorem Ids.perm {l m : List Hz} (h : Ids l) (p : l.Perm m) : Ids m := (p.pairwise_iff (fun {_a _b} hab => Ne.symm hab)).1 h

theorem insZ_ids {l : List Hz} (hd : Ids l) {h : Hz} (hi : ∀ x ∈ l, x.id ≠ h.id) : Ids (insZ l h) :=
  Ids.perm (List.pairwise_cons.2 ⟨fun a ha => (hi a ha).symm, hd⟩) (insZ_perm l h).symm

structure GoodL (most : Nat) (l : List Hz) : Prop where
  sorted : Sorted l
  ids : Ids l
  len : l.length ≤ most
  vecs : ∀ x ∈ l, x.vec.length ≤ 1000000

theorem GoodL.nil (most : Nat) : GoodL most [] := ⟨List.Pairwise.nil, List.Pairwise.nil, Nat.zero_le _, fun x h => absurd h (by simp)⟩

theorem GoodL.ins {most : Nat} {l : List Hz} (g : GoodL most l) (hl : l.length < most) {h : Hz} (hi : ∀ x ∈ l, x.id ≠ h.id) (hx : h.vec.length ≤ 1000000) : GoodL most (insZ l h) :=
  ⟨insZ_sorted g.sorted hi, insZ_ids g.ids hi, by rw [insZ_length]; omega, fun x hm => by rcases insZ_mem.1 hm with rfl | hm; exact hx; exact g.vecs x hm⟩

theorem GoodL.sub {most : Nat} {l m : List Hz} (g : GoodL most l) (h : m.Sublist l) : GoodL most m :=
  ⟨g.sorted.sublist h, g.ids.sublist h, Nat.le_trans h.length_le g.len, fun x hm => g.vecs x (h.mem hm)⟩

theorem posZ_out {i : Int} {l : List Hz} (h : posZ i l = -1) : ∀ x ∈ l, x.id ≠ i := by
  cases hf : l.findIdx? (fun x => decide (x.id = i)) with
  | some k => simp [posZ, hf] at h
  | none =>
    intro x hx
    have := List.findIdx?_eq_none_iff.1 hf x hx
    simpa using this

theorem erase_ids {l : List Hz} (hd : Ids l) {k : Nat} (hk : k < l.length) : ∀ x ∈ l.eraseIdx k, x.id ≠ l[k].id := by
  intro x hx
  obtain ⟨j, hj, hjk, rfl⟩ := List.mem_eraseIdx_iff_getElem.1 hx
  rcases Nat.lt_or_ge j k with h | h
  · exact List.pairwise_iff_getElem.1 hd j k _ _ h
  · exact (List.pairwise_iff_getElem.1 hd k j _ _ (by omega)).symm

theorem posZ_in {i : Int} {l : List Hz} {k : Nat} (hk : k < l.length) (h : posZ i l = k) : l[k].id = i := by
  cases hf : l.findIdx? (fun x => decide (x.id = i)) with
  | some j =>
    simp [posZ, hf] at h
    obtain rfl : j = k := by omega
    have := (List.findIdx?_eq_some_iff_getElem.1 hf).2.1
    simpa using this
  | none => simp [posZ, hf] at h

theorem addZ_good {most : Nat} (hm : 1 ≤ most) {l : List Hz} (g : GoodL most l) {h : Hz} (hx : h.vec.length ≤ 1000000) : GoodL most (addZ most l h).2 := by
  rcases add_cases most l h hm g.len with ⟨k, hk, hp, ⟨-, ha⟩ | ⟨-, ha⟩⟩ | ⟨hp, ⟨hne, ha⟩ | ⟨heq, hk, ⟨-, ha⟩ | ⟨-, ha⟩⟩⟩
  · rw [ha]; exact g
  · rw [ha]
    have hg := g.len
    refine (g.sub (List.eraseIdx_sublist _ _)).ins (by rw [List.length_eraseIdx_of_lt hk]; omega) (fun x hm => ?_) hx
    rw [← posZ_in hk hp]
    exact erase_ids g.ids hk x hm
  · rw [ha]
    have hg := g.len
    exact g.ins (by omega) (posZ_out hp) hx
  · rw [ha]; exact g
  · rw [ha]
    exact (g.sub (List.take_sublist _ _)).ins (by rw [List.length_take]; omega) (fun x hm => posZ_out hp x (List.mem_of_mem_take hm)) hx

def addsZ (most : Nat) (l ms : List Hz) : Nat × List Hz := ms.foldl (fun p h => ((if (addZ most p.2 h).1 then p.1 + 1 else p.1), (addZ most p.2 h).2)) (0, l)

theorem addsZ_snoc (most : Nat) (l ms : List Hz) (h : Hz) : addsZ most l (ms ++ [h]) = ((if (addZ most (addsZ most l ms).2 h).1 then (addsZ most l ms).1 + 1 else (addsZ most l ms).1), (addZ most (addsZ most l ms).2 h).2) := by
  unfold addsZ; rw [List.foldl_append]; rfl

theorem addsZ_good {most : Nat} (hm : 1 ≤ most) {l : List Hz} (g : GoodL most l) (ms : List Hz) (hx : ∀ h ∈ ms, h.vec.length ≤ 1000000) : GoodL most (addsZ most l ms).2 := by
  unfold addsZ
  generalize (0 : Nat) = n
  induction ms generalizing n l with
  | nil => exact g
  | cons h ms ih =>
    rw [List.foldl_cons]
    exact ih (addZ_good hm g (hx h (by simp))) (fun x hx' => hx x (by simp [hx'])) _

theorem addsZ_le (most : Nat) (l ms : List Hz) : (addsZ most l ms).1 ≤ ms.length := by
  have : ∀ (n : Nat) (l : List Hz), (ms.foldl (fun p h => ((if (addZ most p.2 h).1 then p.1 + 1 else p.1), (addZ most p.2 h).2)) (n, l)).1 ≤ n + ms.length := by
    induction ms with
    | nil => intro n l; simp
    | cons h ms ih =>
      intro n l
      rw [List.foldl_cons, List.length_cons]
      refine Nat.le_trans (ih _ _) ?_
      split <;> omega
  have := this 0 l
  unfold addsZ
  omega

end Go.Proofs.YtpjbkaibgajpcaaGreat

namespace Go.Proofs.YtpjbkaibgajpcaaGreat
open Go.RowKit
set_option maxRecDepth 20000

structure Ws where
  L : List Hz
  S : List Int
  T : List Hz

def hitK (k d : Int) : Hz := ⟨k, d, []⟩

def hopeB (most : Nat) (L : List Hz) (h : Hz) : Bool := !decide (L.length = most) || (match L.getLast? with | some x => near h x | none => false)
def overB (most : Nat) (L : List Hz) (h : Hz) : Bool := decide (L.length = most) && (match L.getLast? with | some x => near x h | none => false)

def rankD (T : List Hz) (h : Hz) : Nat := (T.takeWhile fun x => near h x).length
def insD (T : List Hz) (h : Hz) : List Hz := T.take (rankD T h) ++ h :: T.drop (rankD T h)

def seeW (far : Int → Option Int) (most : Nat) (all : Bool) (s : Ws) (k : Int) : Ws :=
  match far k with
  | none => s
  | some d => if k ∈ s.S then s else if (hopeB most s.L (hitK k d) || all) = true then ⟨(addZ most s.L (hitK k d)).2, s.S ++ [k], insD s.T (hitK k d)⟩ else ⟨s.L, s.S ++ [k], s.T⟩

def lookW (far : Int → Option Int) (most : Nat) (all : Bool) (s : Ws) (ks : List Int) : Ws := ks.foldl (seeW far most all) s

def goW (far : Int → Option Int) (nr : Int → List Int) (most : Nat) : Nat → Ws → List Hz × Nat
  | 0, s => (s.L, 0)
  | f + 1, s => match s.T.getLast? with
    | none => (s.L, 0)
    | some h => if overB most s.L h = true then (s.L, 0) else ((goW far nr most f (lookW far most false ⟨s.L, s.S, s.T.dropLast⟩ (nr h.id))).1, (goW far nr most f (lookW far most false ⟨s.L, s.S, s.T.dropLast⟩ (nr h.id))).2 + 1)

def lessW (K : List Int) (s : Ws) : Nat := s.T.length + (K.filter fun k => decide (k ∉ s.S)).length

structure GoodW (K : List Int) (far : Int → Option Int) (most : Nat) (s : Ws) : Prop where
  best : GoodL most s.L
  plain : ∀ h ∈ s.L, h.vec = []
  bare : ∀ h ∈ s.T, h.vec = []
  desc : s.T.Pairwise fun a b => near b a = true
  seen : s.S.Nodup
  sub : ∀ k ∈ s.S, k ∈ K
  ids : ∀ h ∈ s.T, h.id ∈ s.S
  idl : ∀ h ∈ s.L, h.id ∈ s.S
  few : s.T.length ≤ s.S.length

theorem rankD_le (T : List Hz) (h : Hz) : rankD T h ≤ T.length := (List.takeWhile_sublist _).length_le

theorem rankD_below {T : List Hz} {h : Hz} {k : Nat} (hk : k < T.length) (hr : k < rankD T h) : near h T[k] = true := by
  unfold rankD at hr
  induction T generalizing k with
  | nil => simp at hk
  | cons a T ih =>
    simp only [List.takeWhile_cons] at hr
    split at hr
    · rename_i ha
      cases k with
      | zero => exact ha
      | succ k => exact ih (by simpa using hk) (by simpa using hr)
    · simp at hr

theorem rankD_above {T : List Hz} (hs : T.Pairwise fun a b => near b a = true) {h : Hz} {k : Nat} (hk : k < T.length) (hr : rankD T h ≤ k) : near h T[k] = false := by
  unfold rankD at hr
  induction T generalizing k with
  | nil => simp at hk
  | cons a T ih =>
    have hs' := List.pairwise_cons.1 hs
    simp only [List.takeWhile_cons] at hr
    split at hr
    · cases k with
      | zero => simp at hr
      | succ k => exact ih hs'.2 (by simpa using hk) (by simpa using hr)
    · rename_i ha
      cases k with
      | zero => simpa using ha
      | succ k =>
        have hk' : k < T.length := by simpa using hk
        simp only [List.getElem_cons_succ]
        cases hn : near h T[k]
        · rfl
        · exact absurd (near_trans hn (hs'.1 _ (List.getElem_mem hk'))) (by simpa using ha)

theorem mem_insD {T : List Hz} {h x : Hz} : x ∈ insD T h ↔ x = h ∨ x ∈ T := by
  unfold insD
  conv => rhs; rw [← List.take_append_drop (rankD T h) T]
  simp only [List.mem_append, List.mem_cons]
  constructor
  · rintro (h1 | h1 | h1)
    · exact .inr (.inl h1)
    · exact .inl h1
    · exact .inr (.inr h1)
  · rintro (h1 | h1 | h1)
    · exact .inr (.inl h1)
    · exact .inl h1
    · exact .inr (.inr h1)

theorem insD_length (T : List Hz) (h : Hz) : (insD T h).length = T.length + 1 := by
  have := rankD_le T h
  simp [insD]
  omega

theorem insD_perm (T : List Hz) (h : Hz) : (insD T h).Perm (h :: T) := by
  unfold insD
  refine List.perm_middle.trans ?_
  rw [List.take_append_drop]

theorem insD_desc {T : List Hz} (hs : T.Pairwise fun a b => near b a = true) {h : Hz} (hi : ∀ x ∈ T, x.id ≠ h.id) : (insD T h).Pairwise fun a b => near b a = true := by
  unfold insD
  rw [List.pairwise_append, List.pairwise_cons]
  have h1 : ∀ x ∈ T.take (rankD T h), near h x = true := by
    intro x hx
    obtain ⟨i, hi, rfl⟩ := List.mem_iff_getElem.1 hx
    rw [List.length_take] at hi
    rw [List.getElem_take]
    exact rankD_below (by omega) (by omega)
  have h2 : ∀ x ∈ T.drop (rankD T h), near x h = true := by
    intro x hx
    obtain ⟨i, hi', rfl⟩ := List.mem_iff_getElem.1 hx
    rw [List.length_drop] at hi'
    rw [List.getElem_drop]
    have h3 := rankD_above hs (h := h) (k := rankD T h + i) (by omega) (by omega)
    rcases near_total (hi _ (List.getElem_mem (by omega : rankD T h + i < T.length))) with h4 | h4
    · exact h4
    · rw [h4] at h3; cases h3
  refine ⟨hs.sublist (List.take_sublist _ _), ⟨h2, hs.sublist (List.drop_sublist _ _)⟩, fun a ha b hb => ?_⟩
  rcases List.mem_cons.1 hb with rfl | hb
  · exact h1 a ha
  · exact near_trans (h2 b hb) (h1 a ha)

theorem addW_new {most : Nat} {L : List Hz} {h : Hz} (hi : ∀ x ∈ L, x.id ≠ h.id) : (addZ most L h).2 = if L.length = most then (if near h (L.getD (most - 1) h) = true then insZ (L.take (most - 1)) h else L) else insZ L h := by
  unfold addZ
  rw [find_none fun j hj => hi _ (List.getElem_mem hj)]
  simp only
  split
  · split <;> rfl
  · rfl

theorem addW_mem {most : Nat} {L : List Hz} {h x : Hz} (hi : ∀ x ∈ L, x.id ≠ h.id) (hx : x ∈ (addZ most L h).2) : x = h ∨ x ∈ L := by
  rw [addW_new hi] at hx
  split at hx
  · split at hx
    · rcases insZ_mem.1 hx with h1 | h1
      · exact .inl h1
      · exact .inr (List.mem_of_mem_take h1)
    · exact .inr hx
  · exact insZ_mem.1 hx

section
variable {K : List Int} {far : Int → Option Int} {most : Nat}

theorem GoodW.start (_hm : 1 ≤ most) : GoodW K far most ⟨[], [], []⟩ :=
  ⟨GoodL.nil _, by simp, by simp, by simp, by simp, by simp, by simp, by simp, by simp⟩

theorem GoodW.see (hK : ∀ k d, far k = some d → k ∈ K) (hm : 1 ≤ most) {s : Ws} (g : GoodW K far most s) (all : Bool) (k : Int) : GoodW K far most (seeW far most all s k) := by
  unfold seeW
  cases hf : far k with
  | none => exact g
  | some d =>
    simp only
    by_cases hk : k ∈ s.S
    · rw [if_pos hk]; exact g
    · rw [if_neg hk]
      have hkK := hK k d hf
      have hnL : ∀ x ∈ s.L, x.id ≠ (hitK k d).id := fun x hx e => hk (show k ∈ s.S from (show x.id = k from e) ▸ g.idl x hx)
      have hnT : ∀ x ∈ s.T, x.id ≠ (hitK k d).id := fun x hx e => hk (show k ∈ s.S from (show x.id = k from e) ▸ g.ids x hx)
      have hS : (s.S ++ [k]).Nodup := by
        rw [List.nodup_append]
        exact ⟨g.seen, by simp, fun a ha b hb e => hk (by simp at hb; rw [← hb, ← e]; exact ha)⟩
      have hsub : ∀ x ∈ s.S ++ [k], x ∈ K := fun x hx => by
        rcases List.mem_append.1 hx with h | h
        · exact g.sub x h
        · simp at h; rw [h]; exact hkK
      split
      · refine ⟨addZ_good hm g.best (by simp [hitK]), fun x hx => ?_, fun x hx => ?_, insD_desc g.desc hnT, hS, hsub, fun x hx => ?_, fun x hx => ?_, ?_⟩
        · rcases addW_mem hnL hx with rfl | h
          · rfl
          · exact g.plain x h
        · rcases mem_insD.1 hx with rfl | h
          · rfl
          · exact g.bare x h
        · rcases mem_insD.1 hx with rfl | h
          · exact List.mem_append.2 (.inr (by simp [hitK]))
          · exact List.mem_append.2 (.inl (g.ids x h))
        · rcases addW_mem hnL hx with rfl | h
          · exact List.mem_append.2 (.inr (by simp [hitK]))
          · exact List.mem_append.2 (.inl (g.idl x h))
        · rw [insD_length, List.length_append]
          have := g.few
          simp; omega
      · exact ⟨g.best, g.plain, g.bare, g.desc, hS, hsub, fun x hx => List.mem_append.2 (.inl (g.ids x hx)), fun x hx => List.mem_append.2 (.inl (g.idl x hx)), by have := g.few; simp; omega⟩

theorem GoodW.look (hK : ∀ k d, far k = some d → k ∈ K) (hm : 1 ≤ most) (all : Bool) (ks : List Int) : ∀ {s : Ws}, GoodW K far most s → GoodW K far most (lookW far most all s ks) := by
  induction ks with
  | nil => intro s g; exact g
  | cons k ks ih => intro s g; exact ih (g.see hK hm all k)

theorem GoodW.pop {s : Ws} (g : GoodW K far most s) : GoodW K far most ⟨s.L, s.S, s.T.dropLast⟩ :=
  ⟨g.best, g.plain, fun h hh => g.bare h (List.dropLast_subset _ hh), g.desc.sublist (List.dropLast_sublist _), g.seen, g.sub, fun h hh => g.ids h (List.dropLast_subset _ hh), g.idl, by have := g.few; simp; omega⟩

theorem filter_len {K S : List Int} {k : Int} (hk : k ∈ K) (hn : k ∉ S) : (K.filter fun x => decide (x ∉ S ++ [k])).length + 1 ≤ (K.filter fun x => decide (x ∉ S)).length := by
  induction K with
  | nil => cases hk
  | cons a K ih =>
    have hle : (K.filter fun x => decide (x ∉ S ++ [k])).length ≤ (K.filter fun x => decide (x ∉ S)).length := by
      clear ih hk
      induction K with
      | nil => simp
      | cons b K ih =>
        by_cases h1 : b ∈ S ++ [k]
        · rw [List.filter_cons, if_neg (by rw [decide_eq_true_eq]; exact fun h => h h1), List.filter_cons]
          split
          · simp only [List.length_cons]; omega
          · exact ih
        · have h2 : b ∉ S := fun h => h1 (List.mem_append.2 (.inl h))
          rw [List.filter_cons, if_pos (by rw [decide_eq_true_eq]; exact h1), List.filter_cons, if_pos (by rw [decide_eq_true_eq]; exact h2)]
          simp only [List.length_cons]; omega
    by_cases ha : a = k
    · subst ha
      rw [List.filter_cons, if_neg (by simp), List.filter_cons, if_pos (by simpa using hn)]
      simp only [List.length_cons]; omega
    · have hkK : k ∈ K := by rcases List.mem_cons.1 hk with h | h; exact absurd h.symm ha; exact h
      have := ih hkK
      by_cases h2 : a ∈ S
      · rw [List.filter_cons, if_neg (by simp [h2]), List.filter_cons, if_neg (by simp [h2])]; exact this
      · rw [List.filter_cons, if_pos (by simp [h2, ha]), List.filter_cons, if_pos (by simp [h2])]
        simp only [List.length_cons]; omega

theorem see_less (hK : ∀ k d, far k = some d → k ∈ K) (all : Bool) (s : Ws) (k : Int) : lessW K (seeW far most all s k) ≤ lessW K s := by
  unfold seeW
  cases hf : far k with
  | none => exact Nat.le_refl _
  | some d =>
    simp only
    by_cases hk : k ∈ s.S
    · rw [if_pos hk]; exact Nat.le_refl _
    · rw [if_neg hk]
      have := filter_len (hK k d hf) hk
      unfold lessW
      split
      · simp only [insD_length]; omega
      · simp only; omega

theorem look_less (hK : ∀ k d, far k = some d → k ∈ K) (all : Bool) (ks : List Int) : ∀ s : Ws, lessW K (lookW far most all s ks) ≤ lessW K s := by
  induction ks with
  | nil => intro s; exact Nat.le_refl _
  | cons k ks ih => intro s; exact Nat.le_trans (ih _) (see_less hK all s k)

theorem pop_less {s : Ws} (h : s.T ≠ []) : lessW K ⟨s.L, s.S, s.T.dropLast⟩ + 1 ≤ lessW K s := by
  unfold lessW
  have := List.length_pos_iff.2 h
  simp
  omega

theorem goW_more (hK : ∀ k d, far k = some d → k ∈ K) (nr : Int → List Int) : ∀ (f : Nat) (s : Ws), lessW K s ≤ f → goW far nr most (f + 1) s = goW far nr most f s := by
  intro f
  induction f with
  | zero =>
    intro s h
    have hT : s.T = [] := List.eq_nil_of_length_eq_zero (by unfold lessW at h; omega)
    simp [goW, hT]
  | succ f ih =>
    intro s h
    conv => lhs; unfold goW
    conv => rhs; unfold goW
    cases hl : s.T.getLast? with
    | none => rfl
    | some x =>
      simp only
      by_cases ho : overB most s.L x = true
      · rw [if_pos ho, if_pos ho]
      · rw [if_neg ho, if_neg ho]
        have hT : s.T ≠ [] := by rintro e; rw [e] at hl; cases hl
        have h1 := pop_less (K := K) hT
        have h2 := look_less (most := most) hK false (nr x.id) ⟨s.L, s.S, s.T.dropLast⟩
        rw [ih _ (by omega)]

theorem nodup_len : ∀ {S K : List Int}, S.Nodup → (∀ k ∈ S, k ∈ K) → S.length ≤ K.length := by
  intro S
  induction S with
  | nil => intro K _ _; simp
  | cons a S ih =>
    intro K hn hs
    rw [List.nodup_cons] at hn
    obtain ⟨K1, K2, rfl⟩ := List.append_of_mem (hs a (by simp))
    have := ih (K := K1 ++ K2) hn.2 fun k hk => by
      have h1 := hs k (by simp [hk])
      have h2 : k ≠ a := by rintro rfl; exact hn.1 hk
      simp only [List.mem_append, List.mem_cons] at h1 ⊢
      rcases h1 with h | h | h
      · exact .inl h
      · exact absurd h h2
      · exact .inr h
    simp only [List.length_append, List.length_cons] at this ⊢
    omega

theorem GoodW.small {s : Ws} (g : GoodW K far most s) : s.T.length ≤ K.length ∧ s.S.length ≤ K.length := by
  have := nodup_len g.seen g.sub
  have := g.few
  omega

theorem hopeB_some {L : List Hz} (_hm : 1 ≤ most) {n : Nat} (hn : L.length = n + 1) (h : Hz) : hopeB most L h = (!decide (L.length = most) || near h (L[n]'(by omega))) := by
  unfold hopeB
  rw [List.getLast?_eq_getElem?, List.getElem?_eq_getElem (by omega)]
  simp [hn]

theorem overB_some {L : List Hz} (_hm : 1 ≤ most) {n : Nat} (hn : L.length = n + 1) (h : Hz) : overB most L h = (decide (L.length = most) && near (L[n]'(by omega)) h) := by
  unfold overB
  rw [List.getLast?_eq_getElem?, List.getElem?_eq_getElem (by omega)]
  simp [hn]
end

end Go.Proofs.YtpjbkaibgajpcaaGreat
