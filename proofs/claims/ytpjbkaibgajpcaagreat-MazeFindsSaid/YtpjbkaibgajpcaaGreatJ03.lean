/- best: slices.Delete and slices.Insert at hits. best: what slices.Insert is made of: copies, an append of zeros, do two slices overlap. -/
import Derived.Test.YtpjbkaibgajpcaaGreatJ02
import Derived.Lib.Overlaps
namespace Go.Proofs.YtpjbkaibgajpcaaGreat
open Go.RowKit
set_option maxRecDepth 20000

def Deleted (B g cap n : Nat) (rs : List Hv) (w : World) (e : Ending) (w' : World) : Prop :=
  e = .returned (.slice (some ⟨g, 0, none⟩) n cap) ∧ w'.ownsRow B 38 3 (.slice (some ⟨g, 0, none⟩) n cap) n (flat3 rs) ∧ Mod (fun k => k = g) w w'

theorem erase_parts (rs : List Hv) (i : Nat) (_hi : i < rs.length) : flat3 (rs.take i) ++ flat3 (rs.drop (i + 1)) = flat3 (rs.eraseIdx i) := by
  rw [← flat3_append, List.eraseIdx_eq_take_drop_succ]

set_option maxHeartbeats 1000000 in
theorem delete (B g cap n1 : Nat) (rs : List Hv) (i : Nat) (hi : i ≤ n1) (hrn : rs.length = n1 + 1) (hone : ∀ r ∈ rs, r.vec.oneCell' = true) (w : World) (h : w.ownsRow B 38 3 (.slice (some ⟨g, 0, none⟩) (n1 + 1) cap) (n1 + 1) (flat3 rs)) (hn : n1 ≤ 1000000) :
    Calls Tryz.prog 132 #[.slice (some ⟨g, 0, none⟩) (n1 + 1) cap, .int .i64 i, .int .i64 (i + 1)] w (Deleted B g cap n1 (rs.eraseIdx i) w) := by
  obtain ⟨hc1, hc2, cur, hcur, hcs⟩ := own_cap h
  simp only [maxLen] at hc2
  obtain ⟨i0, hi0, hz0, hz1, hz2⟩ := info_parts rowHit.info
  have AP : ∀ (a : Addr) (c : Nat), (i + 1 < cap → a = ⟨g, (i + 1) * 3, none⟩) → ∃ w', (∀ ty, (Builtin.append_ #[30, 30] ty #[.slice (some ⟨g, 0, none⟩) i cap, .slice (some a) (n1 - i) c]).run Tryz.prog w.drew = .ok (.slice (some ⟨g, 0, none⟩) n1 cap) w') ∧
      w'.ownsRow B 38 3 (.slice (some ⟨g, 0, none⟩) n1 cap) n1 (flat3 (rs.eraseIdx i)) ∧ w.drew.grownBy w' (some g) := by
    intro a c ha
    have hd := own_below h (Below.refl _ w).drew
    have hp := own_prefix hd (k := i) (by omega)
    rw [flat3_take] at hp
    obtain ⟨w', hr, h2, h3⟩ := run_append_own_spare (P := Tryz.prog) w.drew B 30 0 38 i0 3 Tryz.underlying30 hi0 hz1 g i cap (flat3 (rs.take i)) hp a (n1 - i) c (flat3 (rs.drop (i + 1))) (by rw [flat3_length, List.length_drop]; omega)
      (fun j u hj => by
        have hlt : i + 1 < cap := by
          refine Nat.lt_of_not_le fun hle => ?_
          have : rs.drop (i + 1) = [] := List.drop_eq_nil_of_le (by omega)
          rw [this] at hj; simp [flat3] at hj
        obtain rfl := ha hlt
        rw [← flat3_drop, List.getElem?_drop] at hj
        rw [Addr.add_lit]
        have := own_rangeAt hd rfl 0 (flat3 rs) (fun j u h => by simpa using h)
        have := this _ _ hj
        simpa using this) (flat3_one fun r hr => hone r (List.mem_of_mem_drop hr)) (by omega)
    rw [erase_parts rs i (by omega)] at h2
    rw [show i + (n1 - i) = n1 by omega] at hr h2
    exact ⟨w', fun ty => hr, h2, h3⟩
  have hbase : ∀ (w' : World), w.drew.grownBy w' (some g) → Mod (fun k => k = g) w w' := fun w' hg => (Mod.of_below (Below.refl _ w).drew).grown hg (fun k hk => .inl (by cases hk; rfl))
  have HB := Lib.hid hbase
  have hg : g < w.heap.size := lt_block hcur
  clear h hone hcur hcs hbase hi0 hz0 hz1 hz2 hrn
  by_cases hic : i + 1 = cap
  · obtain rfl : i + 1 = cap := hic
    obtain rfl : i = n1 := by omega
    rw [Nat.sub_self] at AP
    obtain ⟨w1, hrun, ho1, hg1⟩ := AP ⟨g, 0, none⟩ 0 (fun hh => by first | rfl | omega)
    have RUN := Lib.hid hrun
    have hcl := run_clear1 (o := i * 3) ho1 (by omega) (1) 0
    have FIN := Lib.hid (And.intro (own_setCells_far [.int .u64 0, .int .u64 0, .slice none 0 0] (i * 3) w1 _ ho1 (Nat.le_refl _)) (mod_setCells (HB.out w1 hg1) (.inl rfl) [.int .u64 0, .int .u64 0, .slice none 0 0] (i * 3)))
    clear AP hrun ho1 hg1
    have hx1 : (i : Int) ≤ (((i + 1) : Nat) : Int) := by omega
    have hx2 : (i : Int) + 1 ≤ (i : Int) + 1 := by omega
    have hx3 : (i : Int) ≤ (i : Int) + 1 := by omega
    have hx4 : (0 : Int) ≤ (i : Int) + 1 := by omega
    have hx5 : ((i : Int) == (i : Int) + 1) = false := by rw [beq_eq_false_iff_ne]; omega
    go_enter Tryz.func132, Tryz.ntmps132
    go_wp2_with fail
    refine region_go (fun _ => True) (by kernel_rfl) ?hS0 (fun hH => ?_)
    case hS0 =>
      trivial
    refine kY 0 hH ?_
    repeat simp only [Act.put, uA1, uB1, uC1]
    refine kY 1 hH ?_
    repeat simp only [Act.put, uA1, uB1, uC1]
    refine kY 2 hH ?_
    repeat simp only [Act.put, uA1, uB1, uC1]
    refine kY 3 hH ?_
    repeat simp only [Act.put, uA1, uB1, uC1]
    refine kY 4 hH ?_
    repeat simp only [Act.put, uA1, uB1, uC1]
    refine kY 5 hH ?_
    repeat simp only [Act.put, uA1, uB1, uC1]
    refine spk 6 rfl (by decide +kernel) (by rfl) (fun K' hK => ?_)
    refine wp_append_eq RUN.out _ _ rfl rfl rfl ?_
    try dsimp only
    refine hK.out _ _ ?hS (fun hH' => ?_)
    case hS =>
      trivial
    clear hK K' hH; have hH := hH'; clear hH'; repeat simp only [Act.put, uA1, uB1, uC1]
    refine kY 7 hH ?_
    repeat simp only [Act.put, uA1, uB1]
    refine wpAnyH_done (by decide +kernel) ?_ _
    clear hH
    go_wp2_with fail
    go_ret
    exact ⟨rfl, FIN.out.1, FIN.out.2⟩
  · have hic' : ¬ cap = i + 1 := fun e => hic e.symm
    obtain ⟨w1, hrun, ho1, hg1⟩ := AP ⟨g, (i + 1) * 3, none⟩ (cap - (i + 1)) (fun hh => by first | rfl | omega)
    have RUN := Lib.hid hrun
    have hcl := run_clear1 (o := n1 * 3) ho1 (by omega) (cap - n1) 0
    have FIN := Lib.hid (And.intro (own_setCells_far [.int .u64 0, .int .u64 0, .slice none 0 0] (n1 * 3) w1 _ ho1 (Nat.le_refl _)) (mod_setCells (HB.out w1 hg1) (.inl rfl) [.int .u64 0, .int .u64 0, .slice none 0 0] (n1 * 3)))
    clear AP hrun ho1 hg1
    have hx1 : (i : Int) ≤ ((cap : Nat) : Int) := by omega
    have hx2 : (i : Int) + 1 ≤ (n1 : Int) + 1 := by omega
    have hx3 : (i : Int) ≤ (i : Int) + 1 := by omega
    have hx4 : (0 : Int) ≤ (i : Int) + 1 := by omega
    have hx5 : ((i : Int) == (i : Int) + 1) = false := by rw [beq_eq_false_iff_ne]; omega
    go_enter Tryz.func132, Tryz.ntmps132
    go_wp2_with fail
    refine region_go (fun _ => True) (by kernel_rfl) ?hS0 (fun hH => ?_)
    case hS0 =>
      trivial
    refine kY 0 hH ?_
    repeat simp only [Act.put, uA1, uB1, uC1]
    refine kY 1 hH ?_
    repeat simp only [Act.put, uA1, uB1, uC1]
    refine kY 2 hH ?_
    repeat simp only [Act.put, uA1, uB1, uC1]
    refine kY 3 hH ?_
    repeat simp only [Act.put, uA1, uB1, uC1]
    refine kY 4 hH ?_
    repeat simp only [Act.put, uA1, uB1, uC1]
    refine kY 5 hH ?_
    repeat simp only [Act.put, uA1, uB1, uC1]
    refine spk 6 rfl (by decide +kernel) (by rfl) (fun K' hK => ?_)
    refine wp_append_eq RUN.out _ _ rfl rfl rfl ?_
    try dsimp only
    refine hK.out _ _ ?hS (fun hH' => ?_)
    case hS =>
      trivial
    clear hK K' hH; have hH := hH'; clear hH'; repeat simp only [Act.put, uA1, uB1, uC1]
    refine kY 7 hH ?_
    repeat simp only [Act.put, uA1, uB1]
    refine wpAnyH_done (by decide +kernel) ?_ _
    clear hH
    go_wp2_with fail
    go_ret
    exact ⟨rfl, FIN.out.1, FIN.out.2⟩

end Go.Proofs.YtpjbkaibgajpcaaGreat

namespace Go.Proofs.YtpjbkaibgajpcaaGreat
open Go.RowKit
set_option maxRecDepth 20000

theorem setAt_eq : ∀ (cs xs : List Value) (o : Nat), o + cs.length ≤ xs.length → setAt xs o cs = xs.take o ++ cs ++ xs.drop (o + cs.length)
  | [], xs, o, _ => by simp [setAt]
  | c :: cs, xs, o, h => by
    simp only [List.length_cons] at h
    rw [setAt, setAt_eq cs (xs.set o c) (o + 1) (by simp; omega)]
    have h1 : (xs.set o c).take (o + 1) = xs.take o ++ [c] := by
      rw [List.take_succ_eq_append_getElem (by simp; omega), List.getElem_set_self, List.take_set_of_le (Nat.le_refl _)]
    have h2 : (xs.set o c).drop (o + 1 + cs.length) = xs.drop (o + 1 + cs.length) := List.drop_set_of_lt (by omega)
    rw [h1, h2]
    simp [show o + 1 + cs.length = o + (cs.length + 1) by omega]

section
variable {P : Program}

theorem run_copyG {t e size bytes : Nat} {z : Value} (R : RowTy P t e size bytes z) {w : World} {g o dLen dCap : Nat} {a : Addr} {sLen sCap m : Nat} {cs : List Value} {cur : Array Value} {te : TypeId}
    (hg : w.heap[g]? = some (.cells cur te (0, 0))) (hm : Nat.min sLen dLen = m) (hcs : cs.length = m * size) (hsrc : ∀ j v, cs[j]? = some v → w.cell? (a.add j) = some v) (hfit : o + cs.length ≤ cur.size) (h1 : ∀ v ∈ cs, v.oneCell' = true) :
    ∀ ty, (Builtin.copy_ #[t, t] ty #[.slice (some ⟨g, o, none⟩) dLen dCap, .slice (some a) sLen sCap]).run P w = .ok (goInt m) (w.setCells g o cs) := by
  intro ty
  obtain ⟨i, hi, hz, hs, hb⟩ := info_parts R.info
  have hl := run_loadCells_list (P := P) w a cs hsrc
  have hst := run_storeCells_cells (P := P) g o cs 0 w (fun j hj => by
    have : o + 0 + j < cur.size := by omega
    simp only [World.cell?, hg]
    simp at this ⊢
    omega) (fun j hj => by simp [World.frozen?, hg]) h1
  simp only [Nat.add_zero] at hst
  simp [Builtin.copy_, run_underlying R.ty, Builtin.lenOf, Builtin.firstCells, sizeOf, typeInfo, hi, hs, hm, ← hcs, hl, hst]

theorem run_app_zeros {t tn e size bytes : Nat} {z : Value} {kn : IntKind} (R : RowTy P t e size bytes z) (htn : P.underlying tn = some (.int kn)) {w : World} {base g n cap k : Nat} {xs : List Value} (hown : w.ownsRow base e size (.slice (some ⟨g, 0, none⟩) n cap) n xs) (hbase : base ≤ w.heap.size)
    (hg : cap < n + k) (h0 : 0 < k) (h63 : n + k ≤ maxLen) (hbytes : (n + k) * bytes ≤ 140737488355328) (_h1z : ∀ u ∈ z.cells.toList, u.oneCell' = true) :
    ∃ cap' w' zs, (∀ ty, (Builtin.append_ #[t, tn] ty #[.slice (some ⟨g, 0, none⟩) n cap, .int .i64 k]).run P w = .ok (.slice (some ⟨w.heap.size, 0, none⟩) (n + k) cap') w') ∧
      w'.ownsRow base e size (.slice (some ⟨w.heap.size, 0, none⟩) (n + k) cap') (n + k) (xs ++ zs) ∧ zs.length = k * size ∧ Below w.heap.size w w' ∧ w.heap.size < w'.heap.size := by
  obtain ⟨i, hi, hz, hs, hb⟩ := info_parts R.info
  subst hs; subst hb
  simp only [maxLen] at h63
  have hkb : k * i.bytes ≤ (n + k) * i.bytes := Nat.mul_le_mul_right _ (by omega)
  have hn : ¬ (n + k ≤ cap) := by omega
  have hw : IntKind.i64.wrap (k : Int) = k := by rw [IntKind.wrap_i64]; omega
  have h63' : ¬ (9223372036854775807 < ((n : Int) + (k : Int))) := by omega
  have h48' : ¬ (281474976710656 < Builtin.nextslicecap (n + k) cap * i.bytes) := by have := growslice_fits (need := n + k) (old := cap) (bytes := i.bytes) (by omega) hbytes; omega
  have h48i : ¬ (281474976710656 < (k : Int) * (i.bytes : Int)) := by
    rw [← Int.natCast_mul]
    omega
  have hneg : ¬ ((k : Int) < 0) := by omega
  have hns : ¬ (k * i.size = 0) := Nat.mul_ne_zero (by omega) (by have := R.pos; omega)
  have hzsz : z.cells.size = i.size := R.zs
  have hzc : ∀ m, (Builtin.zeroCells z.cells m).size = m * i.size := fun m => by simp [Builtin.zeroCells, hzsz]
  have hsrc := SrcAt.of_own hown
  have hfo := run_firstCells_some (P := P) w.drew i.size n ⟨g, 0, none⟩ n cap xs hown.1 (by simpa using hsrc.cells _ rfl)
  refine ⟨grownCap w (n + k) cap e, w.drew.alloc (.cells (xs.toArray ++ Builtin.zeroCells z.cells k ++ Builtin.zeroCells z.cells (grownCap w (n + k) cap e - (n + k))) e), (Builtin.zeroCells z.cells k).toList, fun ty => ?_, ?_, by simp [hzc], (Below.refl _ _).drew.alloc (Nat.le_refl _) _, by simp⟩
  · simp [Builtin.append_, run_underlying R.ty, run_underlying htn, sizeOf, typeInfo, zeroValue, hi, hz, asInt, asIntOf, hw, hn, hneg, hns, h63', h48', h48i, Question.forced, hfo, newRow, grownCap]
  · have hge := grownCap_ge w (n + k) cap e
    refine ⟨by simp [hown.1, hzc, Nat.add_mul], .inr ⟨w.heap.size, grownCap w (n + k) cap e, _, rfl, hbase, heap_alloc_new _ _, hge, grownCap_le_maxLen w (n + k) cap e (by simp only [maxLen]; omega), ?_, ?_⟩⟩
    · simp only [Array.size_append, List.size_toArray, hzc, hown.1]
      rw [← Nat.add_mul, ← Nat.add_mul]
      congr 1; omega
    · simp only [Array.toList_append]
      rw [List.take_append_of_le_length (by simp [hown.1, hzc, Nat.add_mul]), List.take_of_length_le (by simp [hown.1, hzc, Nat.add_mul])]

end

theorem own_extend {w : World} {base e size g n m cap : Nat} {xs : List Value} (h : w.ownsRow base e size (.slice (some ⟨g, 0, none⟩) n cap) n xs) (hn : n ≤ m) (hm : m ≤ cap) :
    ∃ ys, ys.length = (m - n) * size ∧ w.ownsRow base e size (.slice (some ⟨g, 0, none⟩) m cap) m (xs ++ ys) := by
  obtain ⟨h1, ⟨h2, _⟩ | ⟨g', cap', cur, hv, hb, hh, hnc, hcm, hs, ht⟩⟩ := h
  · cases h2
  · obtain ⟨ha, _, hc⟩ := Value.slice.inj hv
    simp only [Option.some.injEq, Addr.mk.injEq, and_true] at ha
    subst ha; subst hc
    have hle : m * size ≤ cap * size := Nat.mul_le_mul_right _ hm
    have hnm : n * size ≤ m * size := Nat.mul_le_mul_right _ hn
    have hlen : ((cur.toList.take (m * size)).drop (n * size)).length = (m - n) * size := by
      rw [List.length_drop, List.length_take, Array.length_toList, Nat.sub_mul]
      omega
    refine ⟨(cur.toList.take (m * size)).drop (n * size), hlen, ?_, .inr ⟨g, cap, cur, rfl, hb, hh, hm, hcm, hs, ?_⟩⟩
    · rw [List.length_append, hlen, h1, ← Nat.add_mul]; congr 1; omega
    · have := List.take_append_drop (n * size) (cur.toList.take (m * size))
      rw [List.take_take, show min (n * size) (m * size) = n * size by omega] at this
      rw [← ht]
      exact this.symm

theorem overlaps_no {w : World} {gv g o lb cb : Nat} {cs cur : Array Value} {te tf : TypeId} (hv : w.heap[gv]? = some (.cells cs te (0, 0))) (hg : w.heap[g]? = some (.cells cur tf (0, 0))) (hne : gv ≠ g) (hcur : cur.size ≠ 0) :
    (callFunc 118 #[.slice (some ⟨gv, 0, none⟩) 1 1, .slice (some ⟨g, o, none⟩) lb cb]).run Tryz.prog w = .ok (.value (.bool false)) w := by
  rw [run_callFunc_extern (P := Tryz.prog) (f := 118) Tryz.func118 (by kernel_rfl) (by kernel_rfl) (by kernel_rfl) (e := Extern.SlicesOverlaps.overlaps #[30, 30] #[4]) (by kernel_rfl),
    Lib.run_overlaps_apart (P := Tryz.prog) w 30 4 38 Tryz.underlying30 3 (fun _ => by kernel_rfl) ⟨gv, 0, none⟩ ⟨g, o, none⟩ 1 1 lb cb hne te tf cs.size cur.size (by simp [World.shape?, hv]) (by simp [World.shape?, hg]) hcur (by simp [World.frozen?, hv]) (by simp [World.frozen?, hv])]
  rfl

end Go.Proofs.YtpjbkaibgajpcaaGreat
