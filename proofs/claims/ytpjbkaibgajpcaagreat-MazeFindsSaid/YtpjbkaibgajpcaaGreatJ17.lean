/- walk: Run. walk: Run, walked. walk's document: the nearest that is to be gone to; without it. walk's document: Run, walked. A map in memory: an entry is made ready, and written (m[a][b], m[b][a] = v, v). -/
import Derived.Test.YtpjbkaibgajpcaaGreatJ16
import Derived.Test.YtpjbkaibgajpcaaGreatJ06
import Derived.Deep.DeepCutAuto
import Derived.Test.YtpjbkaibgajpcaaGreatJ13
import Derived.Test.YtpjbkaibgajpcaaGreatJ15
import Derived.Test.YtpjbkaibgajpcaaGreatJ10
import Derived.Test.YtpjbkaibgajpcaaGreatJ08
namespace Go.Proofs.YtpjbkaibgajpcaaGreat
open Go.RowKit Go.ChangeMaps
set_option maxRecDepth 20000

theorem goW_count (far : Int → Option Int) (nr : Int → List Int) (most : Nat) : ∀ (f : Nat) (s : Ws), (goW far nr most f s).2 ≤ f := by
  intro f
  induction f with
  | zero => intro s; exact Nat.le_refl _
  | succ f ih =>
    intro s
    unfold goW
    cases s.T.getLast? with
    | none => exact Nat.zero_le _
    | some h =>
      simp only
      split
      · exact Nat.zero_le _
      · have := ih (lookW far most false ⟨s.L, s.S, s.T.dropLast⟩ (nr h.id))
        simp only
        omega

section
variable {w0 w w' : World} {sp : Value} {p ms c : Nat} {F : Nat → Prop} {kv : Value} {ks : List Int} {most : Nat} {tv : Value} {s : Ws}

theorem WkAt.rekey (h : WkAt w0 w sp p ms c F kv ks most tv s) {kv' : Value} {ks' : List Int} (hk : Nums w .u64 kv' ks') (ha : ∀ k, kv'.ownBlock = some k → 0 < ks'.length → k < w.heap.size ∧ ¬ F k ∧ k ≠ p ∧ k ≠ ms ∧ tv.ownBlock ≠ some k) : WkAt w0 w sp p ms c F kv' ks' most tv s :=
  ⟨h.cell, h.seen, h.best, h.todo, h.fhi, h.fp, h.fms, h.ft, h.low, h.old, hk, ha⟩

theorem nums_none (w : World) : Nums w .u64 (.slice none 0 0) [] := Nums.mk (xs := []) (by simp) (by simp) (by simp) (by simp)

theorem WkAt.bare (h : WkAt w0 w sp p ms c F kv ks most tv s) : WkAt w0 w sp p ms c F (.slice none 0 0) [] most tv s := h.rekey (nums_none w) fun k _ h0 => absurd h0 (by simp)

theorem WkAt.newkeys (h : WkAt w0 w sp p ms c F kv ks most tv s) (hb : Below w.heap.size w w') {kv' : Value} {ks' : List Int} (ho : w'.ownsRow w.heap.size 36 1 kv' ks'.length (ks'.map (Value.int .u64))) : WkAt w0 w' sp p ms c F kv' ks' most tv s :=
  (h.below hb).rekey (Nums.of_own ho) fun k hk _ => by
    have h1 := ho.lt k hk
    have h2 := h.plt
    have h3 := h.seen.lt
    exact ⟨h1.2, fun hF => by have := (h.fhi k hF).2; omega, by omega, by omega, fun e => by have := (h.todo.lt k e).2; omega⟩

theorem WkAt.popped (h : WkAt w0 w sp p ms c F kv ks most tv s) {g t cap : Nat} (ht : s.T.length = t + 1) (hv : tv = .slice (some ⟨g, 0, none⟩) (t + 1) cap) : WkAt w0 (w.setCell ⟨p, 3, none⟩ (.slice (some ⟨g, 0, none⟩) t cap)) sp p ms c F kv ks most (.slice (some ⟨g, 0, none⟩) t cap) ⟨s.L, s.S, s.T.dropLast⟩ := by
  subst hv
  have hset := setBk h.cell 3 (.slice (some ⟨g, 0, none⟩) t cap)
  obtain ⟨e1, e2, e3⟩ := h.self
  have hrow := h.todo
  rw [ht] at hrow
  have hpre := own_prefix hrow (Nat.le_succ t)
  rw [flat3_take, ← List.map_take] at hpre
  have hd : s.T.dropLast = s.T.take t := by rw [List.dropLast_eq_take, ht]; rfl
  refine h.turn ((Mod.refl _ w).setCell (p := ⟨p, 3, none⟩) (.inl (.inr (.inl rfl))) _) (by simpa using hset) (h.seen.kept (setBk_other (Ne.symm e1))) (h.best.agree (fun j hj => setBk_other (by rintro rfl; exact h.fp hj)) (by simp [World.setCell])) ?_ (fun j hj => .inl hj) (.inl rfl)
  have hl : (s.T.dropLast).length = t := by simp [ht]
  simp only [hl]
  rw [hd]
  exact own_agree hpre fun j hj => setBk_other (by rintro rfl; exact e2 (by rw [← hj]; rfl))
end

end Go.Proofs.YtpjbkaibgajpcaaGreat

namespace Go.Proofs.YtpjbkaibgajpcaaGreat
open Go.RowKit Go.ChangeMaps
set_option maxRecDepth 20000

theorem heapTwo (w : World) (a b : Obj) : ((w.alloc a).alloc b).heap[w.heap.size]? = some a ∧ ((w.alloc a).alloc b).heap[w.heap.size + 1]? = some b := by
  refine ⟨?_, ?_⟩
  · rw [heap_alloc_old _ _ (by simp)]; exact heap_alloc_new _ _
  · have := heap_alloc_new (w.alloc a) b
    rwa [World.size_alloc] at this

def RunTells (w0 : World) (L : List Hz) (n : Nat) (e : Ending) (w' : World) : Prop :=
  ∃ v rs, e = .returned (.tuple #[v, .int .i64 n]) ∧ w'.ownsRow w0.heap.size 38 3 v rs.length (flat3 rs) ∧ Held3 w' w0.heap.size 21 rs L ∧ Below w0.heap.size w0 w'


theorem Held3.mono {w : World} {B B' E : Nat} {rs : List Hv} {l : List Hz} (h : Held3 w B E rs l) (hb : B' ≤ B) : Held3 w B' E rs l :=
  ⟨h.len, fun i h1 h2 => ⟨(h.own i h1 h2).1, own_mono (h.own i h1 h2).2 hb⟩, h.apart⟩

set_option maxRecDepth 100000 in
set_option maxHeartbeats 16000000 in
theorem wRun (w0 : World) (T : TypeId) (rv : Value) (far : Int → Option Int) (nr : Int → List Int) (fF : FuncId) (rF : Value) (fN : FuncId) (rN : Value) (SP : SpaceAt w0 T rv far nr fF rF fN rN) (K : List Int) (hKf : ∀ k d, far k = some d → k ∈ K) (hK1 : K.length ≤ 1000)
    (most : Nat) (hm : 1 ≤ most ∧ most ≤ 256) (kv : Value) (ks : List Int) (hk : Nums w0 .u64 kv ks) (hk0 : ∀ k, kv.ownBlock = some k → 0 < ks.length → k < w0.heap.size) :
    Calls Tryz.prog 38 #[.iface T rv, .int .i64 most, kv] w0 (RunTells w0 (goW far nr most (2 * K.length) (lookW far most true ⟨[], [], []⟩ ks)).1 (goW far nr most (2 * K.length) (lookW far most true ⟨[], [], []⟩ ks)).2) := by
  obtain ⟨kp, kc, rfl, -, -, -, -⟩ := hk.slice
  have HK := Lib.hid (And.intro hk hk0)
  have SPH := Lib.hid SP
  have eN := SP.eN
  clear hk hk0 SP
  obtain ⟨R1, hR1⟩ : ∃ R, R = (goW far nr most (2 * K.length) (lookW far most true ⟨[], [], []⟩ ks)).1 := ⟨_, rfl⟩
  obtain ⟨R2, hR2⟩ : ∃ R, R = (goW far nr most (2 * K.length) (lookW far most true ⟨[], [], []⟩ ks)).2 := ⟨_, rfl⟩
  rw [← hR1, ← hR2]
  have HR := Lib.hid (And.intro hR1 hR2)
  clear hR1 hR2
  go_enter Tryz.func38, Tryz.ntmps38
  go_upto_region 5 with (go_at_call 69; refine (new_yes most w0 (by omega) (by omega)).mono ?_; rintro e w1 ⟨c, rfl, hL1, hb1⟩; have N1 := Lib.hid (And.intro hL1 hb1); have hmm := @run_makeMap Tryz.prog; clear hL1 hb1)
  obtain ⟨W2, hW2⟩ : ∃ W2, W2 = (w1.alloc (.map #[] 0)).alloc (.cells #[.iface T rv, .pointer (some ⟨c, 0, none⟩), .map (some w1.heap.size), .slice none 0 0] 119) := ⟨_, rfl⟩
  have hh := heapTwo w1 (.map #[] 0) (.cells #[.iface T rv, .pointer (some ⟨c, 0, none⟩), .map (some w1.heap.size), .slice none 0 0] 119)
  rw [← hW2] at hh
  have hb12 : Below w1.heap.size w1 W2 := by rw [hW2]; exact ((Below.refl _ w1).alloc (Nat.le_refl _) _).alloc (by simp) _
  have hs12 : W2.heap.size = w1.heap.size + 2 := by rw [hW2]; simp
  have hAt : WkAt w0 W2 (.iface T rv) (w1.heap.size + 1) w1.heap.size c (Plus (fun _ => False) w0 w1) (.slice kp ks.length kc) ks most (.slice none 0 0) ⟨[], [], []⟩ := by
    have hsz := N1.out.2.size
    refine ⟨hh.2, (MapAt.made (mk := Value.int .u64) w1).kept (by rw [hh.1]; exact (heap_alloc_new _ _).symm), N1.out.1.below hb12, World.ownsRow_nil _ _ _ _, fun k hk => ?_, fun hk => ?_, fun hk => ?_, fun b hb => (by cases hb), ⟨by omega, by omega⟩, N1.out.2.trans (hb12.mono hsz), (HK.out.1.below N1.out.2).below hb12, fun k hk h0 => ?_⟩
    · rcases hk with hk | hk
      · exact hk.elim
      · omega
    · rcases hk with hk | hk
      · exact hk.elim
      · omega
    · rcases hk with hk | hk
      · exact hk.elim
      · omega
    · have := HK.out.2 k hk h0
      refine ⟨by omega, fun hk => ?_, by omega, by omega, by simp [Value.ownBlock]⟩
      rcases hk with hk | hk
      · exact hk.elim
      · omega
  have c5 := Lib.hid (wLook w0 W2 T rv far nr fF rF fN rN SPH.out K hKf hK1 _ _ _ _ _ ks most (by omega) _ _ hAt (GoodW.start hm.1) true)
  rw [← hW2]
  have g5 := Lib.hid ((GoodW.start (K := K) (far := far) hm.1).look hKf hm.1 true ks)
  obtain ⟨p, hp⟩ : ∃ p, p = w1.heap.size + 1 := ⟨_, rfl⟩
  obtain ⟨ms, hms⟩ : ∃ ms, ms = w1.heap.size := ⟨_, rfl⟩
  rw [← hp, ← hms] at c5
  rw [← hp]
  clear hh hb12 hs12 hAt hW2 hp hms hmm
  go_wp2_with (go_at_call 70; (with_reducible refine c5.out.mono ?_); rintro e w5 ⟨rfl, F5, tv5, hA5⟩; have A5 := Lib.hid hA5; clear hA5)
  have HM := Lib.hid (fun (s : Ws) (g : GoodW K far most s) => (show lessW K s ≤ 2 * K.length from by
    have h1 := g.small
    have h2 := List.length_filter_le (fun k => decide (k ∉ s.S)) K
    unfold lessW
    omega))
  obtain ⟨M, hM⟩ : ∃ M, M = 2 * K.length := ⟨_, rfl⟩
  rw [← hM] at HR HM
  have hM2 : M ≤ 2000 := by omega
  have hR2 : R2 ≤ 2000 := by have := goW_count far nr most M (lookW far most true ⟨[], [], []⟩ ks); rw [HR.out.2]; omega
  have CN := Lib.hid (goW_count far nr most M)
  clear hM
  go_wp2_with fail
  go_loopg [11] M (fun q nv wr => ∃ (n : Nat) (F : Nat → Prop) (tv : Value) (st : Ws), nv = .int .i64 n ∧ lessW K st ≤ q ∧ WkAt w0 wr (.iface T rv) p ms c F (.slice none 0 0) [] most tv st ∧ GoodW K far most st ∧ (goW far nr most M st).1 = R1 ∧ n + (goW far nr most M st).2 = R2)
  case atStart => exact ⟨0, F5, tv5, _, rfl, HM.out _ g5.out, A5.out.bare, g5.out, by rw [HR.out.1], by rw [HR.out.2]; simp⟩
  case round =>
    obtain ⟨n, F, tv, st, rfl, hq, hA, hg, hr1, hr2⟩ := hrel
    have WA := Lib.hid hA
    have GS := Lib.hid hg
    have hsm := hg.small
    obtain ⟨tp, tn, tc, rfl⟩ := own_form hA.todo
    obtain rfl : tn = st.T.length := own_len hA.todo
    have hcount := CN.out st
    have hle := HM.out st hg
    have hunf := goW_more (most := most) hKf nr M st hle
    have c3 : wr.cell? ⟨p, 3, none⟩ = some (.slice tp st.T.length tc) := cellsB hA.cell 3
    have Q1 := Lib.hid hq
    have hn2 : n ≤ 2000 := by omega
    cases hl : st.T.getLast? with
    | none =>
      have hT : st.T = [] := by simpa using hl
      have hgo : goW far nr most M st = (st.L, 0) := by
        rw [← hunf]
        simp [goW, hT]
      have FIN := Lib.hid (show n = R2 from by rw [← hr2, hgo]; rfl)
      have HRL := Lib.hid (show st.L = R1 from by rw [← hr1, hgo])
      have hT0 : st.T.length = 0 := by rw [hT]; rfl
      clear hA hg hsm hcount hle hunf hq hl hgo hr1 hr2
      rw [hT0] at c3
      have hLL := GS.out.best.len
      obtain ⟨v9, rs9, G9, hO9, -, -, -⟩ := WA.out.best
      have cT := Lib.hid (hits w0.heap.size c most v9 rs9 G9 st.L (by have := hm.2; omega) (fun r hr => GS.out.best.vecs r hr) wr hO9)
      have cc1 : wr.cell? ⟨p, 1, none⟩ = some (.pointer (some ⟨c, 0, none⟩)) := cellsB WA.out.cell 1
      have OLD := Lib.hid WA.out.old
      clear hO9 hLL
      go_wp2_with (go_at_call 72; (with_reducible refine cT.out.mono ?_); rintro e w9 ⟨vh, rsh, rfl, hoh, hhh, hbh⟩; have RH := Lib.hid (And.intro hoh (And.intro hhh hbh)); clear hoh hhh hbh)
      go_ret2
      have fin := FIN.out
      subst fin
      exact ⟨vh, rsh, rfl, own_mono RH.out.1 OLD.out.size, by rw [← HRL.out]; exact RH.out.2.1.mono OLD.out.size, OLD.out.trans (RH.out.2.2.mono OLD.out.size)⟩
    | some x =>
      have hTne : st.T ≠ [] := by rintro e; rw [e] at hl; cases hl
      obtain ⟨t, ht⟩ : ∃ t, st.T.length = t + 1 := ⟨st.T.length - 1, by have := List.length_pos_iff.2 hTne; omega⟩
      have hx : st.T[t]'(by omega) = x := by
        rw [List.getLast?_eq_getElem?, ht] at hl
        have := List.getElem?_eq_some_iff.1 hl
        exact this.2
      obtain ⟨gb, cap', hve, -, -⟩ := hA.todo.form (by omega)
      obtain ⟨rfl, -, rfl⟩ := Value.slice.inj hve
      have hft := flat3_get (st.T.map bareV) t (by simp; omega)
      simp only [List.getElem_map, bareV, hx] at hft
      have t0 : wr.cell? ⟨gb, t * 3, none⟩ = some (.int .u64 x.id) := by rw [World.ownsRow.cellAt hA.todo _ (by omega)]; exact hft.1
      have t1 : wr.cell? ⟨gb, t * 3 + 1, none⟩ = some (.int .u64 x.dist) := by rw [World.ownsRow.cellAt hA.todo _ (by omega)]; exact hft.2.1
      have t2 : wr.cell? ⟨gb, t * 3 + 1 + 1, none⟩ = some (.slice none 0 0) := by rw [World.ownsRow.cellAt hA.todo _ (by omega)]; exact hft.2.2
      have hpl := hA.plt
      have XT := Lib.hid (And.intro ht hx)
      have hrw := hA.todo
      rw [ht] at hrw
      have hct : (0 : Int) ≤ t ∧ (t : Int) ≤ tc := by have := (own_cap hrw).1; omega
      have hxv := hg.bare x (by rw [← hx]; exact List.getElem_mem _)
      have XV := Lib.hid hxv
      obtain ⟨W8, hW8⟩ : ∃ W8, W8 = wr.drew := ⟨_, rfl⟩
      have hb8 : Below wr.heap.size wr W8 := by rw [hW8]; exact (Below.refl _ _).drew
      have A8 := Lib.hid (hA.below hb8)
      rw [ht] at c3
      have I8 := Lib.hid (And.intro (below_cells hb8 c3) (And.intro (below_cells hb8 t0) (And.intro (below_cells hb8 t1) (below_cells hb8 t2))))
      have HUN := Lib.hid (And.intro hunf (And.intro hr1 hr2))
      have HL := Lib.hid hl
      have HT := Lib.hid hTne
      have HW8 := Lib.hid hW8
      have ht2 : t ≤ 1000 := by omega
      have hti : IntKind.i64.wrap (t : Int) = t := by simp [IntKind.wrap, IntKind.signed, IntKind.bits] <;> omega
      have hti2 : (0 : Int) ≤ t ∧ (t : Int) < t + 1 := by omega
      have hti3 : ((t : Nat) : Int).toNat = t := Int.toNat_natCast _
      clear hA hg hsm hcount hle hunf hq hl hr1 hr2 hTne hx hve hft t0 t1 t2 hb8 hW8 hrw hxv
      go_wp2_with fail
      refine region_goN 13 (fun w' => w'.cell? ⟨p, 3, none⟩ = some (.slice (some ⟨gb, 0, none⟩) (t + 1) tc) ∧ w'.cell? ⟨gb, t * 3, none⟩ = some (.int .u64 x.id) ∧ w'.cell? ⟨gb, t * 3 + 1, none⟩ = some (.int .u64 x.dist) ∧ w'.cell? ⟨gb, t * 3 + 1 + 1, none⟩ = some (.slice none 0 0)) (by kernel_rfl) ?hS0 (fun hH => ?_)
      case hS0 =>
        rw [← HW8.out]; exact I8.out
      rw [← HW8.out] at hH ⊢
      refine kYN 0 hH ?_
      repeat simp only [Act.put, uA1, uB1, uC1]
      refine kYN 1 hH ?_
      repeat simp only [Act.put, uA1, uB1, uC1]
      refine kYN 2 hH ?_
      repeat simp only [Act.put, uA1, uB1, uC1]
      refine kYN 3 hH ?_
      repeat simp only [Act.put, uA1, uB1, uC1]
      refine kYN 4 hH ?_
      repeat simp only [Act.put, uA1, uB1, uC1]
      refine kYN 5 hH ?_
      repeat simp only [Act.put, uA1, uB1, uC1]
      refine kYN 6 hH ?_
      repeat simp only [Act.put, uA1, uB1, uC1]
      refine kYN 7 hH ?_
      repeat simp only [Act.put, uA1, uB1, uC1]
      refine kYN 8 hH ?_
      repeat simp only [Act.put, uA1, uB1, uC1]
      refine kYN 9 hH ?_
      repeat simp only [Act.put, uA1, uB1, uC1]
      refine kYN 10 hH ?_
      repeat simp only [Act.put, uA1, uB1, uC1]
      refine kYN 11 hH ?_
      repeat simp only [Act.put, uA1, uB1, uC1]
      refine spkN 12 rfl (by decide) (by decide +kernel) (by rfl) (fun K' hK => ?_)
      go_simp
      try dsimp only
      refine hK.out _ _ ?hS (fun hH' => ?_)
      case hS =>
        exact ⟨below_cells ((Below.refl _ _).alloc (Nat.le_refl _) _) hH.1, below_cells ((Below.refl _ _).alloc (Nat.le_refl _) _) hH.2.1, below_cells ((Below.refl _ _).alloc (Nat.le_refl _) _) hH.2.2.1, below_cells ((Below.refl _ _).alloc (Nat.le_refl _) _) hH.2.2.2⟩
      clear hK K' hH; have hH := hH'; clear hH'; repeat simp only [Act.put, uA1, uB1, uC1]
      refine spkL rfl (by decide +kernel) (by rfl) (fun K' hK => ?_)
      go_simp
      try dsimp only
      refine hK.out _ _ ?_
      clear hK K' hH; repeat simp only [Act.put, uA1, uB1, uC1]
      refine anyBut_done (by decide +kernel) ?_ _
      go_wp2_with fail
      obtain ⟨W9, hW9⟩ : ∃ W9, W9 = (W8.alloc (.cells #[.int .u64 x.id, .int .u64 x.dist, .slice none 0 0] 38)).drew := ⟨_, rfl⟩
      have hb9 : Below W8.heap.size W8 W9 := by rw [hW9]; exact ((Below.refl _ _).alloc (Nat.le_refl _) _).drew
      have y9 : W9.heap[W8.heap.size]? = some (.cells #[.int .u64 x.id, .int .u64 x.dist, .slice none 0 0] 38 (0, 0)) := by rw [hW9]; exact heap_alloc_new _ _
      have A9 := Lib.hid (A8.out.below hb9)
      have hp8 := A8.out.plt
      obtain ⟨g, hge⟩ : ∃ g, g = W8.heap.size := ⟨_, rfl⟩
      rw [← hge] at y9 ⊢
      have hgp : g ≠ p := by omega
      have c3' : W9.cell? ⟨p, 3, none⟩ = some (.slice (some ⟨gb, 0, none⟩) (t + 1) tc) := by have := cellsB A9.out.cell 3; rw [this, XT.out.1]; rfl
      have z3 : W9.frozen? ⟨p, 3, none⟩ = false := by simp [World.frozen?, A9.out.cell]
      have A10 := A9.out.popped (g := gb) (t := t) (cap := tc) XT.out.1 (by rw [XT.out.1])
      obtain ⟨W10, hW10⟩ : ∃ W10, W10 = W9.setCell ⟨p, 3, none⟩ (.slice (some ⟨gb, 0, none⟩) t tc) := ⟨_, rfl⟩
      rw [← hW10] at A10
      have y10 : W10.heap[g]? = some (.cells #[.int .u64 x.id, .int .u64 x.dist, .slice none 0 0] 38 (0, 0)) := by rw [hW10]; exact (setBk_other hgp).trans y9
      have A10' := Lib.hid A10
      have Y10 := Lib.hid y10
      have HW9 := Lib.hid hW9
      have HW10 := Lib.hid hW10
      have I9 := Lib.hid c3'
      clear hW9 hb9 y9 hp8 hge A10 hW10 y10 c3'
      refine region_goN 14 (fun w' => w'.cell? ⟨p, 3, none⟩ = some (.slice (some ⟨gb, 0, none⟩) (t + 1) tc)) (by kernel_rfl) ?hS0 (fun hH => ?_)
      case hS0 =>
        rw [← HW9.out]; exact I9.out
      rw [← HW9.out] at hH ⊢
      refine kYN 0 hH ?_
      repeat simp only [Act.put, uA1, uB1, uC1]
      refine kYN 1 hH ?_
      repeat simp only [Act.put, uA1, uB1, uC1]
      refine kYN 2 hH ?_
      repeat simp only [Act.put, uA1, uB1, uC1]
      refine kYN 3 hH ?_
      repeat simp only [Act.put, uA1, uB1, uC1]
      refine kYN 4 hH ?_
      repeat simp only [Act.put, uA1, uB1, uC1]
      refine kYN 5 hH ?_
      repeat simp only [Act.put, uA1, uB1, uC1]
      refine kYN 6 hH ?_
      repeat simp only [Act.put, uA1, uB1, uC1]
      refine kYN 7 hH ?_
      repeat simp only [Act.put, uA1, uB1, uC1]
      refine kYN 8 hH ?_
      repeat simp only [Act.put, uA1, uB1, uC1]
      refine kYN 9 hH ?_
      repeat simp only [Act.put, uA1, uB1, uC1]
      refine kYN 10 hH ?_
      repeat simp only [Act.put, uA1, uB1, uC1]
      refine kYN 11 hH ?_
      repeat simp only [Act.put, uA1, uB1, uC1]
      refine spkN 12 rfl (by decide) (by decide +kernel) (by rfl) (fun K' hK => ?_)
      go_simp
      try dsimp only
      refine hK.out _ _ ?hS (fun hH' => ?_)
      case hS =>
        exact hH
      clear hK K' hH; have hH := hH'; clear hH'; repeat simp only [Act.put, uA1, uB1, uC1]
      refine kYN 13 hH ?_
      repeat simp only [Act.put, uA1, uB1, uC1]
      refine spkL rfl (by decide +kernel) (by rfl) (fun K' hK => ?_)
      go_simp
      try dsimp only
      refine hK.out _ _ ?_
      clear hK K' hH; repeat simp only [Act.put, uA1, uB1, uC1]
      refine anyBut_done (by decide +kernel) ?_ _
      rw [← HW10.out]
      have cO := Lib.hid (wOver W10 w0.heap.size p c F most st.L x (.slice none 0 0) (cellsB A10'.out.cell 1) A10'.out.best GS.out.best (by omega) ⟨none, 0, 0, rfl⟩)
      have e0 := cellsB Y10.out 0
      have e1 := cellsB Y10.out 1
      have e2 := cellsB Y10.out 2
      clear HW9
      cases ho : overB most st.L x with
      | true =>
        rw [ho] at cO
        have hgo : goW far nr most M st = (st.L, 0) := by
          rw [← HUN.out.1]
          simp only [goW, HL.out, ho, if_true]
        have FIN := Lib.hid (show n = R2 from by have h := HUN.out.2.2; rw [hgo] at h; exact h)
        have HRL := Lib.hid (show st.L = R1 from by have h := HUN.out.2.1; rw [hgo] at h; exact h)
        clear hgo ho
        go_upto_region 13 with (go_at_call 71; (with_reducible refine cO.out.mono ?_); rintro e w11 ⟨rfl, hb⟩; have WA := Lib.hid (A10'.out.below hb); clear hb)
        have hLL := GS.out.best.len
        obtain ⟨v9, rs9, G9, hO9, -, -, -⟩ := WA.out.best
        have cT := Lib.hid (hits w0.heap.size c most v9 rs9 G9 st.L (by have := hm.2; omega) (fun r hr => GS.out.best.vecs r hr) w11 hO9)
        have cc1 : w11.cell? ⟨p, 1, none⟩ = some (.pointer (some ⟨c, 0, none⟩)) := cellsB WA.out.cell 1
        have OLD := Lib.hid WA.out.old
        clear hO9 hLL
        go_wp2_with (go_at_call 72; (with_reducible refine cT.out.mono ?_); rintro e w9 ⟨vh, rsh, rfl, hoh, hhh, hbh⟩; have RH := Lib.hid (And.intro hoh (And.intro hhh hbh)); clear hoh hhh hbh)
        go_ret2
        have fin := FIN.out
        subst fin
        exact ⟨vh, rsh, rfl, own_mono RH.out.1 OLD.out.size, by rw [← HRL.out]; exact RH.out.2.1.mono OLD.out.size, OLD.out.trans (RH.out.2.2.mono OLD.out.size)⟩
      | false =>
        rw [ho] at cO
        have hgo : goW far nr most M st = ((goW far nr most M (lookW far most false ⟨st.L, st.S, st.T.dropLast⟩ (nr x.id))).1, (goW far nr most M (lookW far most false ⟨st.L, st.S, st.T.dropLast⟩ (nr x.id))).2 + 1) := by
          rw [← HUN.out.1]
          simp only [goW, HL.out, ho, Bool.false_eq_true, if_false]
        have HGO := Lib.hid hgo
        have gP := Lib.hid GS.out.pop
        clear hgo ho
        go_upto_region 12 with (go_at_call 71; (with_reducible refine cO.out.mono ?_); rintro e w11 ⟨rfl, hb⟩; have A11 := Lib.hid (A10'.out.below hb); have B11 := Lib.hid hb; clear hb)
        obtain ⟨W12, hW12⟩ : ∃ W12, W12 = w11.drew := ⟨_, rfl⟩
        have hb12 : Below w11.heap.size w11 W12 := by rw [hW12]; exact (Below.refl _ _).drew
        have A12 := Lib.hid (A11.out.below hb12)
        have y12 : W12.heap[g]? = some (.cells #[.int .u64 x.id, .int .u64 x.dist, .slice none 0 0] 38 (0, 0)) := by
          have h1 := Y10.out
          have hlt : g < W10.heap.size := (Array.getElem?_eq_some_iff.1 h1).1
          have hs := B11.out.size
          exact (hb12.block g (by omega)).trans ((B11.out.block g hlt).trans h1)
        have c0 : W12.cell? ⟨p, 0, none⟩ = some (.iface T rv) := cellsB A12.out.cell 0
        have e0' : W12.cell? ⟨g, 0, none⟩ = some (.int .u64 x.id) := cellsB y12 0
        have mN := SPH.out.mN W12 A12.out.old
        have cN := Lib.hid (SPH.out.cN W12 A12.out.old x.id)
        have I12 := Lib.hid c0
        have HW12 := Lib.hid hW12
        clear hb12 y12 hW12 e0 e1 e2 c3 cO
        refine region_go (fun w' => w'.cell? ⟨p, 0, none⟩ = some (.iface T rv)) (by kernel_rfl) ?hS0 (fun hH => ?_)
        case hS0 =>
          rw [← HW12.out]; exact I12.out
        rw [← HW12.out] at hH ⊢
        refine kY 0 hH ?_
        repeat simp only [Act.put, uA1, uB1, uC1]
        refine kY 1 hH ?_
        repeat simp only [Act.put, uA1, uB1, uC1]
        refine kY 2 hH ?_
        repeat simp only [Act.put, uA1, uB1, uC1]
        refine kY 3 hH ?_
        repeat simp only [Act.put, uA1, uB1, uC1]
        refine kY 4 hH ?_
        repeat simp only [Act.put, uA1, uB1, uC1]
        refine kY 5 hH ?_
        repeat simp only [Act.put, uA1, uB1, uC1]
        refine spk 6 rfl (by decide +kernel) (by rfl) (fun K' hK => ?_)
        go_simp
        try dsimp only
        refine hK.out _ _ ?hS (fun hH' => ?_)
        case hS =>
          exact hH
        clear hK K' hH; have hH := hH'; clear hH'; repeat simp only [Act.put, uA1, uB1, uC1]
        refine spk 7 rfl (by decide +kernel) (by rfl) (fun K' hK => ?_)
        with_reducible refine wp_invoke (vy := .int .u64 x.id) mN eN _ _ _ rfl rfl rfl cN.out ?_
        rintro v13 w13 ⟨ho13, hb13⟩
        obtain ⟨q13, n13, k13, rfl⟩ := own_form ho13
        have c14 := Lib.hid (wLook w0 w13 T rv far nr fF rF fN rN SPH.out K hKf hK1 _ _ _ _ _ _ most (by omega) _ _ (A12.out.newkeys hb13 ho13) gP.out false)
        try dsimp only
        refine hK.out _ _ ?hS (fun hH' => ?_)
        case hS =>
          exact below_cells hb13 hH
        clear hK K' hH; have hH := hH'; clear hH'; repeat simp only [Act.put, uA1, uB1, uC1]
        refine spk 8 rfl (by decide +kernel) (by rfl) (fun K' hK => ?_)
        go_simp
        with_reducible refine c14.out.mono ?_
        rintro e w14 ⟨rfl, F14, tv14, hA14⟩
        try dsimp only
        refine hK.out _ _ ?hS (fun hH' => ?_)
        case hS =>
          exact cellsB hA14.cell 0
        clear hK K' hH; have hH := hH'; clear hH'; repeat simp only [Act.put, uA1, uB1, uC1]
        refine wpAnyH_done (by decide +kernel) ?_ _
        have A14 := Lib.hid hA14
        clear hH hA14
        go_wp2_with fail
        have hst2 : lessW K (lookW far most false ⟨st.L, st.S, st.T.dropLast⟩ (nr x.id)) + 1 ≤ lessW K st := by
          have h1 := pop_less (K := K) HT.out
          have h2 := look_less (most := most) hKf false (nr x.id) ⟨st.L, st.S, st.T.dropLast⟩
          omega
        have QQ := Lib.hid (And.intro hst2 Q1.out)
        have R1Q := Lib.hid (show (goW far nr most M (lookW far most false ⟨st.L, st.S, st.T.dropLast⟩ (nr x.id))).1 = R1 from by have h := HUN.out.2.1; rw [HGO.out] at h; exact h)
        have R2Q := Lib.hid (show n + 1 + (goW far nr most M (lookW far most false ⟨st.L, st.S, st.T.dropLast⟩ (nr x.id))).2 = R2 from by have h := HUN.out.2.2; rw [HGO.out] at h; simp only at h; omega)
        clear hst2
        go_roundg (lessW K (lookW far most false ⟨st.L, st.S, st.T.dropLast⟩ (nr x.id)))
        case measure => have := QQ.out; omega
        case rel => exact ⟨n + 1, F14, tv14, _, by go_num, Nat.le_refl _, A14.out.bare, gP.out.look hKf hm.1 false (nr x.id), R1Q.out, R2Q.out⟩

end Go.Proofs.YtpjbkaibgajpcaaGreat

namespace Go.Proofs.YtpjbkaibgajpcaaGreat
open Go.RowKit
set_option maxRecDepth 20000

def lookR (far : Int → Option Int) (most : Nat) (all : Bool) (s : Ws) (ks : List Int) : Ws := ks.foldl (seeR far most all) s

theorem lookR_snoc (far : Int → Option Int) (most : Nat) (all : Bool) (s : Ws) (ks : List Int) (j : Nat) (hj : j < ks.length) : lookR far most all s (ks.take (j + 1)) = seeR far most all (lookR far most all s (ks.take j)) ks[j] := by
  unfold lookR
  rw [List.take_succ_eq_append_getElem hj, List.foldl_append]
  rfl

theorem Like.look (far : Int → Option Int) (most : Nat) (all : Bool) (ks : List Int) : ∀ {s t : Ws}, Like s t → Like (lookR far most all s ks) (lookW far most all t ks) := by
  induction ks with
  | nil => intro s t h; exact h
  | cons k ks ih => intro s t h; exact ih (h.see far most all k)

theorem Like.start : Like ⟨[], [], []⟩ ⟨[], [], []⟩ := ⟨rfl, rfl, List.Perm.refl _⟩

section
variable {K : List Int} {far : Int → Option Int} {most : Nat}

theorem Like.least {s t : Ws} (h : Like s t) (g : GoodW K far most t) {m : Nat} (hm : m < s.T.length) (hmin : ∀ i (hi : i < s.T.length), near s.T[i] s.T[m] = false) :
    t.T.getLast? = some s.T[m] ∧ (s.T.eraseIdx m).Perm t.T.dropLast := by
  have hlen := h.todo.length_eq
  have hne : t.T ≠ [] := by rintro e; rw [e, List.length_nil] at hlen; omega
  obtain ⟨D, y, hD⟩ : ∃ D y, t.T = D ++ [y] := ⟨t.T.dropLast, t.T.getLast hne, (List.dropLast_concat_getLast hne).symm⟩
  have hd := g.desc
  rw [hD, List.pairwise_append] at hd
  have hy : y ∈ s.T := h.todo.mem_iff.2 (by rw [hD]; simp)
  obtain ⟨i, hi, hiy⟩ := List.mem_iff_getElem.1 hy
  have hx : s.T[m] ∈ t.T := h.todo.mem_iff.1 (List.getElem_mem hm)
  have hxy : s.T[m] = y := by
    rw [hD, List.mem_append] at hx
    rcases hx with hx | hx
    · have h1 := hd.2.2 _ hx y (by simp)
      have h2 := hmin i hi
      rw [hiy, h1] at h2
      cases h2
    · simpa using hx
  refine ⟨by rw [hD, hxy]; simp, ?_⟩
  have h1 : (s.T[m] :: s.T.eraseIdx m).Perm s.T := by
    rw [List.eraseIdx_eq_take_drop_succ]
    refine List.perm_middle.symm.trans ?_
    rw [List.getElem_cons_drop, List.take_append_drop]
  have h2 := h1.trans h.todo
  rw [hD, hxy] at h2
  have h3 := (h2.trans (List.perm_append_singleton _ _)).cons_inv
  rw [hD, List.dropLast_concat]
  exact h3
end

section
variable {kv : Value} {ks : List Int} {w0 w w3 : World} {b c : Nat} {F : Nat → Prop} {most : Nat} {sv tv v : Value} {L : List Hz} {S : List Int} {T : List Hz}

theorem RsAt.rekey (h : RsAt kv ks w0 w b c F most sv tv L S T) {kv' : Value} {ks' : List Int} (hk : Nums w .u64 kv' ks') (ha : ∀ k, kv'.ownBlock = some k → 0 < ks'.length → k < w.heap.size ∧ k ≠ b ∧ k ≠ c ∧ sv.ownBlock ≠ some k ∧ tv.ownBlock ≠ some k) : RsAt kv' ks' w0 w b c F most sv tv L S T :=
  ⟨h.cell, h.best, h.seen, h.todo, h.fhi, h.fb, h.fs, h.ft, h.low, h.old, hk, ha⟩

theorem RsAt.bare (h : RsAt kv ks w0 w b c F most sv tv L S T) : RsAt (.slice none 0 0) [] w0 w b c F most sv tv L S T := h.rekey (nums_none w) fun k _ h0 => absurd h0 (by simp)

theorem RsAt.newkeys (h : RsAt kv ks w0 w b c F most sv tv L S T) (hb : Below w.heap.size w w3) {kv' : Value} {ks' : List Int} (ho : w3.ownsRow w.heap.size 36 1 kv' ks'.length (ks'.map (Value.int .u64))) : RsAt kv' ks' w0 w3 b c F most sv tv L S T :=
  (h.below hb).rekey (Nums.of_own ho) fun k hk _ => by
    have h1 := ho.lt k hk
    have h2 := h.blt
    have h3 := h.fhi c h.fc
    exact ⟨h1.2, by omega, by omega, fun e => by have := (h.seen.lt k e).2; omega, fun e => by have := (h.todo.lt k e).2; omega⟩

theorem RsAt.without (h : RsAt kv ks w0 w b c F most sv tv L S T) (hb : Below w.heap.size w w3) {T' : List Hz} (ho : w3.ownsRow w.heap.size 38 3 v T'.length (flat3 (T'.map bareV))) :
    RsAt kv ks w0 (w3.setCell ⟨b, 2, none⟩ v) b c F most sv v L S T' := by
  have hold := h.old.size
  have hcell := (hb.block b h.blt).trans h.cell
  obtain ⟨e1, e2, e3, e4, e5⟩ := h.self
  have hset := setBk hcell 2 v
  have hm : Mod (fun k => k = b ∨ k = c ∨ sv.ownBlock = some k ∨ tv.ownBlock = some k) w (w3.setCell ⟨b, 2, none⟩ v) := Mod.setCell (Mod.of_below hb) (p := ⟨b, 2, none⟩) (.inl (.inl rfl)) _
  refine h.turn hm (by simpa using hset) ?_ ?_ ?_ (fun k hk => .inl hk) (.inl rfl) (.inr fun k hk => ?_)
  · exact (h.best.below hb).agree (fun j hj => setBk_other (by rintro rfl; exact h.fb hj)) (by simp [World.setCell])
  · exact own_agree (own_below h.seen hb) fun j hj => setBk_other (by rintro rfl; exact e2 hj)
  · exact own_agree (own_mono ho hold) fun j hj => setBk_other (by rintro rfl; have := (ho.lt _ hj).1; have := h.blt; omega)
  · have := (ho.lt k hk).1
    exact ⟨this, fun hF => by have := h.fhi k hF; omega⟩
end

end Go.Proofs.YtpjbkaibgajpcaaGreat

namespace Go.Proofs.YtpjbkaibgajpcaaGreat
open Go.RowKit
set_option maxRecDepth 20000



end Go.Proofs.YtpjbkaibgajpcaaGreat

namespace Go.Proofs.YtpjbkaibgajpcaaGreat
open Go.RowKit Go.ChangeMaps
set_option maxRecDepth 20000

section
variable {P : Program} {K : TypeId} {α : Type} [DecidableEq α] {mk : α → Value}

def StampAt (w : World) (mk : α → Value) (b : Nat) (L : List (α × Value)) (a : α) (st : Int) : Prop :=
  ∃ es clock j, MapIs w mk b L es clock ∧ L.findIdx? (fun p => decide (p.1 = a)) = some j ∧ ∃ hj : j < es.size, (es[j].born : Int) = st

theorem StampAt.map {w : World} {b : Nat} {L : List (α × Value)} {a : α} {st : Int} (h : StampAt w mk b L a st) : MapAt w mk b L := by
  obtain ⟨es, c, j, h, -⟩ := h
  exact ⟨es, c, h⟩

theorem StampAt.kept {w w' : World} {b : Nat} {L : List (α × Value)} {a : α} {st : Int} (h : StampAt w mk b L a st) (hb : w'.heap[b]? = w.heap[b]?) : StampAt w' mk b L a st := by
  obtain ⟨es, c, j, h, h2⟩ := h
  exact ⟨es, c, j, ⟨by rw [hb]; exact h.obj, h.ents, h.keys, h.stamps, h.young⟩, h2⟩

theorem putK_self {L : List (α × Value)} {a : α} {j : Nat} (h : L.findIdx? (fun p => decide (p.1 = a)) = some j) {v : Value} (hv : (L[j]?).map (·.2) = some v) : putK L a v = L := by
  rw [putK_old h]
  obtain ⟨hj, hja, _⟩ := List.findIdx?_eq_some_iff_getElem.1 h
  rw [List.getElem?_eq_getElem hj] at hv
  simp only [Option.map_some, Option.some.injEq] at hv
  have : L[j] = (a, v) := by
    rw [← hv]
    have : L[j].1 = a := by simpa using hja
    rw [← this]
  rw [← this, List.set_getElem_self]

theorem putK_putK (L : List (α × Value)) (a : α) (u v : Value) : putK (putK L a u) a v = putK L a v := by
  induction L with
  | nil => simp [putK]
  | cons p L ih =>
    by_cases hp : p.1 = a
    · simp [putK, hp]
    · simp [putK, hp, ih]

theorem run_mapEntry (KO : KeyOf P K mk) {T E : TypeId} (hT : P.underlying T = some (.map K E)) {w : World} {b : Nat} {L : List (α × Value)} (h : MapAt w mk b L) (a : α) {z : Value} (hz : ∀ w, (zeroValue E).run P w = .ok z w) :
    ∃ w' st, (Instr.mapEntry T (.map (some b)) (mk a)).run P w = .ok (.tuple #[(getK L a).getD z, .int .i64 st]) w' ∧ StampAt w' mk b (putK L a ((getK L a).getD z)) a st ∧ w.grownBy w' (some b) ∧ w'.heap.size = w.heap.size := by
  obtain ⟨es, clock, h⟩ := h
  obtain ⟨d, hd, hs, hck⟩ := KO.plain
  have hf := run_findKey KO h.ents a w
  have hg := MapKept.run_getObj_map (P := P) h.obj
  have hc := hck false 9999 w a
  have hlen : es.size = L.length := by have := congrArg List.length h.ents; simpa using this
  cases hj : L.findIdx? fun p => decide (p.1 = a) with
  | none =>
    rw [hj] at hf
    have hget : getK L a = none := by rw [getK_eq, hj]; rfl
    rw [hget]
    refine ⟨setBlock w b (.map (es.push { key := mk a, val := z, born := clock }) (clock + 1)), clock, ?_, ⟨_, _, es.size, ⟨heap_setBlock_same h.obj _, ?_, nodup_putK h.keys a z, ?_, ?_⟩, ?_, by simp, by simp⟩, grownBy_setBlock h.obj _, by simp [setBlock]⟩
    · simp only [Option.bind_none] at hf
      simp only [Instr.mapEntry, Sem.run_bind, run_underlying hT, hg, Result.andThen_ok, hc, hf, hz, MapKept.run_setObj_map _ h.obj]
      rfl
    · rw [Option.getD_none, putK_new hj]; simp [h.ents]
    · simp only [Array.toList_push, List.map_append, List.map_cons, List.map_nil]
      rw [List.nodup_append]
      refine ⟨h.stamps, by simp, fun x hx y hy => ?_⟩
      simp only [List.mem_singleton] at hy
      subst hy
      obtain ⟨e, he, rfl⟩ := List.mem_map.1 hx
      have := h.young e he
      omega
    · intro e he
      rw [Array.toList_push, List.mem_append] at he
      rcases he with he | he
      · have := h.young e he; omega
      · simp at he; subst he; simp
    · rw [Option.getD_none, putK_new hj, List.findIdx?_append, hj]
      simp [hlen]
  | some j =>
    obtain ⟨hj', hja, _⟩ := List.findIdx?_eq_some_iff_getElem.1 hj
    rw [hj] at hf
    simp only [Option.bind_some, List.getElem?_eq_getElem hj', Option.map_some] at hf
    have hget : getK L a = some L[j].2 := by rw [getK_eq, hj]; simp [List.getElem?_eq_getElem hj']
    rw [hget, Option.getD_some, putK_self hj (by simp [List.getElem?_eq_getElem hj'])]
    have hjs : j < es.size := by omega
    have hkey : es[j].key = mk a := by
      have e1 := congrArg (fun l => l[j]?) h.ents
      simp [List.getElem?_eq_getElem hj', hjs] at e1
      have : L[j].1 = a := by simpa using hja
      rw [e1.1, this]
    have hx : ∀ x : MapEntry, x.key = mk a → ({ key := mk a, val := x.val, born := x.born } : MapEntry) = x := fun x hx => by cases x; simp at hx; simp [hx]
    have hsame : (es.modify j fun e => { e with key := mk a }) = es := by
      apply Array.ext
      · simp
      · intro i h1 h2
        rw [Array.getElem_modify]
        split
        · next e => subst e; exact hx _ hkey
        · rfl
    refine ⟨setBlock w b (.map es clock), es[j].born, ?_, ⟨es, clock, j, ⟨heap_setBlock_same h.obj _, h.ents, h.keys, h.stamps, h.young⟩, hj, hjs, rfl⟩, grownBy_setBlock h.obj _, by simp [setBlock]⟩
    have hst : (Instr.keyThatStays (((es[j]?).map (·.key)).getD (mk a)) (mk a)).run P w = .ok (mk a) w := by
      simp [Instr.keyThatStays, Array.getElem?_eq_getElem hjs, hkey, KO.bits]
    simp only [Instr.mapEntry, Sem.run_bind, run_underlying hT, hg, Result.andThen_ok, hc, hf, hst, MapKept.run_setObj_map _ h.obj, hsame]
    simp only [Array.getElem?_eq_getElem hjs]
    rfl

theorem run_entryStore {T : TypeId} {w : World} {b : Nat} {L : List (α × Value)} {a : α} {st : Int} (h : StampAt w mk b L a st) (v : Value) :
    ∃ w', (Instr.entryStore T (.map (some b)) (.int .i64 st) v).run P w = .ok () w' ∧ MapAt w' mk b (putK L a v) ∧ w.grownBy w' (some b) ∧ w'.heap.size = w.heap.size := by
  obtain ⟨es, clock, j, h, hj, hjs, rfl⟩ := h
  have hg := MapKept.run_getObj_map (P := P) h.obj
  have hlen : es.size = L.length := by have := congrArg List.length h.ents; simpa using this
  obtain ⟨hj', hja, _⟩ := List.findIdx?_eq_some_iff_getElem.1 hj
  have hkey : (L[j].1 : α) = a := by simpa using hja
  have hfind : es.findIdx? (fun e => (e.born : Int) == (es[j].born : Int)) = some j := by
    rw [Array.findIdx?_eq_some_iff_getElem]
    refine ⟨hjs, by simp, fun i hi => ?_⟩
    have hi' : i < es.size := by omega
    have hne : es[i].born ≠ es[j].born := fun e => by
      have h2 := List.pairwise_iff_getElem.1 h.stamps i j (by simpa using hi') (by simpa using hjs) hi
      simp at h2
      exact h2 e
    simp only [beq_iff_eq]
    omega
  refine ⟨setBlock w b (.map (es.modify j fun e => { e with val := v }) clock), ?_, ⟨_, _, ⟨heap_setBlock_same h.obj _, ?_, nodup_putK h.keys a v, ?_, ?_⟩⟩, grownBy_setBlock h.obj _, by simp [setBlock]⟩
  · simp only [Instr.entryStore, Sem.run_bind, hg, Result.andThen_ok, Sem.run_pure, asInt]
    simp [asIntOf, Result.andThen, hfind, MapKept.run_setObj_map _ h.obj]
    rfl
  · rw [putK_old hj, List.map_set, ← h.ents]
    refine List.ext_getElem? fun i => ?_
    simp only [List.getElem?_map, Array.getElem?_toList, Array.getElem?_modify, List.getElem?_set]
    by_cases hij : j = i
    · subst hij
      have e1 := congrArg (fun l => l[j]?) h.ents
      simp [List.getElem?_eq_getElem hj', hjs] at e1
      simp [hjs, e1.1, hkey]
    · simp [hij]
  · have e1 : (es.modify j fun e => { e with val := v }).toList.map (·.born) = es.toList.map (·.born) := by
      refine List.ext_getElem? fun i => ?_
      simp only [List.getElem?_map, Array.getElem?_toList, Array.getElem?_modify]
      by_cases hij : j = i
      · subst hij; simp [Array.getElem?_eq_getElem hjs]
      · simp [hij]
    rw [e1]; exact h.stamps
  · intro e he
    obtain ⟨i, hi, rfl⟩ := List.mem_iff_getElem.1 he
    simp only [Array.length_toList, Array.size_modify] at hi
    simp only [Array.getElem_toList, Array.getElem_modify]
    have := h.young es[i] (by simp)
    split <;> exact this
end

end Go.Proofs.YtpjbkaibgajpcaaGreat
