/- maze: it is a space; its graph turns; a walk over it. maze: prune. best's law: BestMerges: what the script has laid so far. best's law: BestMerges: one list more. best's law: BestMerges: the hits of one list get their vectors, and go to the document's list. best's law: BestMerges, walked. maze: what Put turns. -/
import Derived.Test.YtpjbkaibgajpcaaGreatJ34
import Derived.Test.YtpjbkaibgajpcaaGreatJ10
import Derived.Deep.DeepCutAuto
import Derived.Test.YtpjbkaibgajpcaaGreatJ13
namespace Go.Proofs.YtpjbkaibgajpcaaGreat
open Go.RowKit Go.ChangeMaps
set_option maxRecDepth 20000

theorem space_far (w : World) (z : Nat) (v : Value) : Sem.run Tryz.prog (method (Tryz.prog.types.size + 100) 79 (.agg #[.pointer (some ⟨z, 0, none⟩), v]) "Far") w = .ok (152, .agg #[.pointer (some ⟨z, 0, none⟩), v]) w := by
  kernel_rfl

theorem space_near (w : World) (z : Nat) (v : Value) : Sem.run Tryz.prog (method (Tryz.prog.types.size + 100) 79 (.agg #[.pointer (some ⟨z, 0, none⟩), v]) "Near") w = .ok (22, .pointer (some ⟨z, 0, none⟩)) w := by
  kernel_rfl

theorem enter_farM (args : Array Value) (w : World) : (callFunc 152 args).run Tryz.prog w = .ok (.enter 152 args) w := by
  kernel_rfl

theorem enter_nearM (args : Array Value) (w : World) : (callFunc 22 args).run Tryz.prog w = .ok (.enter 22 args) w := by
  kernel_rfl

def MTurn (w : World) (B j : Nat) : Prop := B ≤ j ∧ (IsMap w j ∨ OfType w 85 j)

theorem MTurn.trans {w W w' : World} {B : Nat} (h : Mod (MTurn w B) w W) (g : Mod (MTurn W B) W w') : Mod (MTurn w B) w w' := by
  refine h.trans g fun k hk hf => ?_
  by_cases hF : MTurn w B k
  · exact hF
  · have hb := h.block k hk hF
    refine ⟨hf.1, ?_⟩
    rcases hf.2 with ⟨es, c, e⟩ | ⟨cs, fr, e⟩
    · exact .inl ⟨es, c, by rw [← hb]; exact e⟩
    · exact .inr ⟨cs, fr, by rw [← hb]; exact e⟩

theorem MTurn.box {w w' : World} {B b T : Nat} {cs : Array Value} {fr : Nat × Nat} (hm : Mod (MTurn w B) w w') (hb : w.heap[b]? = some (.cells cs T fr)) (h1 : T ≠ 85) : w'.heap[b]? = some (.cells cs T fr) := by
  refine (hm.block b (lt_block hb) fun ⟨_, ht⟩ => ?_).trans hb
  have h : OfType w T b := ⟨_, _, hb⟩
  rcases ht with ht | ht
  · exact ht.no h
  · exact h1 (h.ne ht)

section
variable {B : Nat} {w w' : World} {z p m mv : Nat} {Q Q' : Gr} {dim en : Int} {VL : List (Int × Value)} {s : Mz}

theorem MzAt.space (h : MzAt B w z p m mv Q dim en VL s) (ok : OkM dim s) (hN : s.N.length ≤ 100000) (v : Value) (xs : List Int) (hv : Nums w .i32 v xs) (hx : rightZ dim xs = true) :
    SpaceAt w 79 (.agg #[.pointer (some ⟨z, 0, none⟩), v]) (farL (spaceZ s.L xs)) (fun k => nearD s.E k false) 152 (.agg #[.pointer (some ⟨z, 0, none⟩), v]) 22 (.pointer (some ⟨z, 0, none⟩)) where
  mF := fun W _ => space_far W z v
  eF := enter_farM
  cF := fun _W hW k => mFar (h.below hW) ok v xs (hv.below hW) hx k
  mN := fun W _ => space_near W z v
  eN := enter_nearM
  cN := fun _W hW k => (h.below hW).near hN k

theorem space_ids (L : List Hz) (xs : List Int) : (spaceZ L xs).map (fun h : Hz => h.id) = L.map fun h : Hz => h.id := by
  unfold spaceZ
  rw [List.map_map]
  rfl

theorem MzAt.walk (h : MzAt B w z p m mv Q dim en VL s) (ok : OkM dim s) (hN : s.N.length ≤ 1000) (hL : s.L.length ≤ 1000) (v : Value) (xs : List Int) (hv : Nums w .i32 v xs) (hx : rightZ dim xs = true) (most : Nat) (hm : 1 ≤ most ∧ most ≤ 256) (kv : Value) (ks : List Int) (hk : Nums w .u64 kv ks) (hk0 : ∀ k, kv.ownBlock = some k → 0 < ks.length → k < w.heap.size) :
    Calls Tryz.prog 38 #[.iface 79 (.agg #[.pointer (some ⟨z, 0, none⟩), v]), .int .i64 most, kv] w (RunTells w (resW (spaceZ s.L xs) s.E most ks).1 (resW (spaceZ s.L xs) s.E most ks).2) :=
  wRun w _ _ _ _ _ _ _ _ (h.space ok (by omega) v xs hv hx) ((spaceZ s.L xs).map fun y : Hz => y.id) (fun k d => farL_key) (by rw [space_ids, List.length_map]; omega) most hm kv ks hk hk0

theorem blocks_same (hn : SameN Q Q') (j : Nat) : BlocksOf Q' j ↔ BlocksOf Q j := by
  have key : ∀ R : Gr, BlocksOf R j ↔ j ∈ R.map fun q => q.2.1 := fun R => by
    rw [List.mem_map]
    exact ⟨fun ⟨q, hq, e⟩ => ⟨q, hq, e.symm⟩, fun ⟨q, hq, e⟩ => ⟨q, hq, e.symm⟩⟩
  rw [key, key, hn.1]

theorem GP.toM {N : List Int} {E E' : Eg} (h : GP B p m Q N E w) (hn : SameN Q Q') (hr : Rel Q' N E') (hg : GrAt w' p m Q') (hm : Mod (BlocksOf Q) w w') : GP B p m Q' N E' w' := by
  refine ⟨hg, hr, ⟨h.low.1, h.low.2.1, fun q hq => ?_⟩, Nat.le_trans h.big hm.size⟩
  have : q.2.1 ∈ Q'.map (fun q => q.2.1) := List.mem_map_of_mem (f := fun q => q.2.1) hq
  rw [hn.1, List.mem_map] at this
  obtain ⟨r, hr, e⟩ := this
  rw [← e]; exact h.low.2.2 r hr

theorem MzAt.edges (h : MzAt B w z p m mv Q dim en VL s) {E' : Eg} (hn : SameN Q Q') (hr : Rel Q' s.N E') (hg : GrAt w' p m Q') (hm : Mod (BlocksOf Q) w w') : MzAt B w' z p m mv Q' dim en VL ⟨s.N, E', s.L⟩ ∧ Mod (MTurn w B) w w' := by
  have hmap := h.gp.g.blocks_map
  have no : ∀ T j, OfType w T j → ¬ BlocksOf Q j := fun T j ht hf => (hmap j hf).no ht
  refine ⟨⟨(hm.block z (lt_block h.cell) (no _ z ⟨_, _, h.cell⟩)).trans h.cell, h.gp.toM hn hr hg hm, h.vecs.kept (hm.block mv h.vecs.lt h.apart.2), ⟨h.apart.1, fun hf => h.apart.2 ((blocks_same hn mv).1 hf)⟩, fun y hy => ?_, h.missing, h.low⟩, hm.mono fun j _ hf => ⟨?_, .inl (hmap j hf)⟩⟩
  · obtain ⟨v, h1, h2⟩ := h.vals y hy
    exact ⟨v, h1, own_agree h2 fun k hk => hm.block k (h2.lt k hk).2 (no _ k (own_type h2 hk))⟩
  · obtain ⟨q, hq, e⟩ := hf
    rw [e]; exact h.gp.low.2.2 q hq


theorem MzAt.bind (h : MzAt B w z p m mv Q dim en VL s) (x y : Int) :
    Calls Tryz.prog 60 #[.pointer (some ⟨p, 0, none⟩), .int .u64 x, .int .u64 y] w fun e w1 => e = .returned (.int .i64 (bindD s.N s.E x y).1) ∧ (∃ Q', MzAt B w1 z p m mv Q' dim en VL ⟨s.N, (bindD s.N s.E x y).2, s.L⟩) ∧ Mod (MTurn w B) w w1 := by
  refine (gBind w p m Q x y h.gp.g).mono ?_
  rintro e w1 ⟨rfl, hg, hm⟩
  obtain ⟨h1, h2, h3⟩ := h.gp.rel.bind x y
  have := h.edges h3 h2 hg hm
  exact ⟨by rw [h1], ⟨_, this.1⟩, this.2⟩

theorem MzAt.link (h : MzAt B w z p m mv Q dim en VL s) (x y : Int) :
    Calls Tryz.prog 61 #[.pointer (some ⟨p, 0, none⟩), .int .u64 x, .int .u64 y] w fun e w1 => e = .returned (.int .i64 (linkD s.N s.E x y).1) ∧ (∃ Q', MzAt B w1 z p m mv Q' dim en VL ⟨s.N, (linkD s.N s.E x y).2, s.L⟩) ∧ Mod (MTurn w B) w w1 := by
  refine (gLink w p m Q x y h.gp.g).mono ?_
  rintro e w1 ⟨rfl, hg, hm⟩
  obtain ⟨h1, h2, h3⟩ := h.gp.rel.link x y
  have := h.edges h3 h2 hg hm
  exact ⟨by rw [h1], ⟨_, this.1⟩, this.2⟩

theorem MzAt.cut (h : MzAt B w z p m mv Q dim en VL s) (x y : Int) :
    Calls Tryz.prog 87 #[.pointer (some ⟨p, 0, none⟩), .int .u64 x, .int .u64 y] w fun e w1 => e = .returned (.int .i64 (cutD s.N s.E x y).1) ∧ (∃ Q', MzAt B w1 z p m mv Q' dim en VL ⟨s.N, (cutD s.N s.E x y).2, s.L⟩) ∧ Mod (MTurn w B) w w1 := by
  refine (gCut w p m Q x y h.gp.g).mono ?_
  rintro e w1 ⟨rfl, hg, hm⟩
  obtain ⟨h1, h2, h3⟩ := h.gp.rel.cut x y
  have := h.edges h3 h2 hg hm
  exact ⟨by rw [h1], ⟨_, this.1⟩, this.2⟩
end

end Go.Proofs.YtpjbkaibgajpcaaGreat

namespace Go.Proofs.YtpjbkaibgajpcaaGreat
open Go.RowKit Go.ChangeMaps
set_option maxRecDepth 20000

def maxH : List Hz → Hz
  | [] => hitK 0 0
  | h :: t => t.foldl farther h

theorem max_snoc (l : List Hz) (j : Nat) (hj : j < l.length) : maxH (l.take (j + 1)) = if j = 0 then l[j] else farther (maxH (l.take j)) l[j] := by
  cases l with
  | nil => simp at hj
  | cons a t =>
    cases j with
    | zero => simp [maxH]
    | succ j =>
      rw [if_neg (by simp)]
      have hj' : j < t.length := by simpa using hj
      simp only [List.take_succ_cons, maxH, List.getElem_cons_succ]
      rw [List.take_succ_eq_append_getElem hj', List.foldl_append]
      rfl

theorem max_worst {l : List Hz} {x : Hz} (h : worstZ l = some x) : maxH l = x := by
  cases l with
  | nil => cases h
  | cons a t => simpa [worstZ, maxH] using h

theorem max_bare {l : List Hz} (h : ∀ y ∈ l, y.vec = []) : (maxH l).vec = [] := by
  cases l with
  | nil => rfl
  | cons a t =>
    have := (far_of_max (t := t) (h := a)).1
    exact h _ this

theorem set3 {wo W : World} {g : Nat} {a0 b0 c0 : Value} {T : TypeId} (hg : W.heap[g]? = some (.cells #[a0, b0, c0] T (0, 0))) (hlow : wo.heap.size ≤ g) (hb : Below wo.heap.size wo W) (a b c : Value) :
    (((W.setCell ⟨g, 0, none⟩ a).setCell ⟨g, 1, none⟩ b).setCell ⟨g, 2, none⟩ c).heap[g]? = some (.cells #[a, b, c] T (0, 0)) ∧ Below wo.heap.size wo (((W.setCell ⟨g, 0, none⟩ a).setCell ⟨g, 1, none⟩ b).setCell ⟨g, 2, none⟩ c) := by
  refine ⟨by simpa using setBk (setBk (setBk hg 0 a) 1 b) 2 c, ?_⟩
  have h1 : Mod (fun _ => False) wo W := Mod.of_below hb
  have h2 := ((h1.setCell (p := ⟨g, 0, none⟩) (.inr hlow) a).setCell (p := ⟨g, 1, none⟩) (.inr hlow) b).setCell (p := ⟨g, 2, none⟩) (.inr hlow) c
  exact h2.below (Nat.le_refl _) fun _ h => h.elim

set_option maxRecDepth 100000 in
set_option maxHeartbeats 16000000 in
theorem mPrune {B : Nat} {w : World} {z p m mv : Nat} {Q : Gr} {dim en : Int} {VL : List (Int × Value)} {s : Mz} (h : MzAt B w z p m mv Q dim en VL s) (ok : OkM dim s) (hN : s.N.length ≤ 1000) (hE : s.E.length ≤ 100000) (k : Int) :
    Calls Tryz.prog 62 #[.pointer (some ⟨z, 0, none⟩), .int .u64 k] w fun e w' => e = .returned (.tuple #[]) ∧ (∃ Q', MzAt B w' z p m mv Q' dim en VL ⟨s.N, pruneZ s.L s.N k s.E.length s.E, s.L⟩) ∧ Mod (MTurn w B) w w' := by
  obtain ⟨N, E, L⟩ := s
  simp only at hN hE ⊢
  obtain ⟨PZ, hPZ⟩ : ∃ P, P = pruneZ L N k E.length E := ⟨_, rfl⟩
  rw [← hPZ]
  have PH := Lib.hid hPZ
  have H0 := Lib.hid h
  have OK0 := Lib.hid ok
  have cS := Lib.hid (h.soft (by show N.length ≤ 100000; omega) k)
  clear h ok hPZ
  go_enter Tryz.func62, Tryz.ntmps62
  go_wp2_with fail
  (with_reducible refine cS.out.mono ?_)
  rintro e w1 ⟨v1, rfl, ho1, hb1⟩
  obtain ⟨lp, lc, rfl, -, -, -, -⟩ := (Nums.of_own ho1).slice
  have N1 := Lib.hid (Nums.of_own ho1)
  have H1 := Lib.hid (H0.out.below hb1)
  have M1 := Lib.hid (show Mod (MTurn w B) w w1 from Mod.of_below hb1)
  clear ho1 hb1
  go_wp2_with fail
  go_loopg [4] E.length (fun q' lv0 wr => ∃ (E' : Eg) (Q' : Gr) (lp : Option Addr) (lc : Nat), q' = E'.length ∧ lv0 = .slice lp (nearD E' k true).length lc ∧ MzAt B wr z p m mv Q' dim en VL ⟨N, E', L⟩ ∧ OkM dim ⟨N, E', L⟩ ∧ Nums wr .u64 (.slice lp (nearD E' k true).length lc) (nearD E' k true) ∧ PZ = pruneZ L N k E'.length E' ∧ Mod (MTurn w B) w wr ∧ E'.length ≤ E.length)
  case atStart => exact ⟨E, Q, lp, lc, rfl, rfl, H1.out, OK0.out, N1.out, PH.out, M1.out, Nat.le_refl _⟩
  case round =>
    obtain ⟨E', Q', lp, lc, rfl, rfl, hH, hOK, hNum, hP, hM, hEl⟩ := hrel
    obtain ⟨wo, rfl⟩ : ∃ wo : World, wo = wr := ⟨_, rfl⟩
    have HH := Lib.hid hH
    have OK := Lib.hid hOK
    have NN := Lib.hid hNum
    have PP := Lib.hid hP
    have MM := Lib.hid hM
    clear hH hOK hNum hP hM
    obtain ⟨NE, hNE⟩ : ∃ l, l = nearD E' k true := ⟨_, rfl⟩
    rw [← hNE] at NN
    have NEH := Lib.hid hNE
    by_cases hl : 4 < NE.length
    · obtain ⟨wx, hwx, hwm, -⟩ := soft_some (L := L) (E := E') (k := k) (by rw [← hNE]; exact hl)
      have GO := Lib.hid (prune_go (L := L) OK.out.rel (by rw [← hNE]; exact hl) hwx)
      have CUT := Lib.hid (cut_soft OK.out.rel hwm)
      have MW := Lib.hid (max_worst hwx)
      obtain ⟨SL, hSL⟩ : ∃ l, l = softL L E' k := ⟨_, rfl⟩
      have SLH := Lib.hid hSL
      have hSLl : SL.length = NE.length := by rw [hSL, hNE]; unfold softL; simp
      have SLB := Lib.hid (show ∀ y ∈ SL, y.vec = [] from by rw [hSL]; intro y hy; unfold softL at hy; obtain ⟨u, -, rfl⟩ := List.mem_map.1 hy; rfl)
      have SLJ := Lib.hid (show ∀ j (h1 : j < SL.length) (h2 : j < NE.length), SL[j] = hitK NE[j] (distR (vecOf L k) (vecOf L NE[j])).1 from by subst hSL hNE; intro j h1 h2; simp [softL])
      rw [← hSL] at MW
      have hl' : (4 : Int) < NE.length := by omega
      have hn63 : NE.length ≤ 9223372036854775807 := by
        obtain ⟨q, c, hq, h1, h2, -, -⟩ := NN.out.slice
        omega
      rw [← hNE]
      clear hwx hwm hNE hSL
      go_wp2_with fail
      obtain ⟨W2, hW2⟩ : ∃ W2, W2 = wo.alloc (.cells #[.int .u64 0, .int .u64 0, .slice none 0 0] 38) := ⟨_, rfl⟩
      have hb2 : Below wo.heap.size wo W2 := by rw [hW2]; exact (Below.refl _ _).alloc (Nat.le_refl _) _
      have y2 : W2.heap[wo.heap.size]? = some (.cells #[.int .u64 0, .int .u64 0, .slice none 0 0] 38 (0, 0)) := by rw [hW2]; exact heap_alloc_new _ _
      rw [← hW2]
      obtain ⟨g, hg⟩ : ∃ g, g = wo.heap.size := ⟨_, rfl⟩
      rw [← hg] at y2 ⊢
      have G2 := Lib.hid (And.intro hg (And.intro hb2 y2))
      clear hW2 hb2 y2 hg
      go_loopg [23] NE.length (fun q' i wt => ∃ j : Nat, q' = NE.length - j ∧ j ≤ NE.length ∧ i = .int .i64 j ∧ Below wo.heap.size wo wt ∧ wt.heap[g]? = some (.cells #[.int .u64 (maxH (SL.take j)).id, .int .u64 (maxH (SL.take j)).dist, .slice none 0 0] 38 (0, 0)))
      case atStart => exact ⟨0, rfl, by omega, rfl, G2.out.2.1, by simpa [maxH, hitK] using G2.out.2.2⟩
      case round =>
        obtain ⟨j, rfl, hj, rfl, hbr, hgc⟩ := hrel
        by_cases hlt : j < NE.length
        · obtain ⟨b, off, hlp, e0⟩ := (NN.out.below hbr).elem hlt
          subst hlp
          have hjs : j < SL.length := by omega
          have hst := max_snoc SL j hjs
          have hsj := SLJ.out j hjs hlt
          obtain ⟨x, hx⟩ : ∃ x, x = NE[j] := ⟨_, rfl⟩
          rw [← hx] at e0 hsj
          obtain ⟨mx, hmx⟩ : ∃ y, y = maxH (SL.take j) := ⟨_, rfl⟩
          rw [← hmx] at hgc hst
          obtain ⟨dd, hdd⟩ : ∃ d, d = distR (vecOf L k) (vecOf L x) := ⟨_, rfl⟩
          rw [← hdd] at hsj
          rw [hsj] at hst
          have ST := Lib.hid hst
          have MB := Lib.hid (show mx.vec = [] from by rw [hmx]; exact max_bare fun y hy => SLB.out y (List.mem_of_mem_take hy))
          have BR := Lib.hid hbr
          obtain ⟨W3, hW3⟩ : ∃ W3, W3 = wr.drew := ⟨_, rfl⟩
          have hb3 : Below wr.heap.size wr W3 := by rw [hW3]; exact (Below.refl _ _).drew
          have H3 := Lib.hid ((HH.out.below hbr).below hb3)
          have l1 := H3.out.look k false
          have l2 := H3.out.look x false
          simp only [Bool.false_eq_true, if_false] at l1 l2
          have n1 := (H3.out.vec OK.out k).1
          have n2 := (H3.out.vec OK.out x).1
          obtain ⟨va, hva⟩ : ∃ v, v = (getK VL k).getD (.slice none 0 0) := ⟨_, rfl⟩
          obtain ⟨vb, hvb⟩ : ∃ v, v = (getK VL x).getD (.slice none 0 0) := ⟨_, rfl⟩
          rw [← hva] at l1 n1
          rw [← hvb] at l2 n2
          have cD := Lib.hid (dist _ _ va vb W3 n1 n2)
          simp only at cD
          rw [← hdd] at cD
          have I3 := Lib.hid (And.intro (cellsB H3.out.cell 2) (And.intro l1 l2))
          have G3 := Lib.hid ((hb3.block g (lt_block hgc)).trans hgc)
          have HW := Lib.hid hW3
          have B3 := Lib.hid (hbr.trans (hb3.mono hbr.size))
          clear hst hsj hx hmx hdd hbr hW3 hb3 l1 l2 n1 n2 hva hvb hgc
          go_upto_region 7 with fail
          refine region_go (fun w' => w'.cell? ⟨z, 2, none⟩ = some (.map (some mv)) ∧ (Instr.lookup 83 (.map (some mv)) (.int .u64 k) false).run Tryz.prog w' = .ok va w' ∧ (Instr.lookup 83 (.map (some mv)) (.int .u64 x) false).run Tryz.prog w' = .ok vb w') (by kernel_rfl) ?hS0 (fun hH => ?_)
          case hS0 =>
            rw [← HW.out]; exact I3.out
          rw [← HW.out] at hH ⊢
          refine kY 0 hH ?_
          repeat simp only [Act.put, uA1, uB1, uC1]
          refine kY 1 hH ?_
          repeat simp only [Act.put, uA1, uB1, uC1]
          refine kY 2 hH ?_
          repeat simp only [Act.put, uA1, uB1, uC1]
          refine kY 3 hH ?_
          repeat simp only [Act.put, uA1, uB1, uC1]
          refine kY 4 hH ?_
          repeat simp only [Act.put, uA1, uB1, uC1]
          refine kY 5 hH ?_
          repeat simp only [Act.put, uA1, uB1, uC1]
          refine kY 6 hH ?_
          repeat simp only [Act.put, uA1, uB1, uC1]
          refine kY 7 hH ?_
          repeat simp only [Act.put, uA1, uB1, uC1]
          refine kY 8 hH ?_
          repeat simp only [Act.put, uA1, uB1, uC1]
          refine kY 9 hH ?_
          repeat simp only [Act.put, uA1, uB1, uC1]
          refine kY 10 hH ?_
          repeat simp only [Act.put, uA1, uB1, uC1]
          refine kY 11 hH ?_
          repeat simp only [Act.put, uA1, uB1, uC1]
          refine spk 12 rfl (by decide +kernel) (by rfl) (fun K' hK => ?_)
          go_simp
          with_reducible refine cD.out.mono ?_
          rintro e w4 ⟨rfl, rfl⟩
          try dsimp only
          refine hK.out _ _ ?hS (fun hH' => ?_)
          case hS =>
            exact hH
          clear hK K' hH; have hH := hH'; clear hH'; repeat simp only [Act.put, uA1, uB1, uC1]
          refine kY 13 hH ?_
          repeat simp only [Act.put, uA1, uB1, uC1]
          refine kY 14 hH ?_
          repeat simp only [Act.put, uA1, uB1, uC1]
          refine kY 15 hH ?_
          repeat simp only [Act.put, uA1, uB1, uC1]
          refine kY 16 hH ?_
          repeat simp only [Act.put, uA1, uB1, uC1]
          refine kY 17 hH ?_
          repeat simp only [Act.put, uA1, uB1, uC1]
          refine wpAnyH_done (by decide +kernel) ?_ _
          clear hH
          go_upto_region 9 with fail
          obtain ⟨d, hd⟩ : ∃ d, d = dd.1 := ⟨_, rfl⟩
          rw [← hd] at ST ⊢
          clear hd
          obtain ⟨W5, hW5⟩ : ∃ W5, W5 = W3.alloc (.cells #[.int .u64 x, .int .u64 d, .slice none 0 0] 38) := ⟨_, rfl⟩
          have hb5 : Below W3.heap.size W3 W5 := by rw [hW5]; exact (Below.refl _ _).alloc (Nat.le_refl _) _
          have y5 : W5.heap[W3.heap.size]? = some (.cells #[.int .u64 x, .int .u64 d, .slice none 0 0] 38 (0, 0)) := by rw [hW5]; exact heap_alloc_new _ _
          rw [← hW5]
          have g5 := (hb5.block g (lt_block G3.out)).trans G3.out
          obtain ⟨t, ht⟩ : ∃ t, t = W3.heap.size := ⟨_, rfl⟩
          rw [← ht] at y5 ⊢
          have T5 := Lib.hid ht
          have Y5 := Lib.hid (And.intro y5 g5)
          have B5 := Lib.hid (B3.out.trans (hb5.mono B3.out.size))
          have t0 := cellsB y5 0
          have t1 := cellsB y5 1
          have t2 := cellsB y5 2
          have u0 := cellsB g5 0
          have u1 := cellsB g5 1
          have u2 := cellsB g5 2
          have z0 : W5.frozen? ⟨g, 0, none⟩ = false := by simp [World.frozen?, g5]
          have z1 : W5.frozen? ⟨g, 1, none⟩ = false := by simp [World.frozen?, g5]
          have z2 : W5.frozen? ⟨g, 2, none⟩ = false := by simp [World.frozen?, g5]
          have gl5 : g < W5.heap.size := lt_block g5
          have tl5 : t < W5.heap.size := lt_block y5
          clear hW5 hb5 ht y5 g5
          by_cases hj0 : j = 0
          · subst hj0
            have S5 := Lib.hid (set3 Y5.out.2 (Nat.le_of_eq G2.out.1.symm) B5.out (.int .u64 x) (.int .u64 d) (.slice none 0 0))
            rw [if_pos rfl] at ST
            go_wp2_with fail
            go_roundg (NE.length - 1)
            case measure => omega
            case rel => exact ⟨1, rfl, by omega, by go_num, S5.out.2, by rw [show 0 + 1 = 1 from rfl] at ST; rw [ST.out]; exact S5.out.1⟩
          · have hj0' : ¬ (j : Int) = 0 := by omega
            rw [if_neg hj0] at ST
            have cM := Lib.hid (nearer mx.id mx.dist x d (.slice none 0 0) (.slice none 0 0) W5)
            obtain ⟨nb, hnb⟩ : ∃ b, b = nearB mx.id mx.dist x d := ⟨_, rfl⟩
            rw [← hnb] at cM
            have NB := Lib.hid hnb
            clear hnb
            cases nb with
            | true =>
              have STT := Lib.hid (show maxH (SL.take (j + 1)) = hitK x d from by rw [ST.out]; unfold farther; rw [if_pos (show near mx (hitK x d) = true from NB.out.symm)])
              go_wp2_with fail
              (with_reducible refine cM.out.mono ?_)
              rintro e w6 ⟨rfl, hb6⟩
              have y6 := (hb6.block t (lt_block Y5.out.1)).trans Y5.out.1
              have g6 := (hb6.block g (lt_block Y5.out.2)).trans Y5.out.2
              have B6 := Lib.hid (B5.out.trans (hb6.mono B5.out.size))
              have S6 := Lib.hid (set3 g6 (Nat.le_of_eq G2.out.1.symm) B6.out (.int .u64 x) (.int .u64 d) (.slice none 0 0))
              replace t0 := cellsB y6 0
              replace t1 := cellsB y6 1
              replace t2 := cellsB y6 2
              replace z0 : w6.frozen? ⟨g, 0, none⟩ = false := by simp [World.frozen?, g6]
              replace z1 : w6.frozen? ⟨g, 1, none⟩ = false := by simp [World.frozen?, g6]
              replace z2 : w6.frozen? ⟨g, 2, none⟩ = false := by simp [World.frozen?, g6]
              have gl6 : g < w6.heap.size := lt_block g6
              have tl6 : t < w6.heap.size := lt_block y6
              replace u0 := cellsB g6 0
              replace u1 := cellsB g6 1
              replace u2 := cellsB g6 2
              clear y6 g6 hb6
              go_wp2_with fail
              go_roundg (NE.length - (j + 1))
              case measure => omega
              case rel => exact ⟨j + 1, rfl, by omega, by go_num, S6.out.2, by rw [STT.out]; exact S6.out.1⟩
            | false =>
              have STT := Lib.hid (show maxH (SL.take (j + 1)) = mx from by rw [ST.out]; unfold farther; rw [if_neg (by rw [show near mx (hitK x d) = false from NB.out.symm]; simp)])
              go_wp2_with fail
              (with_reducible refine cM.out.mono ?_)
              rintro e w6 ⟨rfl, hb6⟩
              have FIN := Lib.hid (And.intro (B5.out.trans (hb6.mono B5.out.size)) ((hb6.block g (lt_block Y5.out.2)).trans Y5.out.2))
              clear hb6
              go_wp2_with fail
              go_roundg (NE.length - (j + 1))
              case measure => omega
              case rel => exact ⟨j + 1, rfl, by omega, by go_num, FIN.out.1, by rw [STT.out]; exact FIN.out.2⟩
        · obtain rfl : j = NE.length := by omega
          rw [show SL.take NE.length = SL from by rw [← hSLl]; exact List.take_length, MW.out] at hgc
          obtain ⟨xi, hxi⟩ : ∃ i, i = wx.id := ⟨_, rfl⟩
          rw [← hxi] at hgc GO CUT
          obtain ⟨W8, hW8⟩ : ∃ W8, W8 = wr.drew := ⟨_, rfl⟩
          have hb8 : Below wr.heap.size wr W8 := by rw [hW8]; exact (Below.refl _ _).drew
          have g8 := (hb8.block g (lt_block hgc)).trans hgc
          have B8 := Lib.hid (hbr.trans (hb8.mono hbr.size))
          have H8 := Lib.hid (HH.out.below B8.out)
          have G8 := Lib.hid g8
          have I8 := Lib.hid (And.intro (cellsB H8.out.cell 0) (cellsB g8 0))
          have HW := Lib.hid hW8
          have cC := Lib.hid (H8.out.cut k xi)
          simp only at cC
          obtain ⟨EC, hEC⟩ : ∃ e, e = (cutD N E' k xi).2 := ⟨_, rfl⟩
          obtain ⟨cc, hcc⟩ : ∃ c, c = (cutD N E' k xi).1 := ⟨_, rfl⟩
          rw [← hEC, ← hcc] at cC
          rw [← hEC] at CUT GO
          clear hxi hbr hgc hW8 hb8 g8 hEC hcc
          go_upto_region 12 with fail
          refine region_go (fun w' => w'.cell? ⟨z, 0, none⟩ = some (.pointer (some ⟨p, 0, none⟩)) ∧ w'.cell? ⟨g, 0, none⟩ = some (.int .u64 xi)) (by kernel_rfl) ?hS0 (fun hH => ?_)
          case hS0 =>
            rw [← HW.out]; exact I8.out
          rw [← HW.out] at hH ⊢
          refine kY 0 hH ?_
          repeat simp only [Act.put, uA1, uB1, uC1]
          refine kY 1 hH ?_
          repeat simp only [Act.put, uA1, uB1, uC1]
          refine kY 2 hH ?_
          repeat simp only [Act.put, uA1, uB1, uC1]
          refine kY 3 hH ?_
          repeat simp only [Act.put, uA1, uB1, uC1]
          refine kY 4 hH ?_
          repeat simp only [Act.put, uA1, uB1, uC1]
          refine kY 5 hH ?_
          repeat simp only [Act.put, uA1, uB1, uC1]
          refine kY 6 hH ?_
          repeat simp only [Act.put, uA1, uB1, uC1]
          refine kY 7 hH ?_
          repeat simp only [Act.put, uA1, uB1, uC1]
          refine spk 8 rfl (by decide +kernel) (by rfl) (fun K' hK => ?_)
          go_simp
          with_reducible refine cC.out.mono ?_
          rintro e w9 ⟨rfl, ⟨Q9, h9⟩, hm9⟩
          try dsimp only
          refine hK.out _ _ ?hS (fun hH' => ?_)
          case hS =>
            exact ⟨cellsB h9.cell 0, cellsB (MTurn.box hm9 G8.out (by decide)) 0⟩
          clear hK K' hH; have hH := hH'; clear hH'; repeat simp only [Act.put, uA1, uB1, uC1]
          refine wpAnyH_done (by decide +kernel) ?_ _
          have H9 := Lib.hid h9
          have M9 := Lib.hid (MTurn.trans (MM.out.andBelow B8.out) hm9)
          clear hH h9 hm9
          have c9 := Lib.hid (H9.out.soft (by show N.length ≤ 100000; omega) k)
          go_wp2_with fail
          (with_reducible refine c9.out.mono ?_)
          rintro e w10 ⟨v10, rfl, ho, hb⟩
          obtain ⟨lp2, lc2, rfl, -, -, -, -⟩ := (Nums.of_own ho).slice
          have N10 := Lib.hid (Nums.of_own ho)
          have H10 := Lib.hid (H9.out.below hb)
          have M10 := Lib.hid (M9.out.andBelow hb)
          clear ho hb
          go_wp2_with fail
          go_roundg EC.length
          case measure => have := CUT.out.1; omega
          case rel => exact ⟨EC, Q9, lp2, lc2, rfl, rfl, H10.out, ⟨CUT.out.2, OK.out.same, OK.out.once, OK.out.vecs, by have h1 := OK.out.few; have h2 := CUT.out.1; simp only at h1 ⊢; omega⟩, N10.out, PP.out.trans GO.out, M10.out, by have := CUT.out.1; omega⟩
    · have hst := prune_stop L N k E'.length (E := E') (by rw [← hNE]; omega)
      have hl' : ¬ (4 : Int) < NE.length := by omega
      have PE := Lib.hid (PP.out.trans hst)
      rw [← hNE]
      clear hNE hst
      go_wp2_with fail
      go_end0
      exact ⟨rfl, ⟨Q', by rw [PE.out]; exact HH.out⟩, MM.out⟩

end Go.Proofs.YtpjbkaibgajpcaaGreat

namespace Go.Proofs.YtpjbkaibgajpcaaGreat
open Go.RowKit
set_option maxRecDepth 20000

def detZ (h : Hz) : Hz := ⟨h.id, h.dist, [h.id % 7, h.dist % 7]⟩

theorem det_vec {l : List Hz} : ∀ h ∈ l.map detZ, h.vec.length ≤ 1000000 := by
  intro h hh
  obtain ⟨x, -, rfl⟩ := List.mem_map.1 hh
  simp [detZ]

def mixZ (l : List Hz) (j : Nat) : List Hz := l.mapIdx fun i h => if i < j then detZ h else h

theorem mixZ_length (l : List Hz) (j : Nat) : (mixZ l j).length = l.length := by simp [mixZ]
theorem mixZ_zero (l : List Hz) : mixZ l 0 = l := by
  apply List.ext_getElem
  · simp [mixZ]
  · intro i h1 h2; simp [mixZ]
theorem mixZ_all (l : List Hz) : mixZ l l.length = l.map detZ := by
  apply List.ext_getElem
  · simp [mixZ]
  · intro i h1 h2
    rw [mixZ_length] at h1
    simp [mixZ, h1]
theorem mixZ_set (l : List Hz) (k : Nat) (hk : k < l.length) : mixZ l (k + 1) = (mixZ l k).set k (detZ l[k]) := by
  apply List.ext_getElem
  · simp [mixZ]
  · intro i h1 h2
    rw [List.getElem_set]
    simp only [mixZ, List.getElem_mapIdx]
    by_cases e : k = i
    · subst e; simp
    · rw [if_neg e]
      by_cases h : i < k
      · rw [if_pos (by omega), if_pos h]
      · rw [if_neg (by omega), if_neg h]
theorem mixZ_at (l : List Hz) (k : Nat) (hk : k < l.length) : (mixZ l k)[k]'(by rw [mixZ_length]; exact hk) = l[k] := by simp [mixZ]

theorem flat3_setv (rs : List Hv) (i : Nat) (hi : i < rs.length) (u : Value) : (flat3 rs).set (i * 3 + 1 + 1) u = flat3 (rs.set i ⟨rs[i].id, rs[i].dist, u⟩) := by
  induction rs generalizing i with
  | nil => simp at hi
  | cons r rs ih =>
    cases i with
    | zero => simp [flat3]
    | succ i =>
      have := ih i (by simpa using hi)
      rw [show (i + 1) * 3 + 1 + 1 = i * 3 + 1 + 1 + 1 + 1 + 1 by omega]
      simpa [flat3] using this

structure MState (w : World) (B c : Nat) (vl vb : Value) (ps : List Value) (E FX : Nat → Prop) (ls : List (List Hz)) : Prop where
  ol : w.ownsRow B 30 1 vl ls.length ps
  ob : w.ownsRow B 30 1 vb ls.length ps.reverse
  ap : ∀ b, vl.ownBlock = some b → vb.ownBlock ≠ some b
  dat : ∀ i (h : i < ls.length), ∃ q qc, ps[i]? = some (.slice q ls[i].length qc) ∧ HitsF w E (.slice q ls[i].length qc) ls[i]
  elo : ∀ k, E k → B ≤ k
  ehi : ∀ k, E k → k < w.heap.size
  el : ∀ b, vl.ownBlock = some b → ¬ E b ∧ ¬ FX b
  eb : ∀ b, vb.ownBlock = some b → ¬ E b ∧ ¬ FX b
  rl : RefL w FX c 1048576 (addsZ 1048576 [] ls.flatten).2
  fhi : ∀ k, FX k → k < w.heap.size
  flo : ∀ k, FX k → c ≤ k
  cB : c < B
  ln : ls.length ≤ 6
  l12 : ∀ ms ∈ ls, ms.length ≤ 12
  vec : ∀ ms ∈ ls, ∀ h ∈ ms, h.vec.length ≤ 1000000

theorem MState.next {wo w : World} {B c : Nat} {vl vb : Value} {ps : List Value} {E FX : Nat → Prop} {ls : List (List Hz)} (m : MState wo B c vl vb ps E FX ls) (hm : Mod (fun k => k = c) wo w) :
    w.ownsRow B 30 1 vl ls.length ps ∧ w.ownsRow B 30 1 vb ls.length ps.reverse ∧ ∀ i (h : i < ls.length), ∃ q qc, ps[i]? = some (.slice q ls[i].length qc) ∧ HitsF w E (.slice q ls[i].length qc) ls[i] := by
  have hc := m.cB
  have own : ∀ (v : Value) (xs : List Value), wo.ownsRow B 30 1 v ls.length xs → w.ownsRow B 30 1 v ls.length xs := by
    intro v xs h
    obtain ⟨h0, h1 | ⟨g, cap, cur, rfl, hb, hh, r⟩⟩ := h
    · exact ⟨h0, .inl h1⟩
    · exact ⟨h0, .inr ⟨g, cap, cur, rfl, hb, by rw [hm.block g (lt_block hh) (by omega)]; exact hh, r⟩⟩
  refine ⟨own _ _ m.ol, own _ _ m.ob, fun i h => ?_⟩
  obtain ⟨q, qc, h1, h2⟩ := m.dat i h
  exact ⟨q, qc, h1, h2.agree fun k hk => hm.block k (m.ehi k hk) (by have := m.elo k hk; omega)⟩

end Go.Proofs.YtpjbkaibgajpcaaGreat

namespace Go.Proofs.YtpjbkaibgajpcaaGreat
open Go.RowKit
set_option maxRecDepth 20000

theorem MState.put {wo w3 w5 w7 : World} {B c : Nat} {vl vb vl5 v7 : Value} {ps : List Value} {E FX FX' Ep : Nat → Prop} {ls : List (List Hz)} {l : List Hz} {q : Option Addr} {qc g5 n : Nat} (m : MState wo B c vl vb ps E FX ls) (hm : Mod (fun k => k = c) wo w3)
    (hp : HitsF w3 Ep (.slice q n qc) l) (hEp : ∀ k, Ep k → wo.heap.size ≤ k ∧ k < w3.heap.size) (hr : RefL w3 FX' c 1048576 (addsZ 1048576 [] (ls.flatten ++ l)).2) (hF : ∀ k, FX' k → (FX k ∨ wo.heap.size ≤ k) ∧ k < w3.heap.size)
    (h12 : l.length ≤ 12) (hlen : ls.length < 6) (hv : ∀ h ∈ l, h.vec.length ≤ 1000000) (hB : B ≤ wo.heap.size)
    (ho5 : w5.ownsRow B 30 1 vl5 (ls.length + 1) (ps ++ [.slice q n qc])) (hv5 : vl5.ownBlock = some g5) (hg5 : (w3.alloc (.cells #[.slice q n qc] 30)).grownBy w5 vl.ownBlock) (hat : vl.ownBlock = some g5 ∨ g5 = w3.heap.size + 1)
    (ho7 : w7.ownsRow w5.heap.size 30 1 v7 (1 + ls.length) ([.slice q n qc] ++ ps.reverse)) (hg7 : (w5.alloc (.cells #[.slice q n qc] 30)).grownBy w7 (some w5.heap.size)) :
    MState w7 B c vl5 v7 (ps ++ [.slice q n qc]) (fun k => E k ∨ Ep k) FX' (ls ++ [l]) := by
  obtain rfl : n = l.length := by
    obtain ⟨_, _, e, -⟩ := hp
    exact (Value.slice.inj e).2.1
  have hs3 := hm.size
  have hs5 := hg5.size
  have hs7 := hg7.size
  simp at hs5 hs7
  have hcB := m.cB
  obtain ⟨nl, -, nd⟩ := m.next hm
  have h35 : Mod (fun k => vl.ownBlock = some k) w3 w5 := (Mod.of_below ((Below.refl w3.heap.size w3).alloc (Nat.le_refl _) _)).grown hg5 fun k hk => .inl hk
  have h57 : Below w5.heap.size w5 w7 := ((Below.refl w5.heap.size w5).alloc (Nat.le_refl _) _).grown hg7 (by simp) fun b hb => by cases hb; exact Nat.le_refl _
  have h37 := h35.andBelow h57
  have hlt5 : g5 < w5.heap.size := (ho5.lt g5 hv5).2
  have hvl : ∀ b, vl.ownBlock = some b → b < wo.heap.size := fun b hb => (m.ol.lt b hb).2
  refine ⟨by simpa using own_below ho5 h57, ?_, ?_, ?_, ?_, ?_, ?_, ?_, ?_, ?_, ?_, hcB, by simp; omega, ?_, ?_⟩
  · rw [List.reverse_append, List.length_append]
    have := own_mono ho7 (show B ≤ w5.heap.size by omega)
    simpa [Nat.add_comm] using this
  · intro b hb
    rw [hv5] at hb
    obtain rfl := Option.some.inj hb
    intro h
    have := (ho7.lt g5 h).1
    omega
  · intro i hi
    rw [List.length_append, List.length_singleton] at hi
    have hpl : ps.length = ls.length := by have := m.ol.1; omega
    by_cases e : i = ls.length
    · subst e
      have el : (ls ++ [l])[ls.length] = l := by simp
      refine ⟨q, qc, by rw [el, List.getElem?_append_right (by omega), hpl]; simp, ?_⟩
      rw [el]
      refine (hp.agree (Agree.of_mod h37 (fun k hk => (hEp k hk).2) fun k hk hk' => ?_)).mono fun _ => .inr
      have := hvl k hk'
      have := (hEp k hk).1
      omega
    · have hi' : i < ls.length := by omega
      obtain ⟨q', qc', h1, h2⟩ := nd i hi'
      refine ⟨q', qc', ?_, ?_⟩
      · rw [List.getElem_append_left hi', List.getElem?_append_left (by omega)]; exact h1
      · simp only [List.getElem_append_left hi']
        refine (h2.agree (Agree.of_mod h37 (fun k hk => by have := m.ehi k hk; omega) fun k hk hk' => (m.el k hk').1 hk)).mono fun _ => .inl
  · intro k hk
    rcases hk with hk | hk
    · exact m.elo k hk
    · have := (hEp k hk).1; omega
  · intro k hk
    rcases hk with hk | hk
    · have := m.ehi k hk; omega
    · have := (hEp k hk).2; omega
  · intro b hb
    rw [hv5] at hb
    obtain rfl := Option.some.inj hb
    rcases hat with h | h
    · obtain ⟨h1, h2⟩ := m.el g5 h
      have := hvl g5 h
      refine ⟨fun hk => ?_, fun hk => ?_⟩
      · rcases hk with hk | hk
        · exact h1 hk
        · have := (hEp _ hk).1; omega
      · rcases (hF _ hk).1 with hk | hk
        · exact h2 hk
        · omega
    · refine ⟨fun hk => ?_, fun hk => by have := (hF _ hk).2; omega⟩
      rcases hk with hk | hk
      · have := m.ehi _ hk; omega
      · have := (hEp _ hk).2; omega
  · intro b hb
    have := (ho7.lt b hb).1
    refine ⟨fun hk => ?_, fun hk => by have := (hF _ hk).2; omega⟩
    rcases hk with hk | hk
    · have := m.ehi _ hk; omega
    · have := (hEp _ hk).2; omega
  · rw [List.flatten_append]
    simp only [List.flatten_cons, List.flatten_nil, List.append_nil]
    refine hr.agree (Agree.of_mod h37 (fun k hk => (hF k hk).2) fun k hk hk' => ?_) h37.size
    rcases (hF k hk).1 with h | h
    · exact (m.el k hk').2 h
    · have := hvl k hk'; omega
  · intro k hk
    have := (hF k hk).2
    omega
  · intro k hk
    rcases (hF k hk).1 with h | h
    · exact m.flo k h
    · omega
  · intro ms hms
    rcases List.mem_append.1 hms with h | h
    · exact m.l12 ms h
    · rw [List.mem_singleton.1 h]; exact h12
  · intro ms hms
    rcases List.mem_append.1 hms with h | h
    · exact m.vec ms h
    · rw [List.mem_singleton.1 h]; exact hv

end Go.Proofs.YtpjbkaibgajpcaaGreat

namespace Go.Proofs.YtpjbkaibgajpcaaGreat
open Go.RowKit
set_option maxRecDepth 20000

def Inn (wo w : World) (v : Value) (k : Nat) : Prop := (wo.heap.size ≤ k ∧ k < w.heap.size) ∧ v.ownBlock ≠ some k

structure InnerS (wo w : World) (c : Nat) (v : Value) (rs : List Hv) (FX : Nat → Prop) (prev l : List Hz) (i j : Nat) : Prop where
  ow : w.ownsRow wo.heap.size 38 3 v l.length (flat3 rs)
  rw : Rows3 w (Inn wo w v) rs (mixZ l i)
  rl : RefL w (fun k => FX k ∨ Inn wo w v k) c 1048576 (addsZ 1048576 [] (prev ++ (l.take j).map detZ)).2
  md : Mod (fun k => k = c) wo w
  fx : ∀ k, FX k → k < wo.heap.size
  fc : c < wo.heap.size

theorem InnerS.start {wo w : World} {c : Nat} {v : Value} {rs : List Hv} {FX : Nat → Prop} {prev l : List Hz} (ho : w.ownsRow wo.heap.size 38 3 v rs.length (flat3 rs)) (hh : Held3 w wo.heap.size 21 rs l) (hb : Below wo.heap.size wo w)
    (hr : RefL wo FX c 1048576 (addsZ 1048576 [] prev).2) (hF : ∀ k, FX k → k < wo.heap.size) (hc : c < wo.heap.size) : InnerS wo w c v rs FX prev l 0 0 := by
  refine ⟨by rw [← hh.len]; exact ho, ?_, ?_, Mod.of_below hb, hF, hc⟩
  · rw [mixZ_zero]
    refine ⟨hh.len, fun i h1 h2 => ?_⟩
    obtain ⟨⟨a, b⟩, c⟩ := hh.own i h1 h2
    refine ⟨a, b, Nums.of_own c, fun _ k hk => ⟨c.lt k hk, fun e => ?_⟩⟩
    rcases own_apart c ho (by decide) with h | h
    · rw [h] at hk; cases hk
    · exact h (by rw [hk, e])
  · simp only [List.take_zero, List.map_nil, List.append_nil]
    exact (hr.below hb).mono fun _ => .inl

theorem InnerS.below {wo w w' : World} {c : Nat} {v : Value} {rs : List Hv} {FX : Nat → Prop} {prev l : List Hz} {i j : Nat} (m : InnerS wo w c v rs FX prev l i j) (hb : Below w.heap.size w w') : InnerS wo w' c v rs FX prev l i j := by
  have hs := hb.size
  have inn : ∀ k, Inn wo w v k → Inn wo w' v k := fun k hk => ⟨⟨hk.1.1, by have := hk.1.2; omega⟩, hk.2⟩
  exact ⟨own_below m.ow hb, (m.rw.below hb).mono inn, (m.rl.below hb).mono fun k hk => hk.imp_right (inn k), m.md.andBelow hb, m.fx, m.fc⟩

theorem InnerS.added {wo w w' : World} {c : Nat} {v : Value} {rs : List Hv} {FX : Nat → Prop} {prev l : List Hz} {i j : Nat} (m : InnerS wo w c v rs FX prev l i j) (_hj : j < l.length) {b : Bool} {e : Ending}
    (h : RefAdd w (fun k => FX k ∨ Inn wo w v k) c 1048576 (b, (addsZ 1048576 [] (prev ++ (l.take (j + 1)).map detZ)).2) e w') : InnerS wo w' c v rs FX prev l i (j + 1) := by
  obtain ⟨-, h2, h3⟩ := h
  have hs := h3.size
  have hc := m.fc
  have inn : ∀ k, Inn wo w v k → Inn wo w' v k := fun k hk => ⟨⟨hk.1.1, by have := hk.1.2; omega⟩, hk.2⟩
  refine ⟨?_, ?_, h2.mono fun k hk => ?_, m.md.trans h3 fun k _ hk => hk, m.fx, hc⟩
  · obtain ⟨h0, h1 | ⟨g, cap, cur, rfl, hb, hh, r⟩⟩ := m.ow
    · exact ⟨h0, .inl h1⟩
    · exact ⟨h0, .inr ⟨g, cap, cur, rfl, hb, by rw [h3.block g (lt_block hh) (by omega)]; exact hh, r⟩⟩
  · exact (m.rw.agree fun k hk => h3.block k hk.1.2 (by have := hk.1.1; omega)).mono inn
  · rcases hk with (hk | hk) | hk
    · exact .inl hk
    · exact .inr (inn k hk)
    · refine .inr ⟨⟨by have := m.md.size; omega, hk.2⟩, fun e => ?_⟩
      have := (m.ow.lt k e).2
      omega

theorem InnerS.fhi {wo w : World} {c : Nat} {v : Value} {rs : List Hv} {FX : Nat → Prop} {prev l : List Hz} {i j : Nat} (m : InnerS wo w c v rs FX prev l i j) : ∀ k, (FX k ∨ Inn wo w v k) → k < w.heap.size := by
  rintro k (h | h)
  · exact Nat.lt_of_lt_of_le (m.fx k h) m.md.size
  · exact h.1.2

theorem InnerS.good {wo w : World} {c : Nat} {v : Value} {rs : List Hv} {FX : Nat → Prop} {prev l : List Hz} {i j : Nat} (_ : InnerS wo w c v rs FX prev l i j) (hv : ∀ h ∈ prev, h.vec.length ≤ 1000000) (hl : prev.length + l.length ≤ 1000000) :
    GoodL 1048576 (addsZ 1048576 [] (prev ++ (l.take j).map detZ)).2 ∧ (addsZ 1048576 [] (prev ++ (l.take j).map detZ)).2.length ≤ 1000000 := by
  refine ⟨addsZ_good (by omega) (GoodL.nil _) _ fun h hh => ?_, ?_⟩
  · rcases List.mem_append.1 hh with h1 | h1
    · exact hv h h1
    · exact det_vec h h1
  · have := adds_len 1048576 (prev ++ (l.take j).map detZ)
    rw [List.length_append, List.length_map, List.length_take] at this
    omega

theorem own_cell {w : World} {base e size n g i : Nat} {v u : Value} {xs : List Value} (h : w.ownsRow base e size v n xs) (hg : v.ownBlock = some g) (hx : xs[i]? = some u) : w.cell? ⟨g, i, none⟩ = some u := by
  have := own_rangeAt h hg i [u] (fun j z hj => by
    have : j = 0 := by
      have := (List.getElem?_eq_some_iff.1 hj).1
      simp at this; omega
    subst this
    simp at hj; subst hj; exact hx) 0 u rfl
  simpa using this

end Go.Proofs.YtpjbkaibgajpcaaGreat

namespace Go.Proofs.YtpjbkaibgajpcaaGreat
open Go.RowKit
set_option maxRecDepth 20000

theorem HitsF.front {w : World} {F : Nat → Prop} {p : Option Addr} {n c : Nat} {l : List Hz} (h : HitsF w F (.slice p n c) l) {k : Nat} (hk : k ≤ l.length) : HitsF w F (.slice p k c) (l.take k) := by
  obtain ⟨p', cap, hv, h1, h2, h3, h4⟩ := h
  obtain ⟨rfl, rfl, rfl⟩ := Value.slice.inj hv
  have hl : (l.take k).length = k := by rw [List.length_take]; omega
  refine ⟨p, c, by rw [hl], by omega, h2, h3, fun i hi => ?_⟩
  obtain ⟨b, off, u, r⟩ := h4 i (by omega)
  exact ⟨b, off, u, by simpa [List.getElem_take] using r⟩

theorem ListsF.keep {w w' : World} {B : Nat} {v : Value} {ls : List (List Hz)} (h : ListsF w (fun k => B ≤ k ∧ k < w.heap.size) v ls) (hb : Below w.heap.size w w') : ListsF w' (fun k => B ≤ k ∧ k < w'.heap.size) v ls := by
  have hs := hb.size
  obtain ⟨p, cap, hv, h1, h2, h3, h4⟩ := h.agree (Agree.of_below hb fun k hk => hk.2)
  refine ⟨p, cap, hv, h1, h2, h3, fun i hi => ?_⟩
  obtain ⟨b, off, u, hp, hf, c0, hn⟩ := h4 i hi
  exact ⟨b, off, u, hp, ⟨hf.1, by omega⟩, c0, hn.mono fun k hk => ⟨hk.1, by omega⟩⟩

theorem sameHits_self (F G : Nat → Prop) (l : List Hz) (v u : Value) (w : World) (h : HitsF w F v l) (g : HitsF w G u l) :
    Calls Tryz.prog 25 #[v, u] w fun e w' => e = .returned (.bool true) ∧ Drawn w w' :=
  (sameHits F G l l v u w h g).mono fun e w' hh => ⟨hh.1.trans (by rw [decide_eq_true (Eq.refl l)]), hh.2⟩

end Go.Proofs.YtpjbkaibgajpcaaGreat

namespace Go.Proofs.YtpjbkaibgajpcaaGreat
open Go.RowKit Go.ChangeMaps
set_option maxRecDepth 20000

def HitsT (w : World) (v : Value) (l : List Hz) : Prop := HitsF w (fun j => OfType w 38 j) v l

theorem held_bare {w : World} {B E : Nat} {rs : List Hv} {L : List Hz} (hh : Held3 w B E rs L) (hb : ∀ y ∈ L, y.vec = []) (G : Nat → Prop) : Rows3 w G rs L :=
  ⟨hh.len, fun i h1 h2 => by
    have := hh.own i h1 h2
    exact ⟨this.1.1, this.1.2, Nums.of_own this.2, fun h0 => by rw [hb _ (List.getElem_mem h2)] at h0; simp at h0⟩⟩

theorem RunTells.typed {w0 w' : World} {L : List Hz} {n : Nat} {e : Ending} (h : RunTells w0 L n e w') (hb : ∀ y ∈ L, y.vec = []) : ∃ v, e = .returned (.tuple #[v, .int .i64 n]) ∧ HitsT w' v L ∧ Below w0.heap.size w0 w' := by
  obtain ⟨v, rs, rfl, ho, hh, hbl⟩ := h
  exact ⟨v, rfl, HitsF.of_own ho (fun b hb => own_type ho hb) (held_bare hh hb _), hbl⟩

theorem OfType.mturn {w w' : World} {B T j : Nat} (h : OfType w T j) (hm : Mod (MTurn w B) w w') (hT : T ≠ 85) : w'.heap[j]? = w.heap[j]? ∧ OfType w' T j := by
  obtain ⟨cs, fr, e⟩ := h
  have := MTurn.box hm e hT
  exact ⟨this.trans e.symm, cs, fr, this⟩

theorem HitsT.mturn {w w' : World} {B : Nat} {v : Value} {l : List Hz} (h : HitsT w v l) (hm : Mod (MTurn w B) w w') : HitsT w' v l :=
  (HitsF.agree h fun j hj => (hj.mturn hm (by decide)).1).mono fun j hj => (hj.mturn hm (by decide)).2

theorem HitsT.below {w w' : World} {v : Value} {l : List Hz} (h : HitsT w v l) (hb : Below w.heap.size w w') : HitsT w' v l :=
  (HitsF.below h hb).mono fun j ⟨cs, fr, e⟩ => ⟨cs, fr, (hb.block j (lt_block e)).trans e⟩

theorem HitsT.nil (w : World) : HitsT w (.slice none 0 0) [] := HitsF.nil _ _

theorem Nums.mturn {w w' : World} {B : Nat} {v : Value} {xs : List Int} (h : Nums w .i32 v xs) (ht : LiesIn (OfType w 21) v xs.length) (hm : Mod (MTurn w B) w w') : Nums w' .i32 v xs ∧ LiesIn (OfType w' 21) v xs.length :=
  ⟨h.agree ht fun j hj => (hj.mturn hm (by decide)).1, ht.mono fun j hj => (hj.mturn hm (by decide)).2⟩

section
variable {B : Nat} {w w' : World} {z p m mv : Nat} {Q Q' : Gr} {dim en : Int} {VL : List (Int × Value)} {s : Mz}

theorem MzAt.enter (h : MzAt B w z p m mv Q dim en VL s) (k : Int) : MzAt B (w.setCell ⟨z, 3, none⟩ (.int .u64 k)) z p m mv Q dim k VL s ∧ Mod (MTurn w B) w (w.setCell ⟨z, 3, none⟩ (.int .u64 k)) := by
  have hset := setBk h.cell 3 (.int .u64 k)
  have hm : Mod (fun j => j = z) w (w.setCell ⟨z, 3, none⟩ (.int .u64 k)) := (Mod.refl (fun j => j = z) w).setCell (p := ⟨z, 3, none⟩) (.inl rfl) _
  have hne : ∀ j, (∀ T cs fr, w.heap[j]? = some (.cells cs T fr) → T ≠ 85) → j < w.heap.size → (w.setCell ⟨z, 3, none⟩ (.int .u64 k)).heap[j]? = w.heap[j]? := fun j hj _ => setBk_other (by rintro rfl; exact hj _ _ _ h.cell rfl)
  have hmap : ∀ j, IsMap w j → (w.setCell ⟨z, 3, none⟩ (.int .u64 k)).heap[j]? = w.heap[j]? := fun j hj => by
    obtain ⟨es, c, h1⟩ := id hj
    exact hne j (fun T cs fr e => by rw [h1] at e; cases e) (lt_block h1)
  refine ⟨⟨by simpa using hset, ⟨⟨(hne p (fun T cs fr e => by rw [h.gp.g.cell] at e; cases e; decide) (lt_block h.gp.g.cell)).trans h.gp.g.cell, h.gp.g.outer.kept (hmap m h.gp.g.outer.isMap), fun q hq => (h.gp.g.inner q hq).kept (hmap _ (h.gp.g.inner q hq).isMap), h.gp.g.apart⟩, h.gp.rel, h.gp.low, Nat.le_trans h.gp.big hm.size⟩, h.vecs.kept (hmap mv h.vecs.isMap), h.apart, fun y hy => ?_, h.missing, h.low⟩, hm.mono fun j _ e => ⟨e ▸ h.low.1, .inr (e ▸ ⟨_, _, h.cell⟩)⟩⟩
  obtain ⟨v, h1, h2⟩ := h.vals y hy
  exact ⟨v, h1, own_agree h2 fun j hj => hne j (fun T cs fr e => by have := OfType.ne (own_type h2 hj) ⟨_, _, e⟩; rw [← this]; decide) (h2.lt j hj).2⟩

theorem MzAt.add (h : MzAt B w z p m mv Q dim en VL s) {k : Int} (hk : k ∉ s.N) :
    Calls Tryz.prog 59 #[.pointer (some ⟨p, 0, none⟩), .int .u64 k] w fun e w1 => e = .returned (.int .i64 0) ∧ (∃ Q', MzAt B w1 z p m mv Q' dim en VL ⟨putZ s.N k, s.E, s.L⟩) ∧ Mod (MTurn w B) w w1 := by
  refine (gAdd w p m Q k h.gp.g).mono ?_
  rintro e w1 (⟨hh, -⟩ | ⟨hh, rfl, hg, hm⟩)
  · exact absurd ((h.gp.rel.keys k).1 (hasB_iff.1 hh)) hk
  have hmm : IsMap w m := h.gp.g.outer.isMap
  have no : ∀ T j, OfType w T j → j ≠ m := fun T j ht e => (e ▸ hmm).no ht
  refine ⟨rfl, ⟨_, ⟨(hm.block z (lt_block h.cell) (no _ z ⟨_, _, h.cell⟩)).trans h.cell, ⟨hg, h.gp.rel.add hk _, ⟨h.gp.low.1, h.gp.low.2.1, fun q hq => ?_⟩, Nat.le_trans h.gp.big hm.size⟩, h.vecs.kept (hm.block mv h.vecs.lt h.apart.1), ⟨h.apart.1, fun hf => ?_⟩, fun y hy => ?_, h.missing, h.low⟩⟩, hm.mono fun j _ e => ⟨e ▸ h.gp.low.2.1, .inl (e ▸ hmm)⟩⟩
  · rcases List.mem_append.1 hq with hq | hq
    · exact h.gp.low.2.2 q hq
    · rw [List.mem_singleton.1 hq]; exact h.gp.big
  · obtain ⟨q, hq, e⟩ := hf
    rcases List.mem_append.1 hq with hq | hq
    · exact h.apart.2 ⟨q, hq, e⟩
    · rw [List.mem_singleton.1 hq] at e
      have := h.vecs.lt
      simp only at e
      omega
  · obtain ⟨v, h1, h2⟩ := h.vals y hy
    exact ⟨v, h1, own_agree h2 fun j hj => hm.block j (h2.lt j hj).2 (no _ j (own_type h2 hj))⟩

theorem MzAt.lay (h : MzAt B w z p m mv Q dim en VL s) {k : Int} {u : Value} {xs : List Int} (hk : k ∉ s.L.map (fun y : Hz => y.id)) (hu : w.ownsRow B 21 1 u xs.length (xs.map (Value.int .i32))) :
    ∃ w', (Instr.mapUpdate 83 (.map (some mv)) (.int .u64 k) u).run Tryz.prog w = .ok () w' ∧ MzAt B w' z p m mv Q dim en (putK VL k u) ⟨s.N, s.E, s.L ++ [⟨k, 0, xs⟩]⟩ ∧ Mod (MTurn w B) w w' := by
  obtain ⟨w', hr, hmp, hg, hsz⟩ := run_put (P := Tryz.prog) (int_keyOf Tryz.underlying36) Tryz.underlying83 h.vecs k u
  have hm : Mod (fun j => j = mv) w w' := (Mod.refl _ w).grown hg (fun j hj => .inl (by cases hj; rfl))
  have hmm : IsMap w mv := h.vecs.isMap
  have no : ∀ T j, OfType w T j → j ≠ mv := fun T j ht e => (e ▸ hmm).no ht
  have own : ∀ {u : Value} {xs : List Int}, w.ownsRow B 21 1 u xs.length (xs.map (Value.int .i32)) → w'.ownsRow B 21 1 u xs.length (xs.map (Value.int .i32)) := fun h2 => own_agree h2 fun j hj => hm.block j (h2.lt j hj).2 (no _ j (own_type h2 hj))
  refine ⟨w', hr, ⟨(hm.block z (lt_block h.cell) (no _ z ⟨_, _, h.cell⟩)).trans h.cell, ⟨⟨(hm.block p (lt_block h.gp.g.cell) (no _ p ⟨_, _, h.gp.g.cell⟩)).trans h.gp.g.cell, h.gp.g.outer.kept (hm.block m h.gp.g.outer.lt (Ne.symm h.apart.1)), fun q hq => (h.gp.g.inner q hq).kept (hm.block _ (h.gp.g.inner q hq).lt fun e => h.apart.2 ⟨q, hq, e.symm⟩), h.gp.g.apart⟩, h.gp.rel, h.gp.low, Nat.le_trans h.gp.big hm.size⟩, hmp, h.apart, fun y hy => ?_, fun x hx => ?_, h.low⟩, hm.mono fun j _ e => ⟨e ▸ h.low.2, .inl (e ▸ hmm)⟩⟩
  · rw [getK_put]
    rcases List.mem_append.1 hy with hy | hy
    · obtain ⟨v, h1, h2⟩ := h.vals y hy
      rw [if_neg (fun e : y.id = k => hk (e ▸ List.mem_map_of_mem (f := fun y : Hz => y.id) hy))]
      exact ⟨v, h1, own h2⟩
    · obtain rfl : y = ⟨k, 0, xs⟩ := by simpa using hy
      rw [if_pos rfl]
      exact ⟨u, rfl, own hu⟩
  · simp only [List.map_append, List.mem_append, List.map_cons, List.map_nil, List.mem_singleton, not_or] at hx
    rw [getK_put, if_neg hx.2]
    exact h.missing x hx.1
end

end Go.Proofs.YtpjbkaibgajpcaaGreat
