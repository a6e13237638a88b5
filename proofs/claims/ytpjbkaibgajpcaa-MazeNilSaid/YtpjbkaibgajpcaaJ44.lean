/-
  maze: prune.
  best's law: BestMerges: what the script has laid so far.
  best's law: BestMerges: one list more.
-/
import Derived.Test.YtpjbkaibgajpcaaJ43
import Derived.Test.YtpjbkaibgajpcaaJ16
namespace Go.Proofs.Ytpjbkaibgajpcaa
open Go.RowKit Go.ChangeMaps

/-- the farthest so far -/
def maxH : List Hz → Hz
  | [] => hitK 0 0
  | h :: t => t.foldl farther h

theorem max_snoc (l : List Hz) (j : Nat) (hj : j < l.length) : maxH (l.take (j + 1)) = if j = 0 then l[j] else farther (maxH (l.take j)) l[j] := by
  cases l with
  | nil => simp at hj
  | cons a t =>
    cases j with
    | zero => simp [maxH]
    | succ j =>
      rw [if_neg (by simp)]
      have hj' : j < t.length := by simpa using hj
      simp only [List.take_succ_cons, maxH, List.getElem_cons_succ]
      rw [List.take_succ_eq_append_getElem hj', List.foldl_append]
      rfl

theorem max_worst {l : List Hz} {x : Hz} (h : worstZ l = some x) : maxH l = x := by
  cases l with
  | nil => cases h
  | cons a t => simpa [worstZ, maxH] using h

theorem max_bare {l : List Hz} (h : ∀ y ∈ l, y.vec = []) : (maxH l).vec = [] := by
  cases l with
  | nil => rfl
  | cons a t =>
    have := (far_of_max (t := t) (h := a)).1
    exact h _ this

theorem set3 {wo W : World} {g : Nat} {a0 b0 c0 : Value} {T : TypeId} (hg : W.heap[g]? = some (.cells #[a0, b0, c0] T (0, 0))) (hlow : wo.heap.size ≤ g) (hb : Below wo.heap.size wo W) (a b c : Value) :
    (((W.setCell ⟨g, 0, none⟩ a).setCell ⟨g, 1, none⟩ b).setCell ⟨g, 2, none⟩ c).heap[g]? = some (.cells #[a, b, c] T (0, 0)) ∧ Below wo.heap.size wo (((W.setCell ⟨g, 0, none⟩ a).setCell ⟨g, 1, none⟩ b).setCell ⟨g, 2, none⟩ c) := by
  refine ⟨by simpa using setBk (setBk (setBk hg 0 a) 1 b) 2 c, ?_⟩
  have h1 : Mod (fun _ => False) wo W := Mod.of_below hb
  have h2 := ((h1.setCell (p := ⟨g, 0, none⟩) (.inr hlow) a).setCell (p := ⟨g, 1, none⟩) (.inr hlow) b).setCell (p := ⟨g, 2, none⟩) (.inr hlow) c
  exact h2.below (Nat.le_refl _) fun _ h => h.elim

set_option maxRecDepth 100000 in
set_option maxHeartbeats 16000000 in
theorem mPrune {B : Nat} {w : World} {z p m mv : Nat} {Q : Gr} {dim en : Int} {VL : List (Int × Value)} {s : Mz} (h : MzAt B w z p m mv Q dim en VL s) (ok : OkM dim s) (hN : s.N.length ≤ 1000) (hE : s.E.length ≤ 100000) (k : Int) :
    Calls Try.prog 27 #[.pointer (some ⟨z, 0, none⟩), .int .u64 k] w fun e w' => e = .returned (.tuple #[]) ∧ (∃ Q', MzAt B w' z p m mv Q' dim en VL ⟨s.N, pruneZ s.L s.N k s.E.length s.E, s.L⟩) ∧ Mod (MTurn w B) w w' := by
  obtain ⟨N, E, L⟩ := s
  simp only at hN hE ⊢
  obtain ⟨PZ, hPZ⟩ : ∃ P, P = pruneZ L N k E.length E := ⟨_, rfl⟩
  rw [← hPZ]
  have PH := Lib.hid hPZ
  have H0 := Lib.hid h
  have OK0 := Lib.hid ok
  have cS := Lib.hid (h.soft (by show N.length ≤ 100000; omega) k)
  clear h ok hPZ
  go_enter Try.func27, Try.ntmps27
  go_wp2_with fail
  (with_reducible refine cS.out.mono ?_)
  rintro e w1 ⟨v1, rfl, ho1, hb1⟩
  obtain ⟨lp, lc, rfl, -, -, -, -⟩ := (Nums.of_own ho1).slice
  have N1 := Lib.hid (Nums.of_own ho1)
  have H1 := Lib.hid (H0.out.below hb1)
  have M1 := Lib.hid (show Mod (MTurn w B) w w1 from Mod.of_below hb1)
  clear ho1 hb1
  go_wp2_with fail
  go_loopg [4] E.length (fun q' lv0 wr => ∃ (E' : Eg) (Q' : Gr) (lp : Option Addr) (lc : Nat), q' = E'.length ∧ lv0 = .slice lp (nearD E' k true).length lc ∧ MzAt B wr z p m mv Q' dim en VL ⟨N, E', L⟩ ∧ OkM dim ⟨N, E', L⟩ ∧ Nums wr .u64 (.slice lp (nearD E' k true).length lc) (nearD E' k true) ∧ PZ = pruneZ L N k E'.length E' ∧ Mod (MTurn w B) w wr ∧ E'.length ≤ E.length)
  case atStart => exact ⟨E, Q, lp, lc, rfl, rfl, H1.out, OK0.out, N1.out, PH.out, M1.out, Nat.le_refl _⟩
  case round =>
    obtain ⟨E', Q', lp, lc, rfl, rfl, hH, hOK, hNum, hP, hM, hEl⟩ := hrel
    obtain ⟨wo, rfl⟩ : ∃ wo : World, wo = wr := ⟨_, rfl⟩
    have HH := Lib.hid hH
    have OK := Lib.hid hOK
    have NN := Lib.hid hNum
    have PP := Lib.hid hP
    have MM := Lib.hid hM
    clear hH hOK hNum hP hM
    obtain ⟨NE, hNE⟩ : ∃ l, l = nearD E' k true := ⟨_, rfl⟩
    rw [← hNE] at NN
    have NEH := Lib.hid hNE
    by_cases hl : 4 < NE.length
    · obtain ⟨wx, hwx, hwm, -⟩ := soft_some (L := L) (E := E') (k := k) (by rw [← hNE]; exact hl)
      have GO := Lib.hid (prune_go (L := L) OK.out.rel (by rw [← hNE]; exact hl) hwx)
      have CUT := Lib.hid (cut_soft OK.out.rel hwm)
      have MW := Lib.hid (max_worst hwx)
      obtain ⟨SL, hSL⟩ : ∃ l, l = softL L E' k := ⟨_, rfl⟩
      have SLH := Lib.hid hSL
      have hSLl : SL.length = NE.length := by rw [hSL, hNE]; unfold softL; simp
      have SLB := Lib.hid (show ∀ y ∈ SL, y.vec = [] from by rw [hSL]; intro y hy; unfold softL at hy; obtain ⟨u, -, rfl⟩ := List.mem_map.1 hy; rfl)
      have SLJ := Lib.hid (show ∀ j (h1 : j < SL.length) (h2 : j < NE.length), SL[j] = hitK NE[j] (distR (vecOf L k) (vecOf L NE[j])).1 from by subst hSL hNE; intro j h1 h2; simp [softL])
      rw [← hSL] at MW
      have hl' : (4 : Int) < NE.length := by omega
      have hn63 : NE.length ≤ 9223372036854775807 := by
        obtain ⟨q, c, hq, h1, h2, -, -⟩ := NN.out.slice
        omega
      rw [← hNE]
      clear hwx hwm hNE hSL
      go_wp2_with fail
      obtain ⟨W2, hW2⟩ : ∃ W2, W2 = wo.alloc (.cells #[.int .u64 0, .int .u64 0, .slice none 0 0] 45) := ⟨_, rfl⟩
      have hb2 : Below wo.heap.size wo W2 := by rw [hW2]; exact (Below.refl _ _).alloc (Nat.le_refl _) _
      have y2 : W2.heap[wo.heap.size]? = some (.cells #[.int .u64 0, .int .u64 0, .slice none 0 0] 45 (0, 0)) := by rw [hW2]; exact heap_alloc_new _ _
      rw [← hW2]
      obtain ⟨g, hg⟩ : ∃ g, g = wo.heap.size := ⟨_, rfl⟩
      rw [← hg] at y2 ⊢
      have G2 := Lib.hid (And.intro hg (And.intro hb2 y2))
      clear hW2 hb2 y2 hg
      go_loopg [23] NE.length (fun q' i wt => ∃ j : Nat, q' = NE.length - j ∧ j ≤ NE.length ∧ i = .int .i64 j ∧ Below wo.heap.size wo wt ∧ wt.heap[g]? = some (.cells #[.int .u64 (maxH (SL.take j)).id, .int .u64 (maxH (SL.take j)).dist, .slice none 0 0] 45 (0, 0)))
      case atStart => exact ⟨0, rfl, by omega, rfl, G2.out.2.1, by simpa [maxH, hitK] using G2.out.2.2⟩
      case round =>
        obtain ⟨j, rfl, hj, rfl, hbr, hgc⟩ := hrel
        by_cases hlt : j < NE.length
        · obtain ⟨b, off, hlp, e0⟩ := (NN.out.below hbr).elem hlt
          subst hlp
          have hjs : j < SL.length := by omega
          have hst := max_snoc SL j hjs
          have hsj := SLJ.out j hjs hlt
          obtain ⟨x, hx⟩ : ∃ x, x = NE[j] := ⟨_, rfl⟩
          rw [← hx] at e0 hsj
          obtain ⟨mx, hmx⟩ : ∃ y, y = maxH (SL.take j) := ⟨_, rfl⟩
          rw [← hmx] at hgc hst
          obtain ⟨dd, hdd⟩ : ∃ d, d = distR (vecOf L k) (vecOf L x) := ⟨_, rfl⟩
          rw [← hdd] at hsj
          rw [hsj] at hst
          have ST := Lib.hid hst
          have MB := Lib.hid (show mx.vec = [] from by rw [hmx]; exact max_bare fun y hy => SLB.out y (List.mem_of_mem_take hy))
          have BR := Lib.hid hbr
          obtain ⟨W3, hW3⟩ : ∃ W3, W3 = wr.drew := ⟨_, rfl⟩
          have hb3 : Below wr.heap.size wr W3 := by rw [hW3]; exact (Below.refl _ _).drew
          have H3 := Lib.hid ((HH.out.below hbr).below hb3)
          have l1 := H3.out.look k false
          have l2 := H3.out.look x false
          simp only [Bool.false_eq_true, if_false] at l1 l2
          have n1 := (H3.out.vec OK.out k).1
          have n2 := (H3.out.vec OK.out x).1
          obtain ⟨va, hva⟩ : ∃ v, v = (getK VL k).getD (.slice none 0 0) := ⟨_, rfl⟩
          obtain ⟨vb, hvb⟩ : ∃ v, v = (getK VL x).getD (.slice none 0 0) := ⟨_, rfl⟩
          rw [← hva] at l1 n1
          rw [← hvb] at l2 n2
          have cD := Lib.hid (dist _ _ va vb W3 n1 n2)
          simp only at cD
          rw [← hdd] at cD
          have I3 := Lib.hid (And.intro (cellsB H3.out.cell 2) (And.intro l1 l2))
          have G3 := Lib.hid ((hb3.block g (lt_block hgc)).trans hgc)
          have HW := Lib.hid hW3
          have B3 := Lib.hid (hbr.trans (hb3.mono hbr.size))
          clear hst hsj hx hmx hdd hbr hW3 hb3 l1 l2 n1 n2 hva hvb hgc
          go_upto_region 7 with fail
          refine region_go (fun w' => w'.cell? ⟨z, 2, none⟩ = some (.map (some mv)) ∧ (Instr.lookup 49 (.map (some mv)) (.int .u64 k) false).run Try.prog w' = .ok va w' ∧ (Instr.lookup 49 (.map (some mv)) (.int .u64 x) false).run Try.prog w' = .ok vb w') (by kernel_rfl) ?hS0 (fun hH => ?_)
          case hS0 =>
            rw [← HW.out]; exact I3.out
          rw [← HW.out] at hH ⊢
          refine kY 0 hH ?_
          repeat simp only [Act.put, uA1, uB1, uC1]
          refine kY 1 hH ?_
          repeat simp only [Act.put, uA1, uB1, uC1]
          refine kY 2 hH ?_
          repeat simp only [Act.put, uA1, uB1, uC1]
          refine kY 3 hH ?_
          repeat simp only [Act.put, uA1, uB1, uC1]
          refine kY 4 hH ?_
          repeat simp only [Act.put, uA1, uB1, uC1]
          refine kY 5 hH ?_
          repeat simp only [Act.put, uA1, uB1, uC1]
          refine kY 6 hH ?_
          repeat simp only [Act.put, uA1, uB1, uC1]
          refine kY 7 hH ?_
          repeat simp only [Act.put, uA1, uB1, uC1]
          refine kY 8 hH ?_
          repeat simp only [Act.put, uA1, uB1, uC1]
          refine kY 9 hH ?_
          repeat simp only [Act.put, uA1, uB1, uC1]
          refine kY 10 hH ?_
          repeat simp only [Act.put, uA1, uB1, uC1]
          refine kY 11 hH ?_
          repeat simp only [Act.put, uA1, uB1, uC1]
          refine spk 12 rfl (by decide +kernel) (by rfl) (fun K' hK => ?_)
          go_simp
          with_reducible refine cD.out.mono ?_
          rintro e w4 ⟨rfl, rfl⟩
          try dsimp only
          refine hK.out _ _ ?hS (fun hH' => ?_)
          case hS =>
            exact hH
          clear hK K' hH; have hH := hH'; clear hH'; repeat simp only [Act.put, uA1, uB1, uC1]
          refine kY 13 hH ?_
          repeat simp only [Act.put, uA1, uB1, uC1]
          refine kY 14 hH ?_
          repeat simp only [Act.put, uA1, uB1, uC1]
          refine kY 15 hH ?_
          repeat simp only [Act.put, uA1, uB1, uC1]
          refine kY 16 hH ?_
          repeat simp only [Act.put, uA1, uB1, uC1]
          refine kY 17 hH ?_
          repeat simp only [Act.put, uA1, uB1, uC1]
          refine wpAnyH_done (by decide +kernel) ?_ _
          clear hH
          go_upto_region 9 with fail
          obtain ⟨d, hd⟩ : ∃ d, d = dd.1 := ⟨_, rfl⟩
          rw [← hd] at ST ⊢
          clear hd
          obtain ⟨W5, hW5⟩ : ∃ W5, W5 = W3.alloc (.cells #[.int .u64 x, .int .u64 d, .slice none 0 0] 45) := ⟨_, rfl⟩
          have hb5 : Below W3.heap.size W3 W5 := by rw [hW5]; exact (Below.refl _ _).alloc (Nat.le_refl _) _
          have y5 : W5.heap[W3.heap.size]? = some (.cells #[.int .u64 x, .int .u64 d, .slice none 0 0] 45 (0, 0)) := by rw [hW5]; exact heap_alloc_new _ _
          rw [← hW5]
          have g5 := (hb5.block g (lt_block G3.out)).trans G3.out
          obtain ⟨t, ht⟩ : ∃ t, t = W3.heap.size := ⟨_, rfl⟩
          rw [← ht] at y5 ⊢
          have T5 := Lib.hid ht
          have Y5 := Lib.hid (And.intro y5 g5)
          have B5 := Lib.hid (B3.out.trans (hb5.mono B3.out.size))
          have t0 := cellsB y5 0
          have t1 := cellsB y5 1
          have t2 := cellsB y5 2
          have u0 := cellsB g5 0
          have u1 := cellsB g5 1
          have u2 := cellsB g5 2
          have z0 : W5.frozen? ⟨g, 0, none⟩ = false := by simp [World.frozen?, g5]
          have z1 : W5.frozen? ⟨g, 1, none⟩ = false := by simp [World.frozen?, g5]
          have z2 : W5.frozen? ⟨g, 2, none⟩ = false := by simp [World.frozen?, g5]
          have gl5 : g < W5.heap.size := lt_block g5
          have tl5 : t < W5.heap.size := lt_block y5
          clear hW5 hb5 ht y5 g5
          by_cases hj0 : j = 0
          · subst hj0
            have S5 := Lib.hid (set3 Y5.out.2 (Nat.le_of_eq G2.out.1.symm) B5.out (.int .u64 x) (.int .u64 d) (.slice none 0 0))
            rw [if_pos rfl] at ST
            go_wp2_with fail
            go_roundg (NE.length - 1)
            case measure => omega
            case rel => exact ⟨1, rfl, by omega, by go_num, S5.out.2, by rw [show 0 + 1 = 1 from rfl] at ST; rw [ST.out]; exact S5.out.1⟩
          · have hj0' : ¬ (j : Int) = 0 := by omega
            rw [if_neg hj0] at ST
            have cM := Lib.hid (nearer mx.id mx.dist x d (.slice none 0 0) (.slice none 0 0) W5)
            obtain ⟨nb, hnb⟩ : ∃ b, b = nearB mx.id mx.dist x d := ⟨_, rfl⟩
            rw [← hnb] at cM
            have NB := Lib.hid hnb
            clear hnb
            cases nb with
            | true =>
              have STT := Lib.hid (show maxH (SL.take (j + 1)) = hitK x d from by rw [ST.out]; unfold farther; rw [if_pos (show near mx (hitK x d) = true from NB.out.symm)])
              go_wp2_with fail
              (with_reducible refine cM.out.mono ?_)
              rintro e w6 ⟨rfl, hb6⟩
              have y6 := (hb6.block t (lt_block Y5.out.1)).trans Y5.out.1
              have g6 := (hb6.block g (lt_block Y5.out.2)).trans Y5.out.2
              have B6 := Lib.hid (B5.out.trans (hb6.mono B5.out.size))
              have S6 := Lib.hid (set3 g6 (Nat.le_of_eq G2.out.1.symm) B6.out (.int .u64 x) (.int .u64 d) (.slice none 0 0))
              replace t0 := cellsB y6 0
              replace t1 := cellsB y6 1
              replace t2 := cellsB y6 2
              replace z0 : w6.frozen? ⟨g, 0, none⟩ = false := by simp [World.frozen?, g6]
              replace z1 : w6.frozen? ⟨g, 1, none⟩ = false := by simp [World.frozen?, g6]
              replace z2 : w6.frozen? ⟨g, 2, none⟩ = false := by simp [World.frozen?, g6]
              have gl6 : g < w6.heap.size := lt_block g6
              have tl6 : t < w6.heap.size := lt_block y6
              replace u0 := cellsB g6 0
              replace u1 := cellsB g6 1
              replace u2 := cellsB g6 2
              clear y6 g6 hb6
              go_wp2_with fail
              go_roundg (NE.length - (j + 1))
              case measure => omega
              case rel => exact ⟨j + 1, rfl, by omega, by go_num, S6.out.2, by rw [STT.out]; exact S6.out.1⟩
            | false =>
              have STT := Lib.hid (show maxH (SL.take (j + 1)) = mx from by rw [ST.out]; unfold farther; rw [if_neg (by rw [show near mx (hitK x d) = false from NB.out.symm]; simp)])
              go_wp2_with fail
              (with_reducible refine cM.out.mono ?_)
              rintro e w6 ⟨rfl, hb6⟩
              have FIN := Lib.hid (And.intro (B5.out.trans (hb6.mono B5.out.size)) ((hb6.block g (lt_block Y5.out.2)).trans Y5.out.2))
              clear hb6
              go_wp2_with fail
              go_roundg (NE.length - (j + 1))
              case measure => omega
              case rel => exact ⟨j + 1, rfl, by omega, by go_num, FIN.out.1, by rw [STT.out]; exact FIN.out.2⟩
        · obtain rfl : j = NE.length := by omega
          rw [show SL.take NE.length = SL from by rw [← hSLl]; exact List.take_length, MW.out] at hgc
          obtain ⟨xi, hxi⟩ : ∃ i, i = wx.id := ⟨_, rfl⟩
          rw [← hxi] at hgc GO CUT
          obtain ⟨W8, hW8⟩ : ∃ W8, W8 = wr.drew := ⟨_, rfl⟩
          have hb8 : Below wr.heap.size wr W8 := by rw [hW8]; exact (Below.refl _ _).drew
          have g8 := (hb8.block g (lt_block hgc)).trans hgc
          have B8 := Lib.hid (hbr.trans (hb8.mono hbr.size))
          have H8 := Lib.hid (HH.out.below B8.out)
          have G8 := Lib.hid g8
          have I8 := Lib.hid (And.intro (cellsB H8.out.cell 0) (cellsB g8 0))
          have HW := Lib.hid hW8
          have cC := Lib.hid (H8.out.cut k xi)
          simp only at cC
          obtain ⟨EC, hEC⟩ : ∃ e, e = (cutD N E' k xi).2 := ⟨_, rfl⟩
          obtain ⟨cc, hcc⟩ : ∃ c, c = (cutD N E' k xi).1 := ⟨_, rfl⟩
          rw [← hEC, ← hcc] at cC
          rw [← hEC] at CUT GO
          clear hxi hbr hgc hW8 hb8 g8 hEC hcc
          go_upto_region 12 with fail
          refine region_go (fun w' => w'.cell? ⟨z, 0, none⟩ = some (.pointer (some ⟨p, 0, none⟩)) ∧ w'.cell? ⟨g, 0, none⟩ = some (.int .u64 xi)) (by kernel_rfl) ?hS0 (fun hH => ?_)
          case hS0 =>
            rw [← HW.out]; exact I8.out
          rw [← HW.out] at hH ⊢
          refine kY 0 hH ?_
          repeat simp only [Act.put, uA1, uB1, uC1]
          refine kY 1 hH ?_
          repeat simp only [Act.put, uA1, uB1, uC1]
          refine kY 2 hH ?_
          repeat simp only [Act.put, uA1, uB1, uC1]
          refine kY 3 hH ?_
          repeat simp only [Act.put, uA1, uB1, uC1]
          refine kY 4 hH ?_
          repeat simp only [Act.put, uA1, uB1, uC1]
          refine kY 5 hH ?_
          repeat simp only [Act.put, uA1, uB1, uC1]
          refine kY 6 hH ?_
          repeat simp only [Act.put, uA1, uB1, uC1]
          refine kY 7 hH ?_
          repeat simp only [Act.put, uA1, uB1, uC1]
          refine spk 8 rfl (by decide +kernel) (by rfl) (fun K' hK => ?_)
          go_simp
          with_reducible refine cC.out.mono ?_
          rintro e w9 ⟨rfl, ⟨Q9, h9⟩, hm9⟩
          try dsimp only
          refine hK.out _ _ ?hS (fun hH' => ?_)
          case hS =>
            exact ⟨cellsB h9.cell 0, cellsB (MTurn.box hm9 G8.out (by decide)) 0⟩
          clear hK K' hH; have hH := hH'; clear hH'; repeat simp only [Act.put, uA1, uB1, uC1]
          refine wpAnyH_done (by decide +kernel) ?_ _
          have H9 := Lib.hid h9
          have M9 := Lib.hid (MTurn.trans (MM.out.andBelow B8.out) hm9)
          clear hH h9 hm9
          have c9 := Lib.hid (H9.out.soft (by show N.length ≤ 100000; omega) k)
          go_wp2_with fail
          (with_reducible refine c9.out.mono ?_)
          rintro e w10 ⟨v10, rfl, ho, hb⟩
          obtain ⟨lp2, lc2, rfl, -, -, -, -⟩ := (Nums.of_own ho).slice
          have N10 := Lib.hid (Nums.of_own ho)
          have H10 := Lib.hid (H9.out.below hb)
          have M10 := Lib.hid (M9.out.andBelow hb)
          clear ho hb
          go_wp2_with fail
          go_roundg EC.length
          case measure => have := CUT.out.1; omega
          case rel => exact ⟨EC, Q9, lp2, lc2, rfl, rfl, H10.out, ⟨CUT.out.2, OK.out.same, OK.out.once, OK.out.vecs, by have h1 := OK.out.few; have h2 := CUT.out.1; simp only at h1 ⊢; omega⟩, N10.out, PP.out.trans GO.out, M10.out, by have := CUT.out.1; omega⟩
    · have hst := prune_stop L N k E'.length (E := E') (by rw [← hNE]; omega)
      have hl' : ¬ (4 : Int) < NE.length := by omega
      have PE := Lib.hid (PP.out.trans hst)
      rw [← hNE]
      clear hNE hst
      go_wp2_with fail
      go_end0
      exact ⟨rfl, ⟨Q', by rw [PE.out]; exact HH.out⟩, MM.out⟩

end Go.Proofs.Ytpjbkaibgajpcaa

namespace Go.Proofs.Ytpjbkaibgajpcaa
open Go.RowKit

theorem flat3_setv (rs : List Hv) (i : Nat) (hi : i < rs.length) (u : Value) : (flat3 rs).set (i * 3 + 1 + 1) u = flat3 (rs.set i ⟨rs[i].id, rs[i].dist, u⟩) := by
  induction rs generalizing i with
  | nil => simp at hi
  | cons r rs ih =>
    cases i with
    | zero => simp [flat3]
    | succ i =>
      have := ih i (by simpa using hi)
      rw [show (i + 1) * 3 + 1 + 1 = i * 3 + 1 + 1 + 1 + 1 + 1 by omega]
      simpa [flat3] using this

end Go.Proofs.Ytpjbkaibgajpcaa

namespace Go.Proofs.Ytpjbkaibgajpcaa
open Go.RowKit

end Go.Proofs.Ytpjbkaibgajpcaa
