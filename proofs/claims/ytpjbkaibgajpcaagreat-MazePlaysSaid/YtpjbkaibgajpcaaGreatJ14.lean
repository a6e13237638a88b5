/-
  walk's document: a node is seen.
-/
import Derived.Test.YtpjbkaibgajpcaaGreatJ13
import Derived.Test.YtpjbkaibgajpcaaGreatJ10
import Derived.Deep.DeepCutAuto
namespace Go.Proofs.YtpjbkaibgajpcaaGreat
open Go.RowKit
set_option maxRecDepth 20000

def seeR (far : Int → Option Int) (most : Nat) (all : Bool) (s : Ws) (k : Int) : Ws :=
  match far k with
  | none => s
  | some d => if k ∈ s.S then s else if (hopeB most s.L (hitK k d) || all) = true then ⟨(addZ most s.L (hitK k d)).2, s.S ++ [k], s.T ++ [hitK k d]⟩ else ⟨s.L, s.S ++ [k], s.T⟩

/-- the same, but for the order of what is to be gone to -/
structure Like (s t : Ws) : Prop where
  best : s.L = t.L
  seen : s.S = t.S
  todo : s.T.Perm t.T

theorem Like.see {s t : Ws} (h : Like s t) (far : Int → Option Int) (most : Nat) (all : Bool) (k : Int) : Like (seeR far most all s k) (seeW far most all t k) := by
  obtain ⟨L, S, T⟩ := s
  obtain ⟨L', S', T'⟩ := t
  obtain ⟨rfl, rfl, hT⟩ := h
  simp only at hT
  unfold seeR seeW
  cases far k with
  | none => exact ⟨rfl, rfl, hT⟩
  | some d =>
    simp only
    split
    · exact ⟨rfl, rfl, hT⟩
    · split
      · refine ⟨rfl, rfl, ?_⟩
        exact (List.perm_append_singleton _ _).trans ((hT.cons _).trans (insD_perm _ _).symm)
      · exact ⟨rfl, rfl, hT⟩

theorem notin_snoc (S : List Int) (k : Int) (j : Nat) (hj : j < S.length) : decide (k ∉ S.take (j + 1)) = (decide (k ∉ S.take j) && (S[j] != k)) := by
  rw [List.take_succ_eq_append_getElem hj]
  generalize S.take j = A
  generalize S[j] = y
  by_cases h1 : k ∈ A
  · simp [h1]
  · by_cases h2 : y = k
    · subst h2; simp
    · have h3 : ¬ k = y := fun e => h2 e.symm
      simp [h1, h2, h3]


set_option maxRecDepth 100000 in
set_option maxHeartbeats 16000000 in
theorem wSee (kv : Value) (ks : List Int) (w0 w : World) (x : Nat) (far : Int → Option Int) (cF : ∀ W, Below w0.heap.size w0 W → ∀ k, Calls Tryz.prog 103 #[.pointer (some ⟨x, 0, none⟩), .int .u64 k] W fun e w' => ∃ v, e = .returned v ∧ v = .tuple #[.int .u64 ((far k).getD 0), .bool (far k).isSome] ∧ Below W.heap.size W w')
    (b c : Nat) (F : Nat → Prop) (most : Nat) (hm : 1 ≤ most ∧ most ≤ 1000) (sv tv : Value) (s : Ws) (h : RsAt kv ks w0 w b c F most sv tv s.L s.S s.T) (g : GoodL most s.L) (hS : s.S.length ≤ 1000) (hT : s.T.length ≤ 1000) (k : Int) (all : Bool) :
    Calls Tryz.prog 78 #[.pointer (some ⟨x, 0, none⟩), .pointer (some ⟨b, 0, none⟩), .int .u64 k, .bool all] w fun e w' => e = .returned (.tuple #[]) ∧ ∃ F' sv' tv', RsAt kv ks w0 w' b c F' most sv' tv' (seeR far most all s k).L (seeR far most all s k).S (seeR far most all s k).T := by
  obtain ⟨L, S, T⟩ := s
  simp only at h g hS hT
  have A0 := Lib.hid h
  have GG := Lib.hid g
  have cF0 := Lib.hid (cF w h.old k)
  obtain ⟨okB, hok⟩ : ∃ b, b = (far k).isSome := ⟨_, rfl⟩
  rw [← hok] at cF0
  obtain ⟨d0, hd0⟩ : ∃ d, d = (far k).getD 0 := ⟨_, rfl⟩
  rw [← hd0] at cF0
  have OK := Lib.hid (And.intro hok hd0)
  clear h g cF hok hd0
  go_enter Tryz.func78, Tryz.ntmps78
  go_upto_region 2 with (go_at_call 103; (with_reducible refine cF0.out.mono ?_); rintro e w1 ⟨v, rfl, rfl, hb1⟩; have A1 := Lib.hid (A0.out.below hb1); have c1 : w1.cell? ⟨b, 1, none⟩ = some sv := cellsB A1.out.cell 1; obtain ⟨sp, sn, sc, rfl⟩ := own_form A1.out.seen; obtain rfl : sn = S.length := own_len A1.out.seen; clear hb1)
  go_loopg [9, 25] S.length (fun q o i wr => ∃ j : Nat, q = S.length - j ∧ j ≤ S.length ∧ i = .int .i64 j ∧ o = .bool (okB && decide (k ∉ S.take j)) ∧ wr = w1)
  case atStart => exact ⟨0, rfl, by omega, rfl, by simp, rfl⟩
  case round =>
    obtain ⟨j, rfl, hj, rfl, rfl, rfl⟩ := hrel
    by_cases hlt : j < S.length
    · obtain ⟨bb, ob, hsp, hcell⟩ := (Nums.of_own A1.out.seen).elem hlt
      subst hsp
      have SN := Lib.hid (notin_snoc S k j hlt)
      obtain ⟨y, hy⟩ : ∃ y, y = S[j] := ⟨_, rfl⟩
      rw [← hy] at hcell SN
      clear hy
      cases ho : (okB && decide (k ∉ S.take j)) with
      | false =>
        have HO := Lib.hid ho
        clear ho
        go_wp2_with fail
        go_roundg (S.length - (j + 1))
        case measure => omega
        case rel => exact ⟨j + 1, rfl, by omega, by go_num, by rw [SN.out, ← Bool.and_assoc, HO.out, Bool.false_and], rfl⟩
      | true =>
        have HO := Lib.hid ho
        clear ho
        go_wp2_with fail
        go_roundg (S.length - (j + 1))
        case measure => omega
        case rel => exact ⟨j + 1, rfl, by omega, by go_num, by rw [SN.out, ← Bool.and_assoc, HO.out, Bool.true_and], rfl⟩
    · obtain rfl : j = S.length := by omega
      rw [List.take_length]
      obtain ⟨w1, rfl⟩ : ∃ W : World, W = wr := ⟨_, rfl⟩
      cases hf : far k with
      | none =>
        have hokf : okB = false := by rw [OK.out.1, hf]; rfl
        have FF := Lib.hid hf
        subst hokf
        clear hf
        simp only [Bool.false_and]
        go_wp2_with fail
        (try simp only [Exit.inBlock, Exit.then]); refine bodyPost_ret (results_none rfl _ _ _) rfl ?_
        exact ⟨rfl, F, _, tv, by simp only [seeR, FF.out]; exact A1.out⟩
      | some d =>
        have hokf : okB = true := by rw [OK.out.1, hf]; rfl
        have hdd : d0 = d := by rw [OK.out.2, hf]; rfl
        have FF := Lib.hid hf
        subst hokf
        subst hdd
        clear hf
        by_cases hkS : k ∈ S
        · have HS := Lib.hid hkS
          have hdec : (true && decide (k ∉ S)) = false := by simp [hkS]
          rw [hdec]
          clear hkS hdec
          go_wp2_with fail
          (try simp only [Exit.inBlock, Exit.then]); refine bodyPost_ret (results_none rfl _ _ _) rfl ?_
          exact ⟨rfl, F, _, tv, by simp only [seeR, FF.out, HS.out, if_true]; exact A1.out⟩
        · have HS := Lib.hid hkS
          have hdec : (true && decide (k ∉ S)) = true := by simp [hkS]
          rw [hdec]
          clear hkS hdec
          obtain ⟨gs, cps, w2, hrun, hA2, hb2⟩ := A1.out.saw k (by omega)
          have A2 := Lib.hid hA2
          have z1 : w2.frozen? ⟨b, 1, none⟩ = false := by simp [World.frozen?, hb2]
          have y1 := cellsB hb2 1
          clear hA2
          go_upto_region 8 with (with_reducible refine wpList_append_eq hrun rfl _ _ rfl rfl rfl ?_)
          obtain ⟨W3, hW3⟩ : ∃ W3, W3 = w2.setCell ⟨b, 1, none⟩ (.slice (some ⟨gs, 0, none⟩) (S.length + 1) cps) := ⟨_, rfl⟩
          have A3 := Lib.hid (show RsAt kv ks w0 W3 b c F most (.slice (some ⟨gs, 0, none⟩) (S.length + 1) cps) tv L (S ++ [k]) T from by rw [hW3]; exact A2.out)
          rw [← hW3]
          clear hW3 z1 y1 hrun hb2 A2
          obtain ⟨svn, hsvn⟩ : ∃ v, v = Value.slice (some ⟨gs, 0, none⟩) (S.length + 1) cps := ⟨_, rfl⟩
          rw [← hsvn] at A3
          clear hsvn
          go_upto_region 9 with fail
          obtain ⟨g, hg⟩ : ∃ g, g = W3.heap.size := ⟨_, rfl⟩
          have hgF : ¬ F g := fun hF => by have := A3.out.fhi g hF; omega
          have hgc : g ≠ c := fun e => hgF (e ▸ A3.out.fc)
          have hgb : g ≠ b := by have := A3.out.blt; omega
          have hgt : tv.ownBlock ≠ some g := fun e => by have := (A3.out.todo.lt g e).2; omega
          obtain ⟨W4, hW4⟩ : ∃ W4, W4 = (W3.alloc (.cells #[.int .u64 k, .int .u64 d0, .slice none 0 0] 38)).drew := ⟨_, rfl⟩
          have hb4 : Below W3.heap.size W3 W4 := by rw [hW4]; exact ((Below.refl _ _).alloc (Nat.le_refl _) _).drew
          have y4 : W4.heap[g]? = some (.cells #[.int .u64 k, .int .u64 d0, .slice none 0 0] 38 (0, 0)) := by rw [hW4, hg]; exact heap_alloc_new _ _
          rw [← hg]
          have A4 := Lib.hid (A3.out.below hb4)
          obtain ⟨vl, Gl, r, hro, hperm, -, -⟩ := A4.out.best
          obtain ⟨l0, l1, -⟩ := hro.cells
          obtain ⟨lp, lc, rfl, -, -, -, -⟩ := id hro.hits
          have hrl := hperm.length_eq
          rw [← hrl] at l1
          have b0 : W4.cell? ⟨b, 0, none⟩ = some (.pointer (some ⟨c, 0, none⟩)) := cellsB A4.out.cell 0
          have I4 := Lib.hid (And.intro b0 (And.intro l0 l1))
          have Y4 := Lib.hid (And.intro y4 (And.intro hgF (And.intro hgc (And.intro hgb hgt))))
          have HW4 := Lib.hid hW4
          have hLm := GG.out.len
          have HB := Lib.hid (show hopeB most L (hitK k d0) = (!decide (L.length = most) || (match L.getLast? with | some x => near (hitK k d0) x | none => false)) from rfl)
          clear hW4 hb4 y4 hg hgF hgc hgb hgt hro hperm hrl l0 l1 b0
          go_cut [70] (fun s wc => s = .bool (decide (L.length = most) && !all) ∧ wc = W4)
          case first =>
            by_cases hfull : L.length = most
            · have hge : (most : Int) ≤ (L.length : Int) := by omega
              refine region_go (fun w' => w'.cell? ⟨b, 0, none⟩ = some (.pointer (some ⟨c, 0, none⟩)) ∧ w'.cell? ⟨c, 0, none⟩ = some (.int .i64 most) ∧ w'.cell? ⟨c, 1, none⟩ = some (.slice lp L.length lc)) (by kernel_rfl) ?hS0 (fun hH => ?_)
              case hS0 =>
                rw [← HW4.out]; exact I4.out
              rw [← HW4.out] at hH ⊢
              refine kY 0 hH ?_
              repeat simp only [Act.put, uA1, uB1, uC1]
              refine kY 1 hH ?_
              repeat simp only [Act.put, uA1, uB1, uC1]
              refine kY 2 hH ?_
              repeat simp only [Act.put, uA1, uB1, uC1]
              refine kY 3 hH ?_
              repeat simp only [Act.put, uA1, uB1, uC1]
              refine kY 4 hH ?_
              repeat simp only [Act.put, uA1, uB1, uC1]
              refine kY 5 hH ?_
              repeat simp only [Act.put, uA1, uB1, uC1]
              refine kY 6 hH ?_
              repeat simp only [Act.put, uA1, uB1, uC1]
              refine kY 7 hH ?_
              repeat simp only [Act.put, uA1, uB1, uC1]
              refine kY 8 hH ?_
              repeat simp only [Act.put, uA1, uB1, uC1]
              refine kY 9 hH ?_
              repeat simp only [Act.put, uA1, uB1, uC1]
              refine kY 10 hH ?_
              repeat simp only [Act.put, uA1, uB1, uC1]
              refine kY 11 hH ?_
              repeat simp only [Act.put, uA1, uB1, uC1]
              refine kY 12 hH ?_
              repeat simp only [Act.put, uA1, uB1, uC1]
              refine kY 13 hH ?_
              repeat simp only [Act.put, uA1, uB1, uC1]
              refine kY 14 hH ?_
              repeat simp only [Act.put, uA1, uB1, uC1]
              refine kY 15 hH ?_
              repeat simp only [Act.put, uA1, uB1, uC1]
              refine kY 16 hH ?_
              repeat simp only [Act.put, uA1, uB1, uC1]
              refine kY 17 hH ?_
              repeat simp only [Act.put, uA1, uB1, uC1]
              refine kY 18 hH ?_
              repeat simp only [Act.put, uA1, uB1, uC1]
              refine kY 19 hH ?_
              repeat simp only [Act.put, uA1, uB1, uC1]
              refine wpAnyH_done (by decide +kernel) ?_ _
              go_wp2_with fail
              go_meet
              exact ⟨by simp [hfull], rfl⟩
            · have hge : ¬ (most : Int) ≤ (L.length : Int) := by omega
              refine region_go (fun w' => w'.cell? ⟨b, 0, none⟩ = some (.pointer (some ⟨c, 0, none⟩)) ∧ w'.cell? ⟨c, 0, none⟩ = some (.int .i64 most) ∧ w'.cell? ⟨c, 1, none⟩ = some (.slice lp L.length lc)) (by kernel_rfl) ?hS0 (fun hH => ?_)
              case hS0 =>
                rw [← HW4.out]; exact I4.out
              rw [← HW4.out] at hH ⊢
              refine kY 0 hH ?_
              repeat simp only [Act.put, uA1, uB1, uC1]
              refine kY 1 hH ?_
              repeat simp only [Act.put, uA1, uB1, uC1]
              refine kY 2 hH ?_
              repeat simp only [Act.put, uA1, uB1, uC1]
              refine kY 3 hH ?_
              repeat simp only [Act.put, uA1, uB1, uC1]
              refine kY 4 hH ?_
              repeat simp only [Act.put, uA1, uB1, uC1]
              refine kY 5 hH ?_
              repeat simp only [Act.put, uA1, uB1, uC1]
              refine kY 6 hH ?_
              repeat simp only [Act.put, uA1, uB1, uC1]
              refine kY 7 hH ?_
              repeat simp only [Act.put, uA1, uB1, uC1]
              refine kY 8 hH ?_
              repeat simp only [Act.put, uA1, uB1, uC1]
              refine kY 9 hH ?_
              repeat simp only [Act.put, uA1, uB1, uC1]
              refine kY 10 hH ?_
              repeat simp only [Act.put, uA1, uB1, uC1]
              refine kY 11 hH ?_
              repeat simp only [Act.put, uA1, uB1, uC1]
              refine kY 12 hH ?_
              repeat simp only [Act.put, uA1, uB1, uC1]
              refine kY 13 hH ?_
              repeat simp only [Act.put, uA1, uB1, uC1]
              refine kY 14 hH ?_
              repeat simp only [Act.put, uA1, uB1, uC1]
              refine kY 15 hH ?_
              repeat simp only [Act.put, uA1, uB1, uC1]
              refine kY 16 hH ?_
              repeat simp only [Act.put, uA1, uB1, uC1]
              refine kN 17 hH ?_
              repeat simp only [Act.put, uA1, uB1, uC1]
              refine kN 18 hH ?_
              repeat simp only [Act.put, uA1, uB1, uC1]
              refine kY 19 hH ?_
              repeat simp only [Act.put, uA1, uB1, uC1]
              refine wpAnyH_done (by decide +kernel) ?_ _
              go_wp2_with fail
              go_meet
              exact ⟨by simp [hfull], rfl⟩
          case rest =>
          obtain ⟨rfl, rfl⟩ := hcut
          obtain ⟨W4, rfl⟩ : ∃ W : World, W = wc := ⟨_, rfl⟩
          by_cases hgo : (decide (L.length = most) && !all) = true
          · rw [hgo]
            obtain ⟨hf1, ha1⟩ : L.length = most ∧ all = false := by simpa using hgo
            obtain ⟨n, hn⟩ : ∃ n, L.length = n + 1 := ⟨L.length - 1, by omega⟩
            have cA := Lib.hid (refAll F c most most L W4 A4.out.best GG.out (by omega))
            have b0 : W4.cell? ⟨b, 0, none⟩ = some (.pointer (some ⟨c, 0, none⟩)) := cellsB A4.out.cell 0
            have HB2 := Lib.hid (show hopeB most L (hitK k d0) = near (hitK k d0) (L[n]'(by omega)) from by rw [hopeB_some hm.1 hn]; simp [hf1])
            have hnl : n < L.length := by omega
            obtain ⟨xl, hxl⟩ : ∃ xl, xl = L[n] := ⟨_, rfl⟩
            rw [← hxl] at HB2
            have XL := Lib.hid hxl
            have HN := Lib.hid (And.intro hn (And.intro hf1 ha1))
            clear hgo hf1 hxl
            go_upto_region 11 with (go_at_call 79; (with_reducible refine cA.out.mono ?_); rintro e w5 ⟨v5, rfl, hh5, hb5⟩; obtain ⟨p5, c5, rfl, -, -, -, -⟩ := id hh5; have H5 := Lib.hid hh5; have B5 := Lib.hid hb5; clear hh5 hb5)
            obtain ⟨rs5, -, -, hel5⟩ := H5.out.rows
            obtain ⟨bb, ob, up, uc, -, rfl, -, -, q0, q1, q2, -, -⟩ := hel5 n hnl
            rw [← XL.out] at q0 q1 q2
            obtain ⟨W5, hW5⟩ : ∃ W5, W5 = w5.drew := ⟨_, rfl⟩
            have hb55 : Below w5.heap.size w5 W5 := by rw [hW5]; exact (Below.refl _ _).drew
            have hb45 := B5.out.trans (hb55.mono B5.out.size)
            have A5 := Lib.hid (A4.out.below hb45)
            have y5 := (hb45.block g (Array.getElem?_eq_some_iff.1 Y4.out.1).1).trans Y4.out.1
            have I5 := Lib.hid (And.intro (And.intro (cellsB y5 0) (And.intro (cellsB y5 1) (cellsB y5 2))) (And.intro (below_cells hb55 q0) (And.intro (below_cells hb55 q1) (below_cells hb55 q2))))
            have Y5 := Lib.hid y5
            have HW5 := Lib.hid hW5
            obtain ⟨nv, hnv⟩ : ∃ v, v = xl.vec.length := ⟨_, rfl⟩
            rw [← hnv] at I5
            have hwn : IntKind.i64.wrap (n : Int) = n := by simp [IntKind.wrap, IntKind.signed, IntKind.bits] <;> omega
            have hn1 : (0 : Int) ≤ n ∧ (n : Int) < n + 1 := by omega
            have hn2 : ((n : Nat) : Int).toNat = n := Int.toNat_natCast _
            have cN := Lib.hid (fun W : World => refNearer k d0 xl.id xl.dist (.slice none 0 0) (.slice up nv uc) W)
            obtain ⟨nb, hnb⟩ : ∃ b, b = nearB k d0 xl.id xl.dist := ⟨_, rfl⟩
            rw [← hnb] at cN
            have NB := Lib.hid hnb
            clear hW5 hb55 hb45 y5 q0 q1 q2 hel5 hnv hnb b0 hn
            go_cut [84] (fun s wc => s = .bool (!nb) ∧ Below W5.heap.size W5 wc)
            case first =>
              refine region_go (fun w' => (w'.cell? ⟨g, 0, none⟩ = some (.int .u64 k) ∧ w'.cell? ⟨g, 1, none⟩ = some (.int .u64 d0) ∧ w'.cell? ⟨g, 2, none⟩ = some (.slice none 0 0)) ∧ w'.cell? ⟨bb, ob + n * 3, none⟩ = some (.int .u64 xl.id) ∧ w'.cell? ⟨bb, ob + n * 3 + 1, none⟩ = some (.int .u64 xl.dist) ∧ w'.cell? ⟨bb, ob + n * 3 + 1 + 1, none⟩ = some (.slice up nv uc)) (by kernel_rfl) ?hS0 (fun hH => ?_)
              case hS0 =>
                rw [← HW5.out]; exact I5.out
              rw [← HW5.out] at hH ⊢
              refine kY 0 hH ?_
              repeat simp only [Act.put, uA1, uB1, uC1]
              refine kY 1 hH ?_
              repeat simp only [Act.put, uA1, uB1, uC1]
              refine kY 2 hH ?_
              repeat simp only [Act.put, uA1, uB1, uC1]
              refine kY 3 hH ?_
              repeat simp only [Act.put, uA1, uB1, uC1]
              refine kY 4 hH ?_
              repeat simp only [Act.put, uA1, uB1, uC1]
              refine kY 5 hH ?_
              repeat simp only [Act.put, uA1, uB1, uC1]
              refine kY 6 hH ?_
              repeat simp only [Act.put, uA1, uB1, uC1]
              refine spk 7 rfl (by decide +kernel) (by rfl) (fun K' hK => ?_)
              go_simp
              with_reducible refine (cN.out _).mono ?_
              rintro e w6 ⟨rfl, hb6⟩
              try dsimp only
              refine hK.out _ _ ?hS (fun hH' => ?_)
              case hS =>
                exact ⟨⟨below_cells hb6 hH.1.1, below_cells hb6 hH.1.2.1, below_cells hb6 hH.1.2.2⟩, below_cells hb6 hH.2.1, below_cells hb6 hH.2.2.1, below_cells hb6 hH.2.2.2⟩
              clear hK K' hH; have hH := hH'; clear hH'; repeat simp only [Act.put, uA1, uB1, uC1]
              refine kY 8 hH ?_
              repeat simp only [Act.put, uA1, uB1, uC1]
              refine wpAnyH_done (by decide +kernel) ?_ _
              go_wp2_with fail
              go_meet
              exact ⟨rfl, hb6⟩
            case rest =>
            obtain ⟨rfl, hbc⟩ := hcut
            have AX := Lib.hid (A5.out.below hbc)
            have YX := Lib.hid (And.intro ((hbc.block g (Array.getElem?_eq_some_iff.1 Y5.out).1).trans Y5.out) Y4.out.2)
            obtain ⟨WQ, rfl⟩ : ∃ W : World, W = wc := ⟨_, rfl⟩
            clear hbc hwn hn1 hn2
            cases nb with
            | false =>
              have HNO := Lib.hid (show ¬ (hopeB most L (hitK k d0) || all) = true from by
                rw [HB2.out, show near (hitK k d0) xl = false from NB.out.symm, HN.out.2.2]
                simp)
              go_wp2_with fail
              (try simp only [Exit.inBlock, Exit.then]); refine bodyPost_ret (results_none rfl _ _ _) rfl ?_
              exact ⟨rfl, F, _, tv, by simp only [seeR, FF.out, HS.out, if_false]; rw [if_neg HNO.out]; exact AX.out⟩
            | true =>
              have HOPE := Lib.hid (show (hopeB most L (hitK k d0) || all) = true from by
                rw [HB2.out, show near (hitK k d0) xl = true from NB.out.symm]
                simp)
              go_wp2_with fail
              obtain ⟨W6, hW6⟩ : ∃ W6, W6 = WQ.drew := ⟨_, rfl⟩
              have hb6 : Below WQ.heap.size WQ W6 := by rw [hW6]; exact (Below.refl _ _).drew
              have A6 := Lib.hid (AX.out.below hb6)
              have y6 := (hb6.block g (Array.getElem?_eq_some_iff.1 YX.out.1).1).trans YX.out.1
              have b0 : W6.cell? ⟨b, 0, none⟩ = some (.pointer (some ⟨c, 0, none⟩)) := cellsB A6.out.cell 0
              have I6 := Lib.hid (And.intro b0 (And.intro (cellsB y6 0) (And.intro (cellsB y6 1) (cellsB y6 2))))
              have c6 := Lib.hid (A6.out.added hm GG.out k d0)
              have Y6 := Lib.hid y6
              have HW6 := Lib.hid hW6
              clear hW6 hb6 y6 b0
              refine region_go (fun w' => w'.cell? ⟨b, 0, none⟩ = some (.pointer (some ⟨c, 0, none⟩)) ∧ w'.cell? ⟨g, 0, none⟩ = some (.int .u64 k) ∧ w'.cell? ⟨g, 1, none⟩ = some (.int .u64 d0) ∧ w'.cell? ⟨g, 2, none⟩ = some (.slice none 0 0)) (by kernel_rfl) ?hS0 (fun hH => ?_)
              case hS0 =>
                rw [← HW6.out]; exact I6.out
              rw [← HW6.out] at hH ⊢
              refine kY 0 hH ?_
              repeat simp only [Act.put, uA1, uB1, uC1]
              refine kY 1 hH ?_
              repeat simp only [Act.put, uA1, uB1, uC1]
              refine kY 2 hH ?_
              repeat simp only [Act.put, uA1, uB1, uC1]
              refine kY 3 hH ?_
              repeat simp only [Act.put, uA1, uB1, uC1]
              refine kY 4 hH ?_
              repeat simp only [Act.put, uA1, uB1, uC1]
              refine spk 5 rfl (by decide +kernel) (by rfl) (fun K' hK => ?_)
              go_simp
              with_reducible refine c6.out.mono ?_
              rintro e w7 ⟨z7, F7, rfl, hA7, hm7⟩
              have y7 := (hm7.block g (Array.getElem?_eq_some_iff.1 Y6.out).1 YX.out.2.2.1).trans Y6.out
              try dsimp only
              refine hK.out _ _ ?hS (fun hH' => ?_)
              case hS =>
                exact ⟨cellsB hA7.cell 0, cellsB y7 0, cellsB y7 1, cellsB y7 2⟩
              clear hK K' hH; have hH := hH'; clear hH'; repeat simp only [Act.put, uA1, uB1, uC1]
              refine wpAnyH_done (by decide +kernel) ?_ _
              have A7 := Lib.hid hA7
              have Y7 := Lib.hid y7
              clear hH hA7 hm7 y7
              go_wp2_with fail
              obtain ⟨W8, hW8⟩ : ∃ W8, W8 = w7.drew := ⟨_, rfl⟩
              have hb8 : Below w7.heap.size w7 W8 := by rw [hW8]; exact (Below.refl _ _).drew
              have A8 := Lib.hid (A7.out.below hb8)
              have y8 := (hb8.block g (Array.getElem?_eq_some_iff.1 Y7.out).1).trans Y7.out
              have b2 : W8.cell? ⟨b, 2, none⟩ = some tv := cellsB A8.out.cell 2
              have e0 : W8.cell? ⟨g, 0, none⟩ = some (.int .u64 k) := cellsB y8 0
              have e1 : W8.cell? ⟨g, 1, none⟩ = some (.int .u64 d0) := cellsB y8 1
              have e2 : W8.cell? ⟨g, 2, none⟩ = some (.slice none 0 0) := cellsB y8 2
              obtain ⟨g9, cp9, w9, hrun9, hA9, hc9, hk9⟩ := A8.out.pushed k d0 (by omega)
              have y9 := (hk9 g (Array.getElem?_eq_some_iff.1 y8).1 YX.out.2.2.2.2).trans y8
              have z9 : w9.frozen? ⟨b, 2, none⟩ = false := by simp [World.frozen?, hc9]
              have b9 := cellsB hc9 2
              have I8 := Lib.hid (And.intro b2 (And.intro e0 (And.intro e1 e2)))
              have ba : Below W8.heap.size W8 (W8.alloc (.cells #[.int .u64 k, .int .u64 d0, .slice none 0 0] 38)) := (Below.refl _ _).alloc (Nat.le_refl _) _
              have I9 := Lib.hid (And.intro (below_cells ba b2) (And.intro (below_cells ba e0) (And.intro (below_cells ba e1) (below_cells ba e2))))
              have I10 := Lib.hid (show w9.cell? ⟨b, 2, none⟩ = some tv ∧ w9.cell? ⟨g, 0, none⟩ = some (.int .u64 k) ∧ w9.cell? ⟨g, 1, none⟩ = some (.int .u64 d0) ∧ w9.cell? ⟨g, 2, none⟩ = some (.slice none 0 0) from ⟨b9, cellsB y9 0, cellsB y9 1, cellsB y9 2⟩)
              have A9 := Lib.hid hA9
              have HW8 := Lib.hid hW8
              clear hW8 hb8 y8 b2 e0 e1 e2 hA9 hc9 hk9 y9 ba
              refine region_goN 10 (fun w' => w'.cell? ⟨b, 2, none⟩ = some tv ∧ w'.cell? ⟨g, 0, none⟩ = some (.int .u64 k) ∧ w'.cell? ⟨g, 1, none⟩ = some (.int .u64 d0) ∧ w'.cell? ⟨g, 2, none⟩ = some (.slice none 0 0)) (by kernel_rfl) ?hS0 (fun hH => ?_)
              case hS0 =>
                rw [← HW8.out]; exact I8.out
              rw [← HW8.out] at hH ⊢
              refine kYN 0 hH ?_
              repeat simp only [Act.put, uA1, uB1, uC1]
              refine kYN 1 hH ?_
              repeat simp only [Act.put, uA1, uB1, uC1]
              refine kYN 2 hH ?_
              repeat simp only [Act.put, uA1, uB1, uC1]
              refine kYN 3 hH ?_
              repeat simp only [Act.put, uA1, uB1, uC1]
              refine kYN 4 hH ?_
              repeat simp only [Act.put, uA1, uB1, uC1]
              refine kYN 5 hH ?_
              repeat simp only [Act.put, uA1, uB1, uC1]
              refine spkN 6 rfl (by decide) (by decide +kernel) (by rfl) (fun K' hK => ?_)
              go_simp
              try dsimp only
              refine hK.out _ _ ?hS (fun hH' => ?_)
              case hS =>
                exact I9.out
              clear hK K' hH; have hH := hH'; clear hH'; repeat simp only [Act.put, uA1, uB1, uC1]
              refine spkN 7 rfl (by decide) (by decide +kernel) (by rfl) (fun K' hK => ?_)
              with_reducible refine wp_append_eq hrun9 _ _ rfl rfl rfl ?_
              try dsimp only
              refine hK.out _ _ ?hS (fun hH' => ?_)
              case hS =>
                exact I10.out
              clear hK K' hH; have hH := hH'; clear hH'; repeat simp only [Act.put, uA1, uB1, uC1]
              refine spkN 8 rfl (by decide) (by decide +kernel) (by rfl) (fun K' hK => ?_)
              go_simp
              try dsimp only
              refine hK.out _ _ ?hS (fun hH' => ?_)
              case hS =>
                exact hH
              clear hK K' hH; have hH := hH'; clear hH'; repeat simp only [Act.put, uA1, uB1, uC1]
              refine kYN 9 hH ?_
              repeat simp only [Act.put, uA1, uB1, uC1]
              refine spkL rfl (by decide +kernel) (by rfl) (fun K' hK => ?_)
              go_simp
              try dsimp only
              refine hK.out _ _ ?_
              clear hK K' hH; repeat simp only [Act.put, uA1, uB1, uC1]
              refine anyBut_done (by decide +kernel) ?_ _
              go_wp2_with fail
              go_end0
              exact ⟨rfl, F7, _, _, by simp only [seeR, FF.out, HS.out, if_false]; rw [if_pos HOPE.out]; exact A9.out⟩
          · have hgo' : (decide (L.length = most) && !all) = false := by simpa using hgo
            rw [hgo']
            have HOPE := Lib.hid (show (hopeB most L (hitK k d0) || all) = true from by
              rw [HB.out]
              revert hgo'
              cases all
              · intro h; simp at h; simp [h]
              · intro _; simp)
            have AX := Lib.hid A4.out
            have YX := Lib.hid Y4.out
            clear hgo hgo'
            go_wp2_with fail
            obtain ⟨W6, hW6⟩ : ∃ W6, W6 = W4.drew := ⟨_, rfl⟩
            have hb6 : Below W4.heap.size W4 W6 := by rw [hW6]; exact (Below.refl _ _).drew
            have A6 := Lib.hid (AX.out.below hb6)
            have y6 := (hb6.block g (Array.getElem?_eq_some_iff.1 YX.out.1).1).trans YX.out.1
            have b0 : W6.cell? ⟨b, 0, none⟩ = some (.pointer (some ⟨c, 0, none⟩)) := cellsB A6.out.cell 0
            have I6 := Lib.hid (And.intro b0 (And.intro (cellsB y6 0) (And.intro (cellsB y6 1) (cellsB y6 2))))
            have c6 := Lib.hid (A6.out.added hm GG.out k d0)
            have Y6 := Lib.hid y6
            have HW6 := Lib.hid hW6
            clear hW6 hb6 y6 b0
            refine region_go (fun w' => w'.cell? ⟨b, 0, none⟩ = some (.pointer (some ⟨c, 0, none⟩)) ∧ w'.cell? ⟨g, 0, none⟩ = some (.int .u64 k) ∧ w'.cell? ⟨g, 1, none⟩ = some (.int .u64 d0) ∧ w'.cell? ⟨g, 2, none⟩ = some (.slice none 0 0)) (by kernel_rfl) ?hS0 (fun hH => ?_)
            case hS0 =>
              rw [← HW6.out]; exact I6.out
            rw [← HW6.out] at hH ⊢
            refine kY 0 hH ?_
            repeat simp only [Act.put, uA1, uB1, uC1]
            refine kY 1 hH ?_
            repeat simp only [Act.put, uA1, uB1, uC1]
            refine kY 2 hH ?_
            repeat simp only [Act.put, uA1, uB1, uC1]
            refine kY 3 hH ?_
            repeat simp only [Act.put, uA1, uB1, uC1]
            refine kY 4 hH ?_
            repeat simp only [Act.put, uA1, uB1, uC1]
            refine spk 5 rfl (by decide +kernel) (by rfl) (fun K' hK => ?_)
            go_simp
            with_reducible refine c6.out.mono ?_
            rintro e w7 ⟨z7, F7, rfl, hA7, hm7⟩
            have y7 := (hm7.block g (Array.getElem?_eq_some_iff.1 Y6.out).1 YX.out.2.2.1).trans Y6.out
            try dsimp only
            refine hK.out _ _ ?hS (fun hH' => ?_)
            case hS =>
              exact ⟨cellsB hA7.cell 0, cellsB y7 0, cellsB y7 1, cellsB y7 2⟩
            clear hK K' hH; have hH := hH'; clear hH'; repeat simp only [Act.put, uA1, uB1, uC1]
            refine wpAnyH_done (by decide +kernel) ?_ _
            have A7 := Lib.hid hA7
            have Y7 := Lib.hid y7
            clear hH hA7 hm7 y7
            go_wp2_with fail
            obtain ⟨W8, hW8⟩ : ∃ W8, W8 = w7.drew := ⟨_, rfl⟩
            have hb8 : Below w7.heap.size w7 W8 := by rw [hW8]; exact (Below.refl _ _).drew
            have A8 := Lib.hid (A7.out.below hb8)
            have y8 := (hb8.block g (Array.getElem?_eq_some_iff.1 Y7.out).1).trans Y7.out
            have b2 : W8.cell? ⟨b, 2, none⟩ = some tv := cellsB A8.out.cell 2
            have e0 : W8.cell? ⟨g, 0, none⟩ = some (.int .u64 k) := cellsB y8 0
            have e1 : W8.cell? ⟨g, 1, none⟩ = some (.int .u64 d0) := cellsB y8 1
            have e2 : W8.cell? ⟨g, 2, none⟩ = some (.slice none 0 0) := cellsB y8 2
            obtain ⟨g9, cp9, w9, hrun9, hA9, hc9, hk9⟩ := A8.out.pushed k d0 (by omega)
            have y9 := (hk9 g (Array.getElem?_eq_some_iff.1 y8).1 YX.out.2.2.2.2).trans y8
            have z9 : w9.frozen? ⟨b, 2, none⟩ = false := by simp [World.frozen?, hc9]
            have b9 := cellsB hc9 2
            have I8 := Lib.hid (And.intro b2 (And.intro e0 (And.intro e1 e2)))
            have ba : Below W8.heap.size W8 (W8.alloc (.cells #[.int .u64 k, .int .u64 d0, .slice none 0 0] 38)) := (Below.refl _ _).alloc (Nat.le_refl _) _
            have I9 := Lib.hid (And.intro (below_cells ba b2) (And.intro (below_cells ba e0) (And.intro (below_cells ba e1) (below_cells ba e2))))
            have I10 := Lib.hid (show w9.cell? ⟨b, 2, none⟩ = some tv ∧ w9.cell? ⟨g, 0, none⟩ = some (.int .u64 k) ∧ w9.cell? ⟨g, 1, none⟩ = some (.int .u64 d0) ∧ w9.cell? ⟨g, 2, none⟩ = some (.slice none 0 0) from ⟨b9, cellsB y9 0, cellsB y9 1, cellsB y9 2⟩)
            have A9 := Lib.hid hA9
            have HW8 := Lib.hid hW8
            clear hW8 hb8 y8 b2 e0 e1 e2 hA9 hc9 hk9 y9 ba
            refine region_goN 10 (fun w' => w'.cell? ⟨b, 2, none⟩ = some tv ∧ w'.cell? ⟨g, 0, none⟩ = some (.int .u64 k) ∧ w'.cell? ⟨g, 1, none⟩ = some (.int .u64 d0) ∧ w'.cell? ⟨g, 2, none⟩ = some (.slice none 0 0)) (by kernel_rfl) ?hS0 (fun hH => ?_)
            case hS0 =>
              rw [← HW8.out]; exact I8.out
            rw [← HW8.out] at hH ⊢
            refine kYN 0 hH ?_
            repeat simp only [Act.put, uA1, uB1, uC1]
            refine kYN 1 hH ?_
            repeat simp only [Act.put, uA1, uB1, uC1]
            refine kYN 2 hH ?_
            repeat simp only [Act.put, uA1, uB1, uC1]
            refine kYN 3 hH ?_
            repeat simp only [Act.put, uA1, uB1, uC1]
            refine kYN 4 hH ?_
            repeat simp only [Act.put, uA1, uB1, uC1]
            refine kYN 5 hH ?_
            repeat simp only [Act.put, uA1, uB1, uC1]
            refine spkN 6 rfl (by decide) (by decide +kernel) (by rfl) (fun K' hK => ?_)
            go_simp
            try dsimp only
            refine hK.out _ _ ?hS (fun hH' => ?_)
            case hS =>
              exact I9.out
            clear hK K' hH; have hH := hH'; clear hH'; repeat simp only [Act.put, uA1, uB1, uC1]
            refine spkN 7 rfl (by decide) (by decide +kernel) (by rfl) (fun K' hK => ?_)
            with_reducible refine wp_append_eq hrun9 _ _ rfl rfl rfl ?_
            try dsimp only
            refine hK.out _ _ ?hS (fun hH' => ?_)
            case hS =>
              exact I10.out
            clear hK K' hH; have hH := hH'; clear hH'; repeat simp only [Act.put, uA1, uB1, uC1]
            refine spkN 8 rfl (by decide) (by decide +kernel) (by rfl) (fun K' hK => ?_)
            go_simp
            try dsimp only
            refine hK.out _ _ ?hS (fun hH' => ?_)
            case hS =>
              exact hH
            clear hK K' hH; have hH := hH'; clear hH'; repeat simp only [Act.put, uA1, uB1, uC1]
            refine kYN 9 hH ?_
            repeat simp only [Act.put, uA1, uB1, uC1]
            refine spkL rfl (by decide +kernel) (by rfl) (fun K' hK => ?_)
            go_simp
            try dsimp only
            refine hK.out _ _ ?_
            clear hK K' hH; repeat simp only [Act.put, uA1, uB1, uC1]
            refine anyBut_done (by decide +kernel) ?_ _
            go_wp2_with fail
            go_end0
            exact ⟨rfl, F7, _, _, by simp only [seeR, FF.out, HS.out, if_false]; rw [if_pos HOPE.out]; exact A9.out⟩

end Go.Proofs.YtpjbkaibgajpcaaGreat
