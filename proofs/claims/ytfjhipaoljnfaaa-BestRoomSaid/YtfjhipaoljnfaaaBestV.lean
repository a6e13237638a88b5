/-
  best's law: BestRoom.
-/
import Derived.Test.YtfjhipaoljnfaaaBestU
namespace Go.Proofs.Ytfjhipaoljnfaaa
open Go.RowKit

theorem HitsF.first {w : World} {F : Nat → Prop} {p : Option Addr} {n c : Nat} {l : List Hz} (h : HitsF w F (.slice p n c) l) {k : Nat} (hk : k ≤ l.length) : HitsF w F (.slice p k c) (l.take k) := by
  obtain ⟨p', cap, hv, h1, h2, h3, h4⟩ := h
  obtain ⟨rfl, rfl, rfl⟩ := Value.slice.inj hv
  have hl : (l.take k).length = k := by rw [List.length_take]; omega
  refine ⟨p, c, by rw [hl], by omega, h2, h3, fun i hi => ?_⟩
  obtain ⟨b, off, u, r⟩ := h4 i (by omega)
  exact ⟨b, off, u, by simpa [List.getElem_take] using r⟩

set_option maxHeartbeats 8000000 in
theorem bestRoom (a b : Int) (ha : 0 ≤ a ∧ a ≤ 255) (hb : 0 ≤ b ∧ b ≤ 255) (l0 : List Hz) (v : Value) (w : World) (h : HitsF w (fun _ => True) v l0) :
    Calls Try.prog 7 #[.int .u8 a, .int .u8 b, v] w fun e w' => e = .returned (.bool true) ∧ Below w.heap.size w w' := by
  have H := Lib.hid h
  obtain ⟨a1, a2⟩ := ha
  obtain ⟨b1, b2⟩ := hb
  clear h
  rcases Int.lt_trichotomy a b with hab | hab | hab
  · skip
    go_enter Try.func7, Try.ntmps7
    go_wp2_with fail
    refine (awake_true w).mono ?_
    rintro e w1 ⟨rfl, hb1⟩
    have B1 := Lib.hid hb1
    have RH := Lib.hid (show Calls Try.prog 12 #[v, .int .i64 60] w1 (NewHits w1 35 (hitsZ 60 l0)) from refHits 60 (by omega) l0 _ v w1 (H.out.below hb1))
    clear hb1
    go_wp2_with fail
    obtain ⟨n, hn, hn1, hn2⟩ : ∃ n : Nat, 1 + a % 40 = n ∧ 1 ≤ n ∧ n ≤ 40 := ⟨(1 + a % 40).toNat, by omega, by omega, by omega⟩
    obtain ⟨n', hn', hn3, hn4⟩ : ∃ n' : Nat, (n : Int) + b % 40 = n' ∧ n ≤ n' ∧ n' ≤ 80 := ⟨((n : Int) + b % 40).toNat, by omega, by omega, by omega⟩
    simp only [hn, hn']
    clear hn hn'
    refine RH.out.mono ?_
    rintro e wl ⟨vl, rs, rfl, ho, hh, hbl⟩
    have hl60 : (hitsZ 60 l0).length ≤ 60 := by rw [hitsZ_length]; omega
    have hx8 := Lib.hid (fun h (hh : h ∈ hitsZ 60 l0) => Nat.le_trans (hitsZ_vec hh) (show 8 ≤ 1000000 by omega))
    generalize hitsZ 60 l0 = l at *
    obtain ⟨p, pn, cap, rfl⟩ := own_form ho
    have hpn : pn = l.length := by
      have := HitsF.of_own (F := fun k => w1.heap.size ≤ k ∧ k < wl.heap.size) ho (fun b hb => ho.lt b hb) hh.rows
      obtain ⟨_, _, e, -⟩ := this
      exact (Value.slice.inj e).2.1
    subst hpn
    have BL := Lib.hid (B1.out.trans (hbl.mono B1.out.size))
    have O0 := Lib.hid (And.intro ho hh)
    clear ho hh hbl RH
    go_wp2_with fail
    go_loopg [37] l.length (fun q' i wr => ∃ (k : Nat) (rs : List Hv), q' = l.length - k ∧ k ≤ l.length ∧ i = .int .i64 k ∧ wr.ownsRow w1.heap.size 35 3 (.slice p l.length cap) rs.length (flat3 rs) ∧ Held3 wr w1.heap.size 21 rs (numZ l k) ∧ Below w.heap.size w wr)
    case atStart => exact ⟨0, rs, rfl, by omega, rfl, O0.out.1, by rw [numZ_zero]; exact O0.out.2, BL.out⟩
    case round =>
      obtain ⟨k, rs2, rfl, hk, rfl, ho, hh, hb⟩ := hrel
      have hlr : rs2.length = l.length := by rw [hh.len, numZ_length]
      by_cases hlt : k < l.length
      · obtain ⟨g, cg, hv, -, -⟩ := ho.form (by omega)
        obtain ⟨rfl, -, rfl⟩ := Value.slice.inj hv
        have hrow := ho
        have hflat := flat3_get rs2 k (by omega)
        have hthere := own_there ho rfl (k * 3) 1 (by omega)
        obtain ⟨hc0, hf0⟩ := hthere 0 (by omega)
        simp only [Nat.add_zero] at hc0 hf0
        obtain ⟨z0, hc0⟩ := Option.isSome_iff_exists.1 hc0
        have k0 : (0 : Int) ≤ (k : Int) := by omega
        have k1 : (k : Int) < (l.length : Int) := by omega
        have KK := Lib.hid (And.intro ho (And.intro hh hb))
        clear ho hh hb hrow hflat hthere
        go_wp2_with fail
        go_roundg (l.length - (k + 1))
        case measure => omega
        case rel =>
          have hg1 := KK.out.1
          have hsc := own_setCell hg1 rfl (o := k * 3) (by omega) (.int .u64 k)
          rw [flat3_set _ _ (by omega)] at hsc
          refine ⟨k + 1, rs2.set k ⟨k, rs2[k].dist, rs2[k].vec⟩, rfl, by omega, by go_num, by rw [List.length_set]; exact hsc, ?_, ?_⟩
          · have h1 := (KK.out.2.1.other hg1 (by decide) (show wr.grownBy (wr.setCell ⟨g, k * 3, none⟩ (.int .u64 k)) (some g) from grownBy_setCells g [_] (k * 3) wr)).set (k := k) (by omega) (by rw [numZ_length]; omega) k
            rw [numZ_set _ _ hlt, ← numZ_at l k hlt]
            exact h1
          · have := (hg1.lt g rfl).1
            have := B1.out.size
            exact KK.out.2.2.setCell (show w.heap.size ≤ g by omega) _
      · obtain rfl : k = l.length := by omega
        have hrd := HitsF.of_own (F := fun j => w1.heap.size ≤ j ∧ j < wr.heap.size) ho (fun b hb => ho.lt b hb) hh.rows
        have hml : (numZ l l.length).length = l.length := numZ_length _ _
        have hmv := Lib.hid (show ∀ h ∈ numZ l l.length, h.vec.length ≤ 1000000 from numZ_vec fun h hh => hx8.out h hh)
        have PL := Lib.hid (addsZ_all hn1 (numZ l l.length) (numZ_ids l)).1
        have PL' := Lib.hid (addsZ_all (n := n') (by omega) (numZ l l.length) (numZ_ids l)).1
        have HPM := Lib.hid (allZ_perm (numZ l l.length)).length_eq
        obtain ⟨m, hm⟩ : ∃ m, m = numZ l l.length := ⟨_, rfl⟩
        rw [← hm] at hml hmv PL PL' hrd HPM
        clear hm
        rw [← hml] at hrd
        have B2 := Lib.hid hb
        have RD := Lib.hid hrd
        have hE := Lib.hid (show ∀ ms ∈ [m], ms.length ≤ 1000000 ∧ ∀ h ∈ ms, h.vec.length ≤ 1000000 from fun ms hm => by rw [List.mem_singleton.1 hm]; exact ⟨by omega, hmv.out⟩)
        have hone := one_list hrd
        rw [hml] at hone
        have MG := Lib.hid (merge n hn1 (by omega) [m] _ _ _ hone (fun j hj => by
          simp
          rcases hj with rfl | hj
          · omega
          · omega) hE.out)
        have hs1 := hb.size
        have B3 := Lib.hid ((Below.refl wr.heap.size wr).alloc (Nat.le_refl _) (.cells #[.slice p l.length cap] 22))
        clear ho hh hb hrd O0 BL hx8 hone
        go_wp2_with fail
        refine MG.out.mono ?_
        rintro e W ⟨v2, rfl, hm2, hb2⟩
        have BW := Lib.hid (B3.out.trans (hb2.mono B3.out.size))
        obtain ⟨p2, cap2, rfl, hc2, -, -, -⟩ := id hm2
        have M2 := Lib.hid hm2
        have hone := one_list (RD.out.below BW.out)
        rw [hml] at hone
        have MG2 := Lib.hid (merge n' (by omega) (by omega) [m] _ _ _ hone (fun j hj => by
          have := BW.out.size
          simp
          rcases hj with rfl | hj
          · omega
          · omega) hE.out)
        have B4 := Lib.hid ((Below.refl W.heap.size W).alloc (Nat.le_refl _) (.cells #[.slice p l.length cap] 22))
        clear hm2 hb2 hone MG
        go_wp2_with fail
        with_reducible refine MG2.out.mono ?_
        rintro e W2 ⟨v3, rfl, hm3, hb3⟩
        obtain ⟨p3, cap3, rfl, hc3, -, -, -⟩ := id hm3
        have BW2 := Lib.hid (B4.out.trans (hb3.mono B4.out.size))
        have BZ := Lib.hid (B2.out.trans ((BW.out.trans (BW2.out.mono BW.out.size)).mono hs1))
        have hPQ : mergeZ n [m] = (mergeZ n' [m]).take n := by
          show (addsZ n [] m).2 = (addsZ n' [] m).2.take n
          rw [PL.out, PL'.out, List.take_take, Nat.min_eq_left hn3]
        have hPl : (mergeZ n [m]).length = min n l.length := by
          show (addsZ n [] m).2.length = _
          rw [PL.out, List.length_take, HPM.out, hml]
        have hQl : (mergeZ n' [m]).length = min n' l.length := by
          show (addsZ n' [] m).2.length = _
          rw [PL'.out, List.length_take, HPM.out, hml]
        have P2 := Lib.hid (M2.out.below BW2.out)
        have Q2 := Lib.hid (hm3.first (k := (mergeZ n [m]).length) (by omega))
        rw [show (mergeZ n' [m]).take (mergeZ n [m]).length = mergeZ n [m] from by rw [hPQ, List.length_take]; apply List.take_eq_take_iff.2; omega] at Q2
        clear hm3 hb3 MG2 M2 PL PL' HPM hE hmv RD B2 B3 B4 BW BW2
        generalize mergeZ n [m] = P at *
        generalize mergeZ n' [m] = Q at *
        by_cases c1 : (l.length : Int) < n
        · have c2 : (l.length : Int) < n' := by omega
          have l0 : (0 : Int) ≤ (P.length : Int) := by omega
          have l1 : (P.length : Int) ≤ (cap3 : Int) := by omega
          have l2 : ((P.length : Int) == (l.length)) = true := by simp; omega
          have l3 : ((Q.length : Int) == (l.length)) = true := by simp; omega
          clear hPl hQl hPQ
          go_wp2_with fail
          refine (sameHits _ _ P P _ _ _ P2.out Q2.out).mono ?_
          rintro e w9 ⟨rfl, hd9⟩
          have BF := Lib.hid (BZ.out.trans (hd9.below.mono BZ.out.size))
          rw [decide_eq_true (Eq.refl P)]
          clear hd9
          go_wp2_with fail
          go_ret
          exact ⟨rfl, BF.out⟩
        · by_cases c2 : (l.length : Int) < n'
          · skip
            have l0 : (0 : Int) ≤ (P.length : Int) := by omega
            have l1 : (P.length : Int) ≤ (cap3 : Int) := by omega
            have l2 : ((P.length : Int) == (n)) = true := by simp; omega
            have l3 : ((Q.length : Int) == (l.length)) = true := by simp; omega
            clear hPl hQl hPQ
            go_wp2_with fail
            refine (sameHits _ _ P P _ _ _ P2.out Q2.out).mono ?_
            rintro e w9 ⟨rfl, hd9⟩
            have BF := Lib.hid (BZ.out.trans (hd9.below.mono BZ.out.size))
            rw [decide_eq_true (Eq.refl P)]
            clear hd9
            go_wp2_with fail
            go_ret
            exact ⟨rfl, BF.out⟩
          · skip
            have l0 : (0 : Int) ≤ (P.length : Int) := by omega
            have l1 : (P.length : Int) ≤ (cap3 : Int) := by omega
            have l2 : ((P.length : Int) == (n)) = true := by simp; omega
            have l3 : ((Q.length : Int) == (n')) = true := by simp; omega
            clear hPl hQl hPQ
            go_wp2_with fail
            refine (sameHits _ _ P P _ _ _ P2.out Q2.out).mono ?_
            rintro e w9 ⟨rfl, hd9⟩
            have BF := Lib.hid (BZ.out.trans (hd9.below.mono BZ.out.size))
            rw [decide_eq_true (Eq.refl P)]
            clear hd9
            go_wp2_with fail
            go_ret
            exact ⟨rfl, BF.out⟩
  · subst hab
    go_enter Try.func7, Try.ntmps7
    go_wp2_with fail
    refine (awake_true w).mono ?_
    rintro e w1 ⟨rfl, hb1⟩
    have B1 := Lib.hid hb1
    have RH := Lib.hid (show Calls Try.prog 12 #[v, .int .i64 60] w1 (NewHits w1 35 (hitsZ 60 l0)) from refHits 60 (by omega) l0 _ v w1 (H.out.below hb1))
    clear hb1
    go_wp2_with fail
    obtain ⟨n, hn, hn1, hn2⟩ : ∃ n : Nat, 1 + a % 40 = n ∧ 1 ≤ n ∧ n ≤ 40 := ⟨(1 + a % 40).toNat, by omega, by omega, by omega⟩
    obtain ⟨n', hn', hn3, hn4⟩ : ∃ n' : Nat, (n : Int) + a % 40 = n' ∧ n ≤ n' ∧ n' ≤ 80 := ⟨((n : Int) + a % 40).toNat, by omega, by omega, by omega⟩
    simp only [hn, hn']
    clear hn hn'
    refine RH.out.mono ?_
    rintro e wl ⟨vl, rs, rfl, ho, hh, hbl⟩
    have hl60 : (hitsZ 60 l0).length ≤ 60 := by rw [hitsZ_length]; omega
    have hx8 := Lib.hid (fun h (hh : h ∈ hitsZ 60 l0) => Nat.le_trans (hitsZ_vec hh) (show 8 ≤ 1000000 by omega))
    generalize hitsZ 60 l0 = l at *
    obtain ⟨p, pn, cap, rfl⟩ := own_form ho
    have hpn : pn = l.length := by
      have := HitsF.of_own (F := fun k => w1.heap.size ≤ k ∧ k < wl.heap.size) ho (fun b hb => ho.lt b hb) hh.rows
      obtain ⟨_, _, e, -⟩ := this
      exact (Value.slice.inj e).2.1
    subst hpn
    have BL := Lib.hid (B1.out.trans (hbl.mono B1.out.size))
    have O0 := Lib.hid (And.intro ho hh)
    clear ho hh hbl RH
    go_wp2_with fail
    go_loopg [37] l.length (fun q' i wr => ∃ (k : Nat) (rs : List Hv), q' = l.length - k ∧ k ≤ l.length ∧ i = .int .i64 k ∧ wr.ownsRow w1.heap.size 35 3 (.slice p l.length cap) rs.length (flat3 rs) ∧ Held3 wr w1.heap.size 21 rs (numZ l k) ∧ Below w.heap.size w wr)
    case atStart => exact ⟨0, rs, rfl, by omega, rfl, O0.out.1, by rw [numZ_zero]; exact O0.out.2, BL.out⟩
    case round =>
      obtain ⟨k, rs2, rfl, hk, rfl, ho, hh, hb⟩ := hrel
      have hlr : rs2.length = l.length := by rw [hh.len, numZ_length]
      by_cases hlt : k < l.length
      · obtain ⟨g, cg, hv, -, -⟩ := ho.form (by omega)
        obtain ⟨rfl, -, rfl⟩ := Value.slice.inj hv
        have hrow := ho
        have hflat := flat3_get rs2 k (by omega)
        have hthere := own_there ho rfl (k * 3) 1 (by omega)
        obtain ⟨hc0, hf0⟩ := hthere 0 (by omega)
        simp only [Nat.add_zero] at hc0 hf0
        obtain ⟨z0, hc0⟩ := Option.isSome_iff_exists.1 hc0
        have k0 : (0 : Int) ≤ (k : Int) := by omega
        have k1 : (k : Int) < (l.length : Int) := by omega
        have KK := Lib.hid (And.intro ho (And.intro hh hb))
        clear ho hh hb hrow hflat hthere
        go_wp2_with fail
        go_roundg (l.length - (k + 1))
        case measure => omega
        case rel =>
          have hg1 := KK.out.1
          have hsc := own_setCell hg1 rfl (o := k * 3) (by omega) (.int .u64 k)
          rw [flat3_set _ _ (by omega)] at hsc
          refine ⟨k + 1, rs2.set k ⟨k, rs2[k].dist, rs2[k].vec⟩, rfl, by omega, by go_num, by rw [List.length_set]; exact hsc, ?_, ?_⟩
          · have h1 := (KK.out.2.1.other hg1 (by decide) (show wr.grownBy (wr.setCell ⟨g, k * 3, none⟩ (.int .u64 k)) (some g) from grownBy_setCells g [_] (k * 3) wr)).set (k := k) (by omega) (by rw [numZ_length]; omega) k
            rw [numZ_set _ _ hlt, ← numZ_at l k hlt]
            exact h1
          · have := (hg1.lt g rfl).1
            have := B1.out.size
            exact KK.out.2.2.setCell (show w.heap.size ≤ g by omega) _
      · obtain rfl : k = l.length := by omega
        have hrd := HitsF.of_own (F := fun j => w1.heap.size ≤ j ∧ j < wr.heap.size) ho (fun b hb => ho.lt b hb) hh.rows
        have hml : (numZ l l.length).length = l.length := numZ_length _ _
        have hmv := Lib.hid (show ∀ h ∈ numZ l l.length, h.vec.length ≤ 1000000 from numZ_vec fun h hh => hx8.out h hh)
        have PL := Lib.hid (addsZ_all hn1 (numZ l l.length) (numZ_ids l)).1
        have PL' := Lib.hid (addsZ_all (n := n') (by omega) (numZ l l.length) (numZ_ids l)).1
        have HPM := Lib.hid (allZ_perm (numZ l l.length)).length_eq
        obtain ⟨m, hm⟩ : ∃ m, m = numZ l l.length := ⟨_, rfl⟩
        rw [← hm] at hml hmv PL PL' hrd HPM
        clear hm
        rw [← hml] at hrd
        have B2 := Lib.hid hb
        have RD := Lib.hid hrd
        have hE := Lib.hid (show ∀ ms ∈ [m], ms.length ≤ 1000000 ∧ ∀ h ∈ ms, h.vec.length ≤ 1000000 from fun ms hm => by rw [List.mem_singleton.1 hm]; exact ⟨by omega, hmv.out⟩)
        have hone := one_list hrd
        rw [hml] at hone
        have MG := Lib.hid (merge n hn1 (by omega) [m] _ _ _ hone (fun j hj => by
          simp
          rcases hj with rfl | hj
          · omega
          · omega) hE.out)
        have hs1 := hb.size
        have B3 := Lib.hid ((Below.refl wr.heap.size wr).alloc (Nat.le_refl _) (.cells #[.slice p l.length cap] 22))
        clear ho hh hb hrd O0 BL hx8 hone
        go_wp2_with fail
        refine MG.out.mono ?_
        rintro e W ⟨v2, rfl, hm2, hb2⟩
        have BW := Lib.hid (B3.out.trans (hb2.mono B3.out.size))
        obtain ⟨p2, cap2, rfl, hc2, -, -, -⟩ := id hm2
        have M2 := Lib.hid hm2
        have hone := one_list (RD.out.below BW.out)
        rw [hml] at hone
        have MG2 := Lib.hid (merge n' (by omega) (by omega) [m] _ _ _ hone (fun j hj => by
          have := BW.out.size
          simp
          rcases hj with rfl | hj
          · omega
          · omega) hE.out)
        have B4 := Lib.hid ((Below.refl W.heap.size W).alloc (Nat.le_refl _) (.cells #[.slice p l.length cap] 22))
        clear hm2 hb2 hone MG
        go_wp2_with fail
        with_reducible refine MG2.out.mono ?_
        rintro e W2 ⟨v3, rfl, hm3, hb3⟩
        obtain ⟨p3, cap3, rfl, hc3, -, -, -⟩ := id hm3
        have BW2 := Lib.hid (B4.out.trans (hb3.mono B4.out.size))
        have BZ := Lib.hid (B2.out.trans ((BW.out.trans (BW2.out.mono BW.out.size)).mono hs1))
        have hPQ : mergeZ n [m] = (mergeZ n' [m]).take n := by
          show (addsZ n [] m).2 = (addsZ n' [] m).2.take n
          rw [PL.out, PL'.out, List.take_take, Nat.min_eq_left hn3]
        have hPl : (mergeZ n [m]).length = min n l.length := by
          show (addsZ n [] m).2.length = _
          rw [PL.out, List.length_take, HPM.out, hml]
        have hQl : (mergeZ n' [m]).length = min n' l.length := by
          show (addsZ n' [] m).2.length = _
          rw [PL'.out, List.length_take, HPM.out, hml]
        have P2 := Lib.hid (M2.out.below BW2.out)
        have Q2 := Lib.hid (hm3.first (k := (mergeZ n [m]).length) (by omega))
        rw [show (mergeZ n' [m]).take (mergeZ n [m]).length = mergeZ n [m] from by rw [hPQ, List.length_take]; apply List.take_eq_take_iff.2; omega] at Q2
        clear hm3 hb3 MG2 M2 PL PL' HPM hE hmv RD B2 B3 B4 BW BW2
        generalize mergeZ n [m] = P at *
        generalize mergeZ n' [m] = Q at *
        by_cases c1 : (l.length : Int) < n
        · have c2 : (l.length : Int) < n' := by omega
          have l0 : (0 : Int) ≤ (P.length : Int) := by omega
          have l1 : (P.length : Int) ≤ (cap3 : Int) := by omega
          have l2 : ((P.length : Int) == (l.length)) = true := by simp; omega
          have l3 : ((Q.length : Int) == (l.length)) = true := by simp; omega
          clear hPl hQl hPQ
          go_wp2_with fail
          refine (sameHits _ _ P P _ _ _ P2.out Q2.out).mono ?_
          rintro e w9 ⟨rfl, hd9⟩
          have BF := Lib.hid (BZ.out.trans (hd9.below.mono BZ.out.size))
          rw [decide_eq_true (Eq.refl P)]
          clear hd9
          go_wp2_with fail
          go_ret
          exact ⟨rfl, BF.out⟩
        · by_cases c2 : (l.length : Int) < n'
          · skip
            have l0 : (0 : Int) ≤ (P.length : Int) := by omega
            have l1 : (P.length : Int) ≤ (cap3 : Int) := by omega
            have l2 : ((P.length : Int) == (n)) = true := by simp; omega
            have l3 : ((Q.length : Int) == (l.length)) = true := by simp; omega
            clear hPl hQl hPQ
            go_wp2_with fail
            refine (sameHits _ _ P P _ _ _ P2.out Q2.out).mono ?_
            rintro e w9 ⟨rfl, hd9⟩
            have BF := Lib.hid (BZ.out.trans (hd9.below.mono BZ.out.size))
            rw [decide_eq_true (Eq.refl P)]
            clear hd9
            go_wp2_with fail
            go_ret
            exact ⟨rfl, BF.out⟩
          · skip
            have l0 : (0 : Int) ≤ (P.length : Int) := by omega
            have l1 : (P.length : Int) ≤ (cap3 : Int) := by omega
            have l2 : ((P.length : Int) == (n)) = true := by simp; omega
            have l3 : ((Q.length : Int) == (n')) = true := by simp; omega
            clear hPl hQl hPQ
            go_wp2_with fail
            refine (sameHits _ _ P P _ _ _ P2.out Q2.out).mono ?_
            rintro e w9 ⟨rfl, hd9⟩
            have BF := Lib.hid (BZ.out.trans (hd9.below.mono BZ.out.size))
            rw [decide_eq_true (Eq.refl P)]
            clear hd9
            go_wp2_with fail
            go_ret
            exact ⟨rfl, BF.out⟩
  · skip
    go_enter Try.func7, Try.ntmps7
    go_wp2_with fail
    refine (awake_true w).mono ?_
    rintro e w1 ⟨rfl, hb1⟩
    have B1 := Lib.hid hb1
    have RH := Lib.hid (show Calls Try.prog 12 #[v, .int .i64 60] w1 (NewHits w1 35 (hitsZ 60 l0)) from refHits 60 (by omega) l0 _ v w1 (H.out.below hb1))
    clear hb1
    go_wp2_with fail
    obtain ⟨n, hn, hn1, hn2⟩ : ∃ n : Nat, 1 + b % 40 = n ∧ 1 ≤ n ∧ n ≤ 40 := ⟨(1 + b % 40).toNat, by omega, by omega, by omega⟩
    obtain ⟨n', hn', hn3, hn4⟩ : ∃ n' : Nat, (n : Int) + a % 40 = n' ∧ n ≤ n' ∧ n' ≤ 80 := ⟨((n : Int) + a % 40).toNat, by omega, by omega, by omega⟩
    simp only [hn, hn']
    clear hn hn'
    refine RH.out.mono ?_
    rintro e wl ⟨vl, rs, rfl, ho, hh, hbl⟩
    have hl60 : (hitsZ 60 l0).length ≤ 60 := by rw [hitsZ_length]; omega
    have hx8 := Lib.hid (fun h (hh : h ∈ hitsZ 60 l0) => Nat.le_trans (hitsZ_vec hh) (show 8 ≤ 1000000 by omega))
    generalize hitsZ 60 l0 = l at *
    obtain ⟨p, pn, cap, rfl⟩ := own_form ho
    have hpn : pn = l.length := by
      have := HitsF.of_own (F := fun k => w1.heap.size ≤ k ∧ k < wl.heap.size) ho (fun b hb => ho.lt b hb) hh.rows
      obtain ⟨_, _, e, -⟩ := this
      exact (Value.slice.inj e).2.1
    subst hpn
    have BL := Lib.hid (B1.out.trans (hbl.mono B1.out.size))
    have O0 := Lib.hid (And.intro ho hh)
    clear ho hh hbl RH
    go_wp2_with fail
    go_loopg [37] l.length (fun q' i wr => ∃ (k : Nat) (rs : List Hv), q' = l.length - k ∧ k ≤ l.length ∧ i = .int .i64 k ∧ wr.ownsRow w1.heap.size 35 3 (.slice p l.length cap) rs.length (flat3 rs) ∧ Held3 wr w1.heap.size 21 rs (numZ l k) ∧ Below w.heap.size w wr)
    case atStart => exact ⟨0, rs, rfl, by omega, rfl, O0.out.1, by rw [numZ_zero]; exact O0.out.2, BL.out⟩
    case round =>
      obtain ⟨k, rs2, rfl, hk, rfl, ho, hh, hb⟩ := hrel
      have hlr : rs2.length = l.length := by rw [hh.len, numZ_length]
      by_cases hlt : k < l.length
      · obtain ⟨g, cg, hv, -, -⟩ := ho.form (by omega)
        obtain ⟨rfl, -, rfl⟩ := Value.slice.inj hv
        have hrow := ho
        have hflat := flat3_get rs2 k (by omega)
        have hthere := own_there ho rfl (k * 3) 1 (by omega)
        obtain ⟨hc0, hf0⟩ := hthere 0 (by omega)
        simp only [Nat.add_zero] at hc0 hf0
        obtain ⟨z0, hc0⟩ := Option.isSome_iff_exists.1 hc0
        have k0 : (0 : Int) ≤ (k : Int) := by omega
        have k1 : (k : Int) < (l.length : Int) := by omega
        have KK := Lib.hid (And.intro ho (And.intro hh hb))
        clear ho hh hb hrow hflat hthere
        go_wp2_with fail
        go_roundg (l.length - (k + 1))
        case measure => omega
        case rel =>
          have hg1 := KK.out.1
          have hsc := own_setCell hg1 rfl (o := k * 3) (by omega) (.int .u64 k)
          rw [flat3_set _ _ (by omega)] at hsc
          refine ⟨k + 1, rs2.set k ⟨k, rs2[k].dist, rs2[k].vec⟩, rfl, by omega, by go_num, by rw [List.length_set]; exact hsc, ?_, ?_⟩
          · have h1 := (KK.out.2.1.other hg1 (by decide) (show wr.grownBy (wr.setCell ⟨g, k * 3, none⟩ (.int .u64 k)) (some g) from grownBy_setCells g [_] (k * 3) wr)).set (k := k) (by omega) (by rw [numZ_length]; omega) k
            rw [numZ_set _ _ hlt, ← numZ_at l k hlt]
            exact h1
          · have := (hg1.lt g rfl).1
            have := B1.out.size
            exact KK.out.2.2.setCell (show w.heap.size ≤ g by omega) _
      · obtain rfl : k = l.length := by omega
        have hrd := HitsF.of_own (F := fun j => w1.heap.size ≤ j ∧ j < wr.heap.size) ho (fun b hb => ho.lt b hb) hh.rows
        have hml : (numZ l l.length).length = l.length := numZ_length _ _
        have hmv := Lib.hid (show ∀ h ∈ numZ l l.length, h.vec.length ≤ 1000000 from numZ_vec fun h hh => hx8.out h hh)
        have PL := Lib.hid (addsZ_all hn1 (numZ l l.length) (numZ_ids l)).1
        have PL' := Lib.hid (addsZ_all (n := n') (by omega) (numZ l l.length) (numZ_ids l)).1
        have HPM := Lib.hid (allZ_perm (numZ l l.length)).length_eq
        obtain ⟨m, hm⟩ : ∃ m, m = numZ l l.length := ⟨_, rfl⟩
        rw [← hm] at hml hmv PL PL' hrd HPM
        clear hm
        rw [← hml] at hrd
        have B2 := Lib.hid hb
        have RD := Lib.hid hrd
        have hE := Lib.hid (show ∀ ms ∈ [m], ms.length ≤ 1000000 ∧ ∀ h ∈ ms, h.vec.length ≤ 1000000 from fun ms hm => by rw [List.mem_singleton.1 hm]; exact ⟨by omega, hmv.out⟩)
        have hone := one_list hrd
        rw [hml] at hone
        have MG := Lib.hid (merge n hn1 (by omega) [m] _ _ _ hone (fun j hj => by
          simp
          rcases hj with rfl | hj
          · omega
          · omega) hE.out)
        have hs1 := hb.size
        have B3 := Lib.hid ((Below.refl wr.heap.size wr).alloc (Nat.le_refl _) (.cells #[.slice p l.length cap] 22))
        clear ho hh hb hrd O0 BL hx8 hone
        go_wp2_with fail
        refine MG.out.mono ?_
        rintro e W ⟨v2, rfl, hm2, hb2⟩
        have BW := Lib.hid (B3.out.trans (hb2.mono B3.out.size))
        obtain ⟨p2, cap2, rfl, hc2, -, -, -⟩ := id hm2
        have M2 := Lib.hid hm2
        have hone := one_list (RD.out.below BW.out)
        rw [hml] at hone
        have MG2 := Lib.hid (merge n' (by omega) (by omega) [m] _ _ _ hone (fun j hj => by
          have := BW.out.size
          simp
          rcases hj with rfl | hj
          · omega
          · omega) hE.out)
        have B4 := Lib.hid ((Below.refl W.heap.size W).alloc (Nat.le_refl _) (.cells #[.slice p l.length cap] 22))
        clear hm2 hb2 hone MG
        go_wp2_with fail
        with_reducible refine MG2.out.mono ?_
        rintro e W2 ⟨v3, rfl, hm3, hb3⟩
        obtain ⟨p3, cap3, rfl, hc3, -, -, -⟩ := id hm3
        have BW2 := Lib.hid (B4.out.trans (hb3.mono B4.out.size))
        have BZ := Lib.hid (B2.out.trans ((BW.out.trans (BW2.out.mono BW.out.size)).mono hs1))
        have hPQ : mergeZ n [m] = (mergeZ n' [m]).take n := by
          show (addsZ n [] m).2 = (addsZ n' [] m).2.take n
          rw [PL.out, PL'.out, List.take_take, Nat.min_eq_left hn3]
        have hPl : (mergeZ n [m]).length = min n l.length := by
          show (addsZ n [] m).2.length = _
          rw [PL.out, List.length_take, HPM.out, hml]
        have hQl : (mergeZ n' [m]).length = min n' l.length := by
          show (addsZ n' [] m).2.length = _
          rw [PL'.out, List.length_take, HPM.out, hml]
        have P2 := Lib.hid (M2.out.below BW2.out)
        have Q2 := Lib.hid (hm3.first (k := (mergeZ n [m]).length) (by omega))
        rw [show (mergeZ n' [m]).take (mergeZ n [m]).length = mergeZ n [m] from by rw [hPQ, List.length_take]; apply List.take_eq_take_iff.2; omega] at Q2
        clear hm3 hb3 MG2 M2 PL PL' HPM hE hmv RD B2 B3 B4 BW BW2
        generalize mergeZ n [m] = P at *
        generalize mergeZ n' [m] = Q at *
        by_cases c1 : (l.length : Int) < n
        · have c2 : (l.length : Int) < n' := by omega
          have l0 : (0 : Int) ≤ (P.length : Int) := by omega
          have l1 : (P.length : Int) ≤ (cap3 : Int) := by omega
          have l2 : ((P.length : Int) == (l.length)) = true := by simp; omega
          have l3 : ((Q.length : Int) == (l.length)) = true := by simp; omega
          clear hPl hQl hPQ
          go_wp2_with fail
          refine (sameHits _ _ P P _ _ _ P2.out Q2.out).mono ?_
          rintro e w9 ⟨rfl, hd9⟩
          have BF := Lib.hid (BZ.out.trans (hd9.below.mono BZ.out.size))
          rw [decide_eq_true (Eq.refl P)]
          clear hd9
          go_wp2_with fail
          go_ret
          exact ⟨rfl, BF.out⟩
        · by_cases c2 : (l.length : Int) < n'
          · skip
            have l0 : (0 : Int) ≤ (P.length : Int) := by omega
            have l1 : (P.length : Int) ≤ (cap3 : Int) := by omega
            have l2 : ((P.length : Int) == (n)) = true := by simp; omega
            have l3 : ((Q.length : Int) == (l.length)) = true := by simp; omega
            clear hPl hQl hPQ
            go_wp2_with fail
            refine (sameHits _ _ P P _ _ _ P2.out Q2.out).mono ?_
            rintro e w9 ⟨rfl, hd9⟩
            have BF := Lib.hid (BZ.out.trans (hd9.below.mono BZ.out.size))
            rw [decide_eq_true (Eq.refl P)]
            clear hd9
            go_wp2_with fail
            go_ret
            exact ⟨rfl, BF.out⟩
          · skip
            have l0 : (0 : Int) ≤ (P.length : Int) := by omega
            have l1 : (P.length : Int) ≤ (cap3 : Int) := by omega
            have l2 : ((P.length : Int) == (n)) = true := by simp; omega
            have l3 : ((Q.length : Int) == (n')) = true := by simp; omega
            clear hPl hQl hPQ
            go_wp2_with fail
            refine (sameHits _ _ P P _ _ _ P2.out Q2.out).mono ?_
            rintro e w9 ⟨rfl, hd9⟩
            have BF := Lib.hid (BZ.out.trans (hd9.below.mono BZ.out.size))
            rw [decide_eq_true (Eq.refl P)]
            clear hd9
            go_wp2_with fail
            go_ret
            exact ⟨rfl, BF.out⟩

end Go.Proofs.Ytfjhipaoljnfaaa
