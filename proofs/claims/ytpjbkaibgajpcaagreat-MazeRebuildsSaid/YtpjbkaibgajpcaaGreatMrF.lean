/- maze's document: Rebuild. -/
import Derived.Test.YtpjbkaibgajpcaaGreatMzT
namespace Go.Proofs.YtpjbkaibgajpcaaGreat
open Go.RowKit Go.ChangeMaps
set_option maxRecDepth 20000

theorem uniq_take (ks : List Int) (j : Nat) (hj : j < ks.length) : uniqZ (ks.take (j + 1)) = if ks[j] ∈ uniqZ (ks.take j) then uniqZ (ks.take j) else putZ (uniqZ (ks.take j)) ks[j] := by
  rw [List.take_succ_eq_append_getElem hj, uniq_snoc]

theorem mem_step {l : List Int} {k : Int} {i : Nat} (hi : i < l.length) : k ∈ l.take (i + 1) ↔ k ∈ l.take i ∨ l[i] = k := by
  rw [List.take_succ_eq_append_getElem hi, List.mem_append, List.mem_singleton]
  exact ⟨fun h => h.imp id Eq.symm, fun h => h.imp id Eq.symm⟩

def RRebTells (w : World) (dim : Int) (r : Mz) (e : Ending) (w' : World) : Prop :=
  ∃ x c vn ve lv rs, e = .returned (.pointer (some ⟨x, 0, none⟩)) ∧ RzAt w.heap.size w' x c dim vn ve lv rs r ∧ Below w.heap.size w w'


set_option maxRecDepth 100000 in
set_option maxHeartbeats 8000000 in
theorem rRebuild {B : Nat} {w : World} {x c : Nat} {dim : Int} {vn ve lv : Value} {rs : List Hv} {s : Mz} (h : RzAt B w x c dim vn ve lv rs s) (ok : OkM dim s) (hd : 1 ≤ dim ∧ dim ≤ 8) (kv : Value) (ks : List Int) (hk : Nums w .u64 kv ks) (hl : ks.length ≤ 800) :
    Calls Tryz.prog 32 #[.pointer (some ⟨x, 0, none⟩), kv] w (RRebTells w dim (rebM dim s ks)) := by
  have c0 := cellsB h.cell 0
  have H := Lib.hid h
  have OK := Lib.hid ok
  have K := Lib.hid hk
  have DM := Lib.hid hd.1
  have cN := Lib.hid (rNew w dim)
  obtain ⟨kp, kc, rfl, -, -, -, -⟩ := hk.slice
  have KL := Lib.hid hl
  have hk63 : ks.length ≤ 9223372036854775807 := by omega
  clear h ok hk hd hl
  go_enter Tryz.func32, Tryz.ntmps32
  go_wp2_with fail
  (with_reducible refine cN.out.mono ?_)
  rintro e w1 ⟨x1, c1, rfl, hX1, hb1⟩
  have X1 := Lib.hid hX1
  have B1 := Lib.hid hb1
  have K1 := Lib.hid (K.out.below hb1)
  clear hX1 hb1 c0
  go_wp2_with fail
  go_loopg [6, 22] ks.length (fun q' l0 i wr => ∃ (j : Nat) (lq : Value), q' = ks.length - j ∧ j ≤ ks.length ∧ i = .int .i64 j ∧ lq = l0 ∧ wr.ownsRow w1.heap.size 36 1 lq (uniqZ (ks.take j)).length ((uniqZ (ks.take j)).map (Value.int .u64)) ∧ Below w1.heap.size w1 wr)
  case atStart => exact ⟨0, _, rfl, by omega, rfl, rfl, by simpa [uniqZ] using World.ownsRow_nil _ _ _ _, Below.refl _ _⟩
  case round =>
    obtain ⟨j, lq, rfl, hj, rfl, rfl, hO, hb⟩ := hrel
    obtain ⟨wo, rfl⟩ : ∃ wo : World, wo = wr := ⟨_, rfl⟩
    by_cases hlt : j < ks.length
    · obtain ⟨b5, o5, rfl, e5⟩ := (K1.out.below hb).elem hlt
      have hst := uniq_take ks j hlt
      have hlen := (uniq_of (ks.take j)).2.2
      rw [List.length_take] at hlen
      obtain ⟨k, hk⟩ : ∃ k, k = ks[j] := ⟨_, rfl⟩
      rw [← hk] at e5 hst
      obtain ⟨l, hl⟩ : ∃ l, l = uniqZ (ks.take j) := ⟨_, rfl⟩
      rw [← hl] at hO hst hlen
      have hl8 : l.length ≤ 800 := by have := KL.out; omega
      have hl63 : l.length ≤ 9223372036854775807 := by omega
      obtain ⟨lp, ln, lc, rfl⟩ := own_form hO
      obtain rfl : ln = l.length := own_len hO
      have cP := Lib.hid (dPut wo _ _ l k hO (by omega))
      have ST := Lib.hid hst
      have O := Lib.hid hO
      have BB := Lib.hid hb
      clear hst hlen hk hl hO hb
      go_wp2_with fail
      go_loopg [9, 28] l.length (fun q' th i wu => ∃ i' : Nat, q' = l.length - i' ∧ i' ≤ l.length ∧ i = .int .i64 i' ∧ th = .bool (decide (k ∈ l.take i')) ∧ wu = wo)
      case atStart => exact ⟨0, rfl, by omega, rfl, by simp, rfl⟩
      case round =>
        obtain ⟨i', rfl, hi', rfl, rfl, rfl⟩ := hrel
        by_cases hlt2 : i' < l.length
        · obtain ⟨g, rfl, e0⟩ := row_cellU O.out hlt2
          have hms := mem_step (k := k) hlt2
          obtain ⟨y, hy⟩ : ∃ y, y = l[i'] := ⟨_, rfl⟩
          rw [← hy] at e0 hms
          have MS := Lib.hid hms
          clear hy hms
          by_cases hm : k ∈ l.take i'
          · have hm2 : decide (k ∈ l.take (i' + 1)) = true := decide_eq_true (MS.out.2 (.inl hm))
            rw [decide_eq_true hm]
            have HM := Lib.hid hm2
            clear hm hm2
            go_wp2_with fail
            go_roundg (l.length - (i' + 1))
            case measure => omega
            case rel => exact ⟨i' + 1, rfl, by omega, by go_num, by rw [HM.out], rfl⟩
          · rw [decide_eq_false hm]
            by_cases hyk : y = k
            · have HM := Lib.hid (show decide (k ∈ l.take (i' + 1)) = true from decide_eq_true (MS.out.2 (.inr hyk)))
              subst hyk
              clear hm
              go_wp2_with fail
              go_roundg (l.length - (i' + 1))
              case measure => omega
              case rel => exact ⟨i' + 1, rfl, by omega, by go_num, by rw [HM.out], rfl⟩
            · have HM := Lib.hid (show decide (k ∈ l.take (i' + 1)) = false from decide_eq_false fun h => (MS.out.1 h).elim hm hyk)
              have hyb : (y == k) = false := by simpa using hyk
              clear hm
              go_wp2_with fail
              go_roundg (l.length - (i' + 1))
              case measure => omega
              case rel => exact ⟨i' + 1, rfl, by omega, by go_num, by rw [HM.out], rfl⟩
        · obtain rfl : i' = l.length := by omega
          rw [List.take_length]
          by_cases hm : k ∈ l
          · rw [decide_eq_true hm]
            have ST2 := Lib.hid (show uniqZ (ks.take (j + 1)) = l from by rw [ST.out, if_pos hm])
            clear hm
            go_wp2_with fail
            go_roundg (ks.length - (j + 1))
            case measure => omega
            case rel => exact ⟨j + 1, _, rfl, by omega, by go_num, rfl, by rw [ST2.out]; exact O.out, BB.out⟩
          · rw [decide_eq_false hm]
            have ST2 := Lib.hid (show uniqZ (ks.take (j + 1)) = putZ l k from by rw [ST.out, if_neg hm])
            clear hm
            go_wp2_with fail
            (with_reducible refine cP.out.mono ?_)
            rintro e w5 ⟨v5, rfl, ho5, hb5⟩
            have N5 := Lib.hid (And.intro (own_mono ho5 BB.out.size) (BB.out.trans (hb5.mono BB.out.size)))
            clear ho5 hb5
            go_wp2_with fail
            go_roundg (ks.length - (j + 1))
            case measure => omega
            case rel => exact ⟨j + 1, v5, rfl, by omega, by go_num, rfl, by rw [ST2.out]; exact N5.out.1, N5.out.2⟩
    · obtain rfl : j = ks.length := by omega
      rw [List.take_length] at hO
      obtain ⟨cl, hcl⟩ : ∃ l, l = uniqZ ks := ⟨_, rfl⟩
      have CL := Lib.hid (show rebM dim s ks = rebN dim s cl cl.length ∧ cl.length ≤ 800 from ⟨by rw [hcl]; rfl, by rw [hcl]; have := (uniq_of ks).2.2; have := KL.out; omega⟩)
      rw [← hcl] at hO
      obtain ⟨p4, n4, c4, rfl⟩ := own_form hO
      obtain rfl : n4 = cl.length := own_len hO
      have O4 := Lib.hid hO
      have X4 := Lib.hid (X1.out.below hb)
      have BW4 := Lib.hid (B1.out.trans (hb.mono B1.out.size))
      have hc63 : cl.length ≤ 9223372036854775807 := by have := CL.out.2; omega
      clear hO hb hcl
      go_wp2_with fail
      go_loopg [47] cl.length (fun q' i wr => ∃ (j : Nat) (vn ve lv : Value) (rs : List Hv), q' = cl.length - j ∧ j ≤ cl.length ∧ i = .int .i64 j ∧ RzAt w.heap.size wr x1 c1 dim vn ve lv rs (rebN dim s cl j) ∧ wr.ownsRow w1.heap.size 36 1 (.slice p4 cl.length c4) cl.length (cl.map (Value.int .u64)) ∧ Below w.heap.size w wr)
      case atStart => exact ⟨0, _, _, _, _, rfl, by omega, rfl, X4.out, O4.out, BW4.out⟩
      case round =>
        obtain ⟨j, vn, ve, lv', rs', rfl, hj, rfl, hX, hO, hB⟩ := hrel
        by_cases hlt : j < cl.length
        · obtain ⟨g, rfl, e0⟩ := row_cellU hO hlt
          have hst := rebN_step dim s cl j hlt
          obtain ⟨k, hk⟩ : ∃ k, k = cl[j] := ⟨_, rfl⟩
          rw [← hk] at e0 hst
          have hlen := rebN_len dim s cl j
          have cV := Lib.hid (rVec (H.out.below hB) k)
          have O := Lib.hid hO
          have X := Lib.hid hX
          have BB := Lib.hid hB
          clear hX hO hB hk
          by_cases hkN : k ∈ s.N
          · obtain ⟨y, hy, hyk⟩ := List.mem_map.1 ((OK.out.same k).1 hkN)
            have hvy : vecOf s.L k = y.vec := by rw [← hyk]; exact vec_of OK.out.once hy
            have hr := (OK.out.vecs y hy).1
            have hyl : (y.vec.length : Int) = dim := by
              unfold rightZ at hr
              rw [Bool.and_eq_true, decide_eq_true_eq] at hr
              exact hr.2
            rw [hvy] at cV
            rw [if_pos hkN, hvy] at hst
            have hy0 : 0 < y.vec.length := by have := DM.out; omega
            have hy1 : (0 : Int) < y.vec.length := by omega
            have hy2 : decide (0 < y.vec.length) = true := decide_eq_true hy0
            have ST := Lib.hid hst
            clear hy hyk hvy hst hkN hr hyl
            go_wp2_with fail
            (with_reducible refine cV.out.mono ?_)
            rintro e w5 ⟨u, rfl, hu, ht, hb5⟩
            have X5 := Lib.hid (X.out.below hb5)
            have O5 := Lib.hid (own_below O.out hb5)
            have B5 := Lib.hid (BB.out.trans (hb5.mono BB.out.size))
            have cP := Lib.hid (rPut X5.out (rebN_ok dim s cl j) (by have := CL.out.2; omega) k u y.vec hu ht)
            obtain ⟨up, uc, rfl, -, -, -, -⟩ := hu.slice
            clear hu ht hb5
            go_wp2_with fail
            (with_reducible refine cP.out.mono ?_)
            rintro e w6 ⟨rfl, ⟨vn6, ve6, lv6, rs6, hX6, -⟩, hm6⟩
            have X6 := Lib.hid hX6
            have O6 := Lib.hid (own_agree O5.out fun b hb => ((own_type O5.out hb).rturn hm6 (by decide)).1)
            have B6 := Lib.hid (B5.out.trans (hm6.below B5.out.size fun k hk => hk.1))
            clear hX6 hm6
            go_wp2_with fail
            go_roundg (cl.length - (j + 1))
            case measure => omega
            case rel => exact ⟨j + 1, vn6, ve6, lv6, rs6, rfl, by omega, by go_num, by rw [ST.out]; exact X6.out, O6.out, B6.out⟩
          · have hno : vecOf s.L k = [] := vec_none fun hm => hkN ((OK.out.same k).2 hm)
            rw [hno] at cV
            rw [if_neg hkN] at hst
            have ST := Lib.hid hst
            clear hno hst hkN hlen
            go_wp2_with fail
            (with_reducible refine cV.out.mono ?_)
            rintro e w5 ⟨u, rfl, hu, ht, hb5⟩
            have X5 := Lib.hid (X.out.below hb5)
            have O5 := Lib.hid (own_below O.out hb5)
            have B5 := Lib.hid (BB.out.trans (hb5.mono BB.out.size))
            obtain ⟨up, uc, rfl, -, -, -, -⟩ := hu.slice
            clear hu ht hb5
            simp only [List.length_nil]
            go_wp2_with fail
            go_roundg (cl.length - (j + 1))
            case measure => omega
            case rel => exact ⟨j + 1, vn, ve, lv', rs', rfl, by omega, by go_num, by rw [ST.out]; exact X5.out, O5.out, B5.out⟩
        · obtain rfl : j = cl.length := by omega
          have FIN := Lib.hid (And.intro hX hB)
          clear hX hO hB
          go_wp2_with fail
          go_ret
          rw [CL.out.1]
          exact ⟨x1, c1, vn, ve, lv', rs', rfl, FIN.out.1, FIN.out.2⟩

end Go.Proofs.YtpjbkaibgajpcaaGreat
