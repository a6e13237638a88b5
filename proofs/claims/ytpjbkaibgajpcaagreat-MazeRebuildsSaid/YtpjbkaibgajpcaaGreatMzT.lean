/- maze: Rebuild. -/
import Derived.Test.YtpjbkaibgajpcaaGreatMzR
namespace Go.Proofs.YtpjbkaibgajpcaaGreat
open Go.RowKit Go.ChangeMaps
set_option maxRecDepth 20000

def rebN (dim : Int) (s : Mz) (cl : List Int) (j : Nat) : Mz := (cl.take j).foldl (fun t k => if k ∈ s.N then (putM dim t k (vecOf s.L k)).2 else t) emptyM
def rebM (dim : Int) (s : Mz) (ks : List Int) : Mz := rebN dim s (uniqZ ks) (uniqZ ks).length

theorem rebN_step (dim : Int) (s : Mz) (cl : List Int) (j : Nat) (hj : j < cl.length) : rebN dim s cl (j + 1) = if cl[j] ∈ s.N then (putM dim (rebN dim s cl j) cl[j] (vecOf s.L cl[j])).2 else rebN dim s cl j := by
  unfold rebN
  rw [List.take_succ_eq_append_getElem hj, List.foldl_append]
  rfl

theorem rebN_ok (dim : Int) (s : Mz) (cl : List Int) (j : Nat) : OkM dim (rebN dim s cl j) := by
  unfold rebN
  have : ∀ (l : List Int) (t : Mz), OkM dim t → OkM dim (l.foldl (fun t k => if k ∈ s.N then (putM dim t k (vecOf s.L k)).2 else t) t) := by
    intro l
    induction l with
    | nil => intro t h; exact h
    | cons k l ih =>
      intro t h
      refine ih _ ?_
      show OkM dim (if k ∈ s.N then (putM dim t k (vecOf s.L k)).2 else t)
      split
      · exact h.put _ _
      · exact h
  exact this _ _ (OkM.empty dim)

theorem rebN_len (dim : Int) (s : Mz) (cl : List Int) (j : Nat) : (rebN dim s cl j).L.length ≤ j := by
  induction j with
  | zero => simp [rebN, emptyM]
  | succ j ih =>
    by_cases hj : j < cl.length
    · rw [rebN_step dim s cl j hj]
      split
      · have := put_len dim (rebN dim s cl j) cl[j] (vecOf s.L cl[j])
        omega
      · omega
    · have : rebN dim s cl (j + 1) = rebN dim s cl j := by unfold rebN; rw [List.take_of_length_le (by omega), List.take_of_length_le (by omega)]
      rw [this]; omega

theorem row_cellU {w : World} {B n c : Nat} {p : Option Addr} {l : List Int} (h : w.ownsRow B 36 1 (.slice p n c) n (l.map (Value.int .u64))) {j : Nat} (hj : j < l.length) : ∃ g, p = some ⟨g, 0, none⟩ ∧ w.cell? ⟨g, j, none⟩ = some (.int .u64 l[j]) := by
  have hn : l.length = n := by simpa using h.1
  subst hn
  obtain ⟨g, cap', hve, -, hgl⟩ := h.form (by omega)
  obtain ⟨rfl, -, rfl⟩ := Value.slice.inj hve
  exact ⟨g, rfl, by rw [World.ownsRow.cellAt h j (by omega), List.getElem?_map, List.getElem?_eq_getElem hj]; rfl⟩

def RebTells (w : World) (dim : Int) (r : Mz) (e : Ending) (w' : World) : Prop :=
  ∃ z p m mv Q VL, e = .returned (.tuple #[.pointer (some ⟨z, 0, none⟩), .int .i64 0]) ∧ MzAt w.heap.size w' z p m mv Q dim (entryZ r.L) VL r ∧ Below w.heap.size w w'

set_option maxRecDepth 100000 in
set_option maxHeartbeats 8000000 in
theorem mRebuild {B : Nat} {w : World} {z p m mv : Nat} {Q : Gr} {dim en : Int} {VL : List (Int × Value)} {s : Mz} (h : MzAt B w z p m mv Q dim en VL s) (ok : OkM dim s) (hd : 1 ≤ dim ∧ dim ≤ 8) (kv : Value) (ks : List Int) (hk : Nums w .u64 kv ks) (hl : ks.length ≤ 800) :
    Calls Tryz.prog 31 #[.pointer (some ⟨z, 0, none⟩), kv] w (RebTells w dim (rebM dim s ks)) := by
  have c1 := cellsB h.cell 1
  have H := Lib.hid h
  have OK := Lib.hid ok
  have K := Lib.hid hk
  have cN := Lib.hid (mNew w dim hd)
  obtain ⟨kp, kc, rfl, -, -, -, -⟩ := hk.slice
  have KL := Lib.hid hl
  clear h ok hk hd hl
  go_enter Tryz.func31, Tryz.ntmps31
  go_wp2_with fail
  (with_reducible refine cN.out.mono ?_)
  rintro e w1 ⟨z1, p1, m1, mv1, Q1, rfl, hA1, hb1⟩
  have A1 := Lib.hid hA1
  have B1 := Lib.hid hb1
  have cC := Lib.hid (uClone ks _ w1 (K.out.below hb1) (by have := KL.out; omega))
  clear hA1 hb1
  go_wp2_with fail
  (with_reducible refine cC.out.mono ?_)
  rintro e w2 ⟨v2, rfl, ho2, hb2⟩
  have B2 := Lib.hid hb2
  have cS := Lib.hid (uSort ks v2 _ w2 ho2 hb2.size (by have := KL.out; omega))
  obtain ⟨p2, n2, c2, rfl⟩ := own_form ho2
  clear ho2 hb2
  go_wp2_with fail
  (with_reducible refine cS.out.mono ?_)
  rintro e w3 ⟨rfl, ho3, hb3⟩
  have B3 := Lib.hid (B2.out.trans hb3)
  have cP := uCompact (sortZ ks) _ _ w3 ho3 B3.out.size (by have h1 : (sortZ ks).length = ks.length := (List.mergeSort_perm ks _).length_eq; have := KL.out; omega) (sortZ_up ks)
  rw [runs_uniq] at cP
  have cP := Lib.hid cP
  clear ho3 hb3
  go_wp2_with fail
  (with_reducible refine cP.out.mono ?_)
  rintro e w4 ⟨v4, rfl, ho4, hb4⟩
  have B4 := Lib.hid (B3.out.trans hb4)
  obtain ⟨cl, hcl⟩ : ∃ l, l = uniqZ ks := ⟨_, rfl⟩
  have CL := Lib.hid (show rebM dim s ks = rebN dim s cl cl.length ∧ cl.length ≤ 800 from ⟨by rw [hcl]; rfl, by rw [hcl]; have := (uniq_of ks).2.2; have := KL.out; omega⟩)
  rw [← hcl] at ho4
  obtain ⟨p4, n4, c4, rfl⟩ := own_form ho4
  obtain rfl : n4 = cl.length := own_len ho4
  have O4 := Lib.hid ho4
  have A4 := Lib.hid (A1.out.below B4.out)
  have BW4 := Lib.hid (B1.out.trans (B4.out.mono B1.out.size))
  have hc63 : cl.length ≤ 9223372036854775807 := by have := CL.out.2; omega
  clear ho4 hb4 hcl
  go_wp2_with fail
  go_loopg [32] cl.length (fun q' i wr => ∃ (j : Nat) (Q' : Gr) (VL' : List (Int × Value)), q' = cl.length - j ∧ j ≤ cl.length ∧ i = .int .i64 j ∧ MzAt w.heap.size wr z1 p1 m1 mv1 Q' dim (entryZ (rebN dim s cl j).L) VL' (rebN dim s cl j) ∧ wr.ownsRow w1.heap.size 36 1 (.slice p4 cl.length c4) cl.length (cl.map (Value.int .u64)) ∧ Below w.heap.size w wr)
  case atStart => exact ⟨0, Q1, [], rfl, by omega, rfl, A4.out, O4.out, BW4.out⟩
  case round =>
    obtain ⟨j, Q', VL', rfl, hj, rfl, hA, hO, hB⟩ := hrel
    by_cases hlt : j < cl.length
    · obtain ⟨g, rfl, e0⟩ := row_cellU hO hlt
      have hst := rebN_step dim s cl j hlt
      obtain ⟨k, hk⟩ : ∃ k, k = cl[j] := ⟨_, rfl⟩
      rw [← hk] at e0 hst
      have hlen := rebN_len dim s cl j
      have HB := Lib.hid (H.out.below hB)
      have c2 := cellsB HB.out.cell 2
      have LK := HB.out.look k true
      simp only [if_true] at LK
      have O := Lib.hid hO
      have BB := Lib.hid hB
      by_cases hkN : k ∈ s.N
      · obtain ⟨y, hy, hyk⟩ := List.mem_map.1 ((OK.out.same k).1 hkN)
        obtain ⟨u, hu1, hu2⟩ := HB.out.vals y hy
        rw [hyk] at hu1
        have hvy : vecOf s.L k = y.vec := by rw [← hyk]; exact vec_of OK.out.once hy
        rw [hu1] at LK
        simp only [Option.getD_some, Option.isSome_some] at LK
        rw [if_pos hkN, hvy] at hst
        have cP := Lib.hid (mPut hA rfl (rebN_ok dim s cl j) (by have := CL.out.2; omega) k u y.vec (Nums.of_own hu2) (fun _ b hb => own_type hu2 hb))
        have ST := Lib.hid hst
        have AB := Lib.hid hA
        obtain ⟨up, un, uc, rfl⟩ := own_form hu2
        clear hy hyk hu1 hu2 hvy hst hk hA hO hB hkN hlen
        go_wp2_with fail
        (with_reducible refine cP.out.mono ?_)
        rintro e w5 ⟨rfl, ⟨Q5, VL5, hA5, -⟩, hm5⟩
        have A5 := Lib.hid hA5
        have O5 := Lib.hid (own_agree O.out fun b hb => ((own_type O.out hb).mturn hm5 (by decide)).1)
        have B5 := Lib.hid (BB.out.trans (hm5.below BB.out.size fun k hk => hk.1))
        clear hA5 hm5
        go_wp2_with fail
        go_roundg (cl.length - (j + 1))
        case measure => omega
        case rel => exact ⟨j + 1, Q5, VL5, rfl, by omega, by go_num, by rw [ST.out]; exact A5.out, O5.out, B5.out⟩
      · have hno : getK VL k = none := HB.out.missing k fun hm => hkN ((OK.out.same k).2 hm)
        rw [hno] at LK
        simp only [Option.getD_none, Option.isSome_none] at LK
        rw [if_neg hkN] at hst
        have ST := Lib.hid hst
        have AB := Lib.hid hA
        clear hno hst hk hA hO hB hkN hlen
        go_wp2_with fail
        go_roundg (cl.length - (j + 1))
        case measure => omega
        case rel => exact ⟨j + 1, Q', VL', rfl, by omega, by go_num, by rw [ST.out]; exact AB.out, O.out, BB.out⟩
    · obtain rfl : j = cl.length := by omega
      have FIN := Lib.hid (And.intro hA hB)
      clear hA hO hB
      go_wp2_with fail
      go_ret2
      rw [CL.out.1]
      exact ⟨z1, p1, m1, mv1, Q', VL', rfl, FIN.out.1, FIN.out.2⟩

end Go.Proofs.YtpjbkaibgajpcaaGreat
