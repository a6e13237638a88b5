/- graph's document: Cut. graph: the program's graph and the document's (plain): Add, Bind, Link, Cut. graph: the program's graph and the document's (plain): each call says the same on both. graph: the program's graph and the document's (plain): who is near, to whom there is a way. -/
import Derived.Test.YtpjbkaibgajpcaaGreatJ30
import Derived.Test.YtpjbkaibgajpcaaGreatJ10
import Derived.Test.YtpjbkaibgajpcaaGreatJ29
namespace Go.Proofs.YtpjbkaibgajpcaaGreat
open Go.RowKit
set_option maxRecDepth 20000

theorem flatE_take (E : Eg) (k : Nat) : (flatE E).take (k * 3) = flatE (E.take k) := by
  induction E generalizing k with
  | nil => simp [flatE]
  | cons e E ih =>
    cases k with
    | zero => simp [flatE]
    | succ k =>
      have e1 : (k + 1) * 3 = k * 3 + 1 + 1 + 1 := by omega
      rw [e1]
      simp [flatE, ih]

theorem flatE_drop (E : Eg) (k : Nat) : (flatE E).drop (k * 3) = flatE (E.drop k) := by
  induction E generalizing k with
  | nil => simp [flatE]
  | cons e E ih =>
    cases k with
    | zero => simp
    | succ k =>
      have e1 : (k + 1) * 3 = k * 3 + 1 + 1 + 1 := by omega
      rw [e1]
      simp [flatE, ih]

set_option maxRecDepth 100000 in
set_option maxHeartbeats 4000000 in
theorem dCut (w : World) (B c : Nat) (N : List Int) (E : Eg) (vn ve : Value) (a b : Int) (h : DGr w B c N E vn ve) (hB : B ≤ w.heap.size) (hl : E.length ≤ 900000) :
    Calls Tryz.prog 67 #[.pointer (some ⟨c, 0, none⟩), .int .u64 a, .int .u64 b] w fun e w' =>
      e = .returned (.int .i64 (cutD N E a b).1) ∧ ∃ v, DGr w' B c N (cutD N E a b).2 vn v ∧ Mod (DocM w B) w w' := by
  have cF := dFindAll w B c N E vn ve a b h
  have H := Lib.hid h
  rcases findZ_pair N E a b with ⟨hp, hf⟩ | ⟨hp, ha, hf⟩ | ⟨hp, k, hk, ha, hf⟩
  · rw [hf] at cF
    have hz : cutD N E a b = (pairD N a b, E) := by unfold cutD; rw [if_pos hp]
    rw [hz]
    generalize pairD N a b = z at hp cF
    have b1 : (z != 0) = true := by simpa using hp
    clear h hz hf hp
    go_enter Tryz.func67, Tryz.ntmps67
    go_wp2_with (go_at_call 88; refine cF.mono ?_; rintro e w1 ⟨rfl, hb⟩; have HB := Lib.hid hb; clear hb)
    go_ret
    exact ⟨rfl, ve, H.out.below HB.out, Mod.of_below HB.out⟩
  · rw [hf] at cF
    have hz : cutD N E a b = (6, E) := by unfold cutD; rw [if_neg (by simp [hp]), ha]
    rw [hz]
    clear h hz hf hp ha
    go_enter Tryz.func67, Tryz.ntmps67
    go_wp2_with (go_at_call 88; refine cF.mono ?_; rintro e w1 ⟨rfl, hb⟩; have HB := Lib.hid hb; clear hb)
    go_ret
    exact ⟨rfl, ve, H.out.below HB.out, Mod.of_below HB.out⟩
  · rw [hf] at cF
    obtain ⟨g, cap, rfl, -, hgl⟩ := h.edges.form (by omega)
    have hcap : E.length ≤ cap := by
      rcases h.edges.2 with ⟨he, -⟩ | ⟨g', c', cur, he, -, -, hn, -⟩
      · cases he
      · rw [(Value.slice.inj he).2.2]; exact hn
    have hcell : ∀ w1, Below w.heap.size w w1 → w1.cell? ⟨g, k * 3 + 2, none⟩ = some (.bool E[k].2.2) ∧ w1.cell? ⟨c, 1, none⟩ = some (.slice (some ⟨g, 0, none⟩) E.length cap) ∧ w1.frozen? ⟨c, 1, none⟩ = false := fun w1 hb => by
      have h1 := H.out.below hb
      exact ⟨by rw [World.ownsRow.cellAt h1.edges _ (by omega)]; exact (flatE_get E k hk).2.2, h1.get1, thawed h1.cell 1⟩
    have hsrc := SrcAt.of_own h.edges
    have i0 : (0 : Int) ≤ (k : Int) := by omega
    have i1 : (k : Int) < (E.length : Int) := by omega
    have hlE : E.length ≤ 9223372036854775807 := by omega
    by_cases hn : E[k].2.2 = true
    · have hz : cutD N E a b = (10, E) := by unfold cutD; rw [if_neg (by simp [hp]), ha]; simp [List.getElem?_eq_getElem hk, hn]
      rw [hz]
      simp only [hn] at hcell
      have HC := Lib.hid hcell
      clear hcell hz hf hp ha h hn hsrc
      go_enter Tryz.func67, Tryz.ntmps67
      go_wp2_with (first
        | (go_at_call 88; refine cF.mono ?_; rintro e w1 ⟨rfl, hb⟩; obtain ⟨y0, y1, y2⟩ := HC.out w1 hb; have HB := Lib.hid hb; clear hb))
      go_ret
      exact ⟨rfl, _, H.out.below HB.out, Mod.of_below HB.out⟩
    · have hn' : E[k].2.2 = false := by simpa using hn
      have hz : cutD N E a b = (0, E.eraseIdx k) := by unfold cutD; rw [if_neg (by simp [hp]), ha]; simp [List.getElem?_eq_getElem hk, hn']
      rw [hz]
      simp only [hn'] at hcell
      have HC := Lib.hid hcell
      have HK := Lib.hid hk
      have S1 := Lib.hid (show SrcAt w (some ⟨g, 0, none⟩) k cap 3 (flatE (E.take k)) from by
        have := hsrc.cut 0 k cap (by omega)
        rw [Nat.zero_mul, List.drop_zero, flatE_take] at this
        exact this)
      have FE := Lib.hid (show ∀ E, ∀ u ∈ flatE E, u.oneCell' = true from flatE_one)
      have k1 : (k : Int) ≤ (cap : Int) := by omega
      have k3 : ((k : Int) + 1) ≤ (E.length : Int) := by omega
      have k4 : IntKind.i64.wrap ((k : Int) + 1) = (k : Int) + 1 := by simp [IntKind.wrap, IntKind.signed, IntKind.bits] <;> omega
      have k5 : (0 : Int) ≤ (k : Int) + 1 := by omega
      have k6 : ((k : Int) + 1).toNat = k + 1 := by omega
      have S2' := Lib.hid (show SrcAt w (some ⟨g, (k + 1) * 3, none⟩) (E.length - (k + 1)) (cap - (k + 1)) 3 (flatE (E.drop (k + 1))) from by
        have := hsrc.cut (k + 1) (E.length - (k + 1)) (cap - (k + 1)) (by omega)
        rw [flatE_drop, flatE_take, List.take_of_length_le (by simp)] at this
        simpa using this)
      have ER := Lib.hid (show flatE (E.take k) ++ flatE (E.drop (k + 1)) = flatE (E.eraseIdx k) ∧ (E.eraseIdx k).length = k + (E.length - (k + 1)) from by
        rw [← flatE_append, ← List.eraseIdx_eq_take_drop_succ]
        exact ⟨rfl, by rw [List.length_eraseIdx, if_pos hk]; omega⟩)
      have HS := Lib.hid (show E.length ≤ cap from hcap)
      clear hcell hz hf hp ha h hn hn' hsrc hk
      go_enter Tryz.func67, Tryz.ntmps67
      go_wp2_with (first
        | (go_at_call 88; refine cF.mono ?_; rintro e w1 ⟨rfl, hb⟩; obtain ⟨y0, y1, y2⟩ := HC.out w1 hb))
      obtain ⟨W0, hW0⟩ : ∃ W0, W0 = w1.drew := ⟨_, rfl⟩
      have hb0 : Below w.heap.size w W0 := by rw [hW0]; exact hb.drew
      have HW := Lib.hid hW0
      obtain ⟨-, c3, -⟩ := HC.out W0 hb0
      clear hW0 y0 y1 y2 hb
      by_cases hcap2 : cap = k + 1
      · subst hcap2
        have hEl : E.length = k + 1 := by have := HK.out; omega
        have k7 : (k : Int) ≤ (k : Int) + 1 := by omega
        have S2 : Hid (SrcAt w (some ⟨g, 0, none⟩) 0 0 3 (flatE (E.drop (k + 1)))) := Lib.hid (by
          rw [List.drop_eq_nil_of_le (by omega)]
          exact SrcAt.none w _ 3 (.inr ⟨_, rfl⟩))
        refine region_goN 19 (fun w' => w'.cell? ⟨c, 1, none⟩ = some (.slice (some ⟨g, 0, none⟩) E.length (k + 1))) (by kernel_rfl) ?hS0 (fun hH => ?_)
        case hS0 =>
          rw [← HW.out]; exact c3
        rw [← HW.out] at hH ⊢
        refine kYN 0 hH ?_
        repeat simp only [Act.put, uA1, uB1, uC1]
        refine kYN 2 hH ?_
        repeat simp only [Act.put, uA1, uB1, uC1]
        refine kYN 3 hH ?_
        repeat simp only [Act.put, uA1, uB1, uC1]
        refine kYN 4 hH ?_
        repeat simp only [Act.put, uA1, uB1, uC1]
        refine kYN 5 hH ?_
        repeat simp only [Act.put, uA1, uB1, uC1]
        refine kYN 6 hH ?_
        repeat simp only [Act.put, uA1, uB1, uC1]
        refine kYN 7 hH ?_
        repeat simp only [Act.put, uA1, uB1, uC1]
        refine kYN 9 hH ?_
        repeat simp only [Act.put, uA1, uB1, uC1]
        refine kYN 10 hH ?_
        repeat simp only [Act.put, uA1, uB1, uC1]
        refine kYN 11 hH ?_
        repeat simp only [Act.put, uA1, uB1, uC1]
        refine kYN 12 hH ?_
        repeat simp only [Act.put, uA1, uB1, uC1]
        refine kYN 13 hH ?_
        repeat simp only [Act.put, uA1, uB1, uC1]
        refine kYN 14 hH ?_
        repeat simp only [Act.put, uA1, uB1, uC1]
        refine kYN 15 hH ?_
        repeat simp only [Act.put, uA1, uB1, uC1]
        refine spkN 1 rfl (by decide) (by decide +kernel) (by rfl) (fun K' hK => ?_)
        go_simp
        have hr0 := own_empty W0 w.heap.size 144 3 hb0.size
        replace hb0 := hb0.alloc hb0.size (.cells #[] 144)
        try dsimp only
        refine hK.out _ _ ?hS (fun hH' => ?_)
        case hS =>
          exact (HC.out _ hb0).2.1
        clear hK K' hH; have hH := hH'; clear hH'; repeat simp only [Act.put, uA1, uB1, uC1]
        refine spkN 8 rfl (by decide) (by decide +kernel) (by rfl) (fun K' hK => ?_)
        obtain ⟨q2, n2, c2, w2, hrun2, hr2, hg2, -⟩ := run_app rowE hr0 hb0.size (S1.out.below hb0) (FE.out _) (by simp only [maxLen]; omega) (by omega)
        refine wp_append_eq hrun2 _ _ rfl rfl rfl ?_
        replace hb0 := hb0.grown hg2 hb0.size (fun b hb => (hr0.lt b hb).1)
        simp only [Nat.zero_add, List.nil_append] at hr2
        clear hrun2 hg2 hr0
        try dsimp only
        refine hK.out _ _ ?hS (fun hH' => ?_)
        case hS =>
          exact (HC.out _ hb0).2.1
        clear hK K' hH; have hH := hH'; clear hH'; repeat simp only [Act.put, uA1, uB1, uC1]
        refine spkN 16 rfl (by decide) (by decide +kernel) (by rfl) (fun K' hK => ?_)
        obtain ⟨q3, n3, c3, w3, hrun3, hr3, hg3, -⟩ := run_app rowE hr2 hb0.size (S2.out.below hb0) (FE.out _) (by simp only [maxLen]; omega) (by omega)
        refine wp_append_eq hrun3 _ _ rfl rfl rfl ?_
        replace hb0 := hb0.grown hg3 hb0.size (fun b hb => (hr2.lt b hb).1)
        obtain ⟨-, y3, yf⟩ := HC.out _ hb0
        rw [ER.out.1] at hr3
        have LEN3 : k + 0 = (E.eraseIdx k).length := by have := ER.out.2; have := HK.out; have := HS.out; omega
        rw [LEN3] at hr3
        have R := Lib.hid (H.out.setE (E' := E.eraseIdx k) hb0 (World.grownBy.refl _ _) (own_mono hr3 hB))
        clear hrun3 hg3 hr2 hr3 LEN3
        try dsimp only
        refine hK.out _ _ ?hS (fun hH' => ?_)
        case hS =>
          exact (HC.out _ hb0).2.1
        clear hK K' hH; have hH := hH'; clear hH'; repeat simp only [Act.put, uA1, uB1, uC1]
        refine spkN 17 rfl (by decide) (by decide +kernel) (by rfl) (fun K' hK => ?_)
        go_simp
        try dsimp only
        refine hK.out _ _ ?hS (fun hH' => ?_)
        case hS =>
          exact (HC.out _ hb0).2.1
        clear hK K' hH; have hH := hH'; clear hH'; repeat simp only [Act.put, uA1, uB1, uC1]
        refine kYN 18 hH ?_
        repeat simp only [Act.put, uA1, uB1, uC1]
        refine spkL rfl (by decide +kernel) (by rfl) (fun K' hK => ?_)
        go_simp
        try dsimp only
        refine hK.out _ _ ?_
        clear hK K' hH; repeat simp only [Act.put, uA1, uB1, uC1]
        refine anyBut_done (by decide +kernel) ?_ _
        go_wp2_with fail
        go_ret
        exact ⟨rfl, _, R.out⟩
      · have hcap' : ¬ ((cap : Int) = (k : Int) + 1) := by omega
        have S2 := S2'
        refine region_goN 19 (fun w' => w'.cell? ⟨c, 1, none⟩ = some (.slice (some ⟨g, 0, none⟩) E.length cap)) (by kernel_rfl) ?hS0 (fun hH => ?_)
        case hS0 =>
          rw [← HW.out]; exact c3
        rw [← HW.out] at hH ⊢
        refine kYN 0 hH ?_
        repeat simp only [Act.put, uA1, uB1, uC1]
        refine kYN 2 hH ?_
        repeat simp only [Act.put, uA1, uB1, uC1]
        refine kYN 3 hH ?_
        repeat simp only [Act.put, uA1, uB1, uC1]
        refine kYN 4 hH ?_
        repeat simp only [Act.put, uA1, uB1, uC1]
        refine kYN 5 hH ?_
        repeat simp only [Act.put, uA1, uB1, uC1]
        refine kYN 6 hH ?_
        repeat simp only [Act.put, uA1, uB1, uC1]
        refine kYN 7 hH ?_
        repeat simp only [Act.put, uA1, uB1, uC1]
        refine kYN 9 hH ?_
        repeat simp only [Act.put, uA1, uB1, uC1]
        refine kYN 10 hH ?_
        repeat simp only [Act.put, uA1, uB1, uC1]
        refine kYN 11 hH ?_
        repeat simp only [Act.put, uA1, uB1, uC1]
        refine kYN 12 hH ?_
        repeat simp only [Act.put, uA1, uB1, uC1]
        refine kYN 13 hH ?_
        repeat simp only [Act.put, uA1, uB1, uC1]
        refine kYN 14 hH ?_
        repeat simp only [Act.put, uA1, uB1, uC1]
        refine kYN 15 hH ?_
        repeat simp only [Act.put, uA1, uB1, uC1]
        refine spkN 1 rfl (by decide) (by decide +kernel) (by rfl) (fun K' hK => ?_)
        go_simp
        have hr0 := own_empty W0 w.heap.size 144 3 hb0.size
        replace hb0 := hb0.alloc hb0.size (.cells #[] 144)
        try dsimp only
        refine hK.out _ _ ?hS (fun hH' => ?_)
        case hS =>
          exact (HC.out _ hb0).2.1
        clear hK K' hH; have hH := hH'; clear hH'; repeat simp only [Act.put, uA1, uB1, uC1]
        refine spkN 8 rfl (by decide) (by decide +kernel) (by rfl) (fun K' hK => ?_)
        obtain ⟨q2, n2, c2, w2, hrun2, hr2, hg2, -⟩ := run_app rowE hr0 hb0.size (S1.out.below hb0) (FE.out _) (by simp only [maxLen]; omega) (by omega)
        refine wp_append_eq hrun2 _ _ rfl rfl rfl ?_
        replace hb0 := hb0.grown hg2 hb0.size (fun b hb => (hr0.lt b hb).1)
        simp only [Nat.zero_add, List.nil_append] at hr2
        clear hrun2 hg2 hr0
        try dsimp only
        refine hK.out _ _ ?hS (fun hH' => ?_)
        case hS =>
          exact (HC.out _ hb0).2.1
        clear hK K' hH; have hH := hH'; clear hH'; repeat simp only [Act.put, uA1, uB1, uC1]
        refine spkN 16 rfl (by decide) (by decide +kernel) (by rfl) (fun K' hK => ?_)
        obtain ⟨q3, n3, c3, w3, hrun3, hr3, hg3, -⟩ := run_app rowE hr2 hb0.size (S2.out.below hb0) (FE.out _) (by simp only [maxLen]; omega) (by omega)
        refine wp_append_eq hrun3 _ _ rfl rfl rfl ?_
        replace hb0 := hb0.grown hg3 hb0.size (fun b hb => (hr2.lt b hb).1)
        obtain ⟨-, y3, yf⟩ := HC.out _ hb0
        rw [ER.out.1] at hr3
        have LEN3 : k + (E.length - (k + 1)) = (E.eraseIdx k).length := by have := ER.out.2; have := HK.out; have := HS.out; omega
        rw [LEN3] at hr3
        have R := Lib.hid (H.out.setE (E' := E.eraseIdx k) hb0 (World.grownBy.refl _ _) (own_mono hr3 hB))
        clear hrun3 hg3 hr2 hr3 LEN3
        try dsimp only
        refine hK.out _ _ ?hS (fun hH' => ?_)
        case hS =>
          exact (HC.out _ hb0).2.1
        clear hK K' hH; have hH := hH'; clear hH'; repeat simp only [Act.put, uA1, uB1, uC1]
        refine spkN 17 rfl (by decide) (by decide +kernel) (by rfl) (fun K' hK => ?_)
        go_simp
        try dsimp only
        refine hK.out _ _ ?hS (fun hH' => ?_)
        case hS =>
          exact (HC.out _ hb0).2.1
        clear hK K' hH; have hH := hH'; clear hH'; repeat simp only [Act.put, uA1, uB1, uC1]
        refine kYN 18 hH ?_
        repeat simp only [Act.put, uA1, uB1, uC1]
        refine spkL rfl (by decide +kernel) (by rfl) (fun K' hK => ?_)
        go_simp
        try dsimp only
        refine hK.out _ _ ?_
        clear hK K' hH; repeat simp only [Act.put, uA1, uB1, uC1]
        refine anyBut_done (by decide +kernel) ?_ _
        go_wp2_with fail
        go_ret
        exact ⟨rfl, _, R.out⟩

end Go.Proofs.YtpjbkaibgajpcaaGreat

namespace Go.Proofs.YtpjbkaibgajpcaaGreat
open Go.RowKit
set_option maxRecDepth 20000

def eQ (Q : Gr) (x y : Int) : Option Bool := (Q.find? fun q => decide (q.1 = x)).bind fun q => edgeO q.2.2 y

def edgeD (E : Eg) (x y : Int) : Option Bool := (E.find? (isE (min x y) (max x y))).map (·.2.2)

structure Rel (Q : Gr) (N : List Int) (E : Eg) : Prop where
  keys : ∀ k, k ∈ Q.map (·.1) ↔ k ∈ N
  sorted : N.Pairwise (· < ·)
  edge : ∀ x y, eQ Q x y = edgeD E x y
  ends : ∀ e ∈ E, e.1 < e.2.1 ∧ e.1 ∈ N ∧ e.2.1 ∈ N
  once : E.Pairwise fun e f => ¬ (e.1 = f.1 ∧ e.2.1 = f.2.1)

def Two (x y a b : Int) : Prop := (x = a ∧ y = b) ∨ (x = b ∧ y = a)
instance (x y a b : Int) : Decidable (Two x y a b) := inferInstanceAs (Decidable (_ ∨ _))

theorem two_iff {x y a b : Int} : Two x y a b ↔ min x y = min a b ∧ max x y = max a b := by
  unfold Two; omega

theorem isE_iff {lo hi : Int} {e : Int × Int × Bool} : isE lo hi e = true ↔ e.1 = lo ∧ e.2.1 = hi := by
  simp [isE]

theorem find_set (Q : Gr) (a x : Int) (f) : (setQ Q a f).find? (fun q => decide (q.1 = x)) = (Q.find? fun q => decide (q.1 = x)).map fun q => if q.1 = a then (q.1, q.2.1, f q.2.2) else q := by
  unfold setQ
  rw [List.find?_map]
  congr 1
  congr 1
  funext q
  simp only [Function.comp]
  split <;> rfl

theorem eQ_set (Q : Gr) (a x y : Int) (f) : eQ (setQ Q a f) x y = if x = a then (Q.find? fun q => decide (q.1 = x)).bind fun q => edgeO (f q.2.2) y else eQ Q x y := by
  unfold eQ
  rw [find_set]
  cases hf : Q.find? fun q => decide (q.1 = x) with
  | none => simp
  | some q =>
    have hq : q.1 = x := by simpa using List.find?_some hf
    simp only [Option.map_some, Option.bind_some, hq]
    split <;> rfl

theorem edgeO_put (E : List (Int × Bool)) (x y : Int) (v : Bool) : edgeO (putE E x v) y = if y = x then some v else edgeO E y := by
  unfold edgeO
  induction E with
  | nil =>
    by_cases h : y = x
    · simp [putE, h]
    · have h2 : ¬ x = y := fun e => h e.symm
      simp [putE, h, h2]
  | cons e E ih =>
    unfold putE
    by_cases hp : e.1 = x
    · rw [if_pos hp]
      by_cases h : y = x
      · simp [h]
      · have h2 : ¬ x = y := fun e => h e.symm
        have h3 : ¬ e.1 = y := by rw [hp]; exact h2
        simp [h, h2, h3]
    · rw [if_neg hp]
      by_cases h2 : e.1 = y
      · have h : ¬ y = x := fun e2 => hp (h2.trans e2)
        simp [h2, h]
      · simp only [List.find?_cons, h2, decide_false]
        exact ih

theorem edgeO_del (E : List (Int × Bool)) (x y : Int) : edgeO (delE E x) y = if y = x then none else edgeO E y := by
  unfold edgeO delE
  induction E with
  | nil => simp
  | cons e E ih =>
    rw [List.filter_cons]
    by_cases hp : e.1 = x
    · rw [if_neg (by simp [hp]), ih]
      by_cases h : y = x
      · simp [h]
      · have h3 : ¬ e.1 = y := fun e2 => h (e2.symm.trans hp)
        simp [h, h3]
    · rw [if_pos (by simp [hp])]
      by_cases h2 : e.1 = y
      · have h : ¬ y = x := fun e2 => hp (h2.trans e2)
        simp [h2, h]
      · simp only [List.find?_cons, h2, decide_false]
        exact ih

theorem hasB_iff {Q : Gr} {k : Int} : hasB Q k = true ↔ k ∈ Q.map (·.1) := by
  rw [hasB_mem, decide_eq_true_eq]

theorem find_node {Q : Gr} {k : Int} (h : k ∈ Q.map (·.1)) : ∃ q ∈ Q, q.1 = k ∧ Q.find? (fun q => decide (q.1 = k)) = some q := by
  obtain ⟨q, h1, h2, h3, -⟩ := getK_outer_some (hasB_iff.2 h)
  exact ⟨q, h1, h2, h3⟩

theorem eQ_join {Q : Gr} {a b : Int} (ha : a ∈ Q.map (·.1)) (hb : b ∈ Q.map (·.1)) (hab : a ≠ b) (v : Bool) (x y : Int) : eQ (joinQ Q a b v) x y = if Two x y a b then some v else eQ Q x y := by
  obtain ⟨qa, -, -, fa⟩ := find_node ha
  obtain ⟨qb, -, hqb, fb⟩ := find_node hb
  unfold joinQ
  rw [eQ_set]
  by_cases hxb : x = b
  · subst hxb
    rw [if_pos rfl, find_set, fb]
    have hxa : ¬ x = a := fun e => hab e.symm
    have : ¬ qb.1 = a := by rw [hqb]; exact hxa
    simp only [Option.map_some, Option.bind_some, this, if_false]
    rw [edgeO_put]
    unfold eQ
    rw [fb]
    by_cases hy : y = a
    · rw [if_pos hy, if_pos (show Two x y a x from .inr ⟨rfl, hy⟩)]
    · rw [if_neg hy, if_neg (show ¬ Two x y a x from fun h => by unfold Two at h; omega)]
      rfl
  · rw [if_neg hxb, eQ_set]
    by_cases hxa : x = a
    · subst hxa
      rw [if_pos rfl, fa]
      simp only [Option.bind_some]
      rw [edgeO_put]
      unfold eQ
      rw [fa]
      by_cases hy : y = b
      · rw [if_pos hy, if_pos (show Two x y x b from .inl ⟨rfl, hy⟩)]
      · rw [if_neg hy, if_neg (show ¬ Two x y x b from fun h => by unfold Two at h; omega)]
        rfl
    · rw [if_neg hxa, if_neg (show ¬ Two x y a b from fun h => by unfold Two at h; omega)]

theorem eQ_cut {Q : Gr} {a b : Int} (ha : a ∈ Q.map (·.1)) (hb : b ∈ Q.map (·.1)) (hab : a ≠ b) (x y : Int) : eQ (cutQ Q a b) x y = if Two x y a b then none else eQ Q x y := by
  obtain ⟨qa, -, -, fa⟩ := find_node ha
  obtain ⟨qb, -, hqb, fb⟩ := find_node hb
  unfold cutQ
  rw [eQ_set]
  by_cases hxb : x = b
  · subst hxb
    rw [if_pos rfl, find_set, fb]
    have hxa : ¬ x = a := fun e => hab e.symm
    have : ¬ qb.1 = a := by rw [hqb]; exact hxa
    simp only [Option.map_some, Option.bind_some, this, if_false]
    rw [edgeO_del]
    unfold eQ
    rw [fb]
    by_cases hy : y = a
    · rw [if_pos hy, if_pos (show Two x y a x from .inr ⟨rfl, hy⟩)]
    · rw [if_neg hy, if_neg (show ¬ Two x y a x from fun h => by unfold Two at h; omega)]
      rfl
  · rw [if_neg hxb, eQ_set]
    by_cases hxa : x = a
    · subst hxa
      rw [if_pos rfl, fa]
      simp only [Option.bind_some]
      rw [edgeO_del]
      unfold eQ
      rw [fa]
      by_cases hy : y = b
      · rw [if_pos hy, if_pos (show Two x y x b from .inl ⟨rfl, hy⟩)]
      · rw [if_neg hy, if_neg (show ¬ Two x y x b from fun h => by unfold Two at h; omega)]
        rfl
    · rw [if_neg hxa, if_neg (show ¬ Two x y a b from fun h => by unfold Two at h; omega)]

theorem edgeD_at (E : Eg) (a b : Int) : edgeD E a b = (atE E a b).bind fun i => E[i]?.map (·.2.2) := by
  unfold edgeD atE
  induction E with
  | nil => rfl
  | cons e E ih =>
    cases h : isE (min a b) (max a b) e with
    | true => simp [List.findIdx?_cons, h]
    | false =>
      simp only [List.find?_cons, List.findIdx?_cons, h]
      rw [ih]
      cases E.findIdx? (isE (min a b) (max a b)) <;> simp

theorem edgeD_app {E : Eg} {a b : Int} (hn : edgeD E a b = none) (v : Bool) (x y : Int) : edgeD (E ++ [(min a b, max a b, v)]) x y = if Two x y a b then some v else edgeD E x y := by
  unfold edgeD at *
  rw [List.find?_append]
  by_cases h : Two x y a b
  · rw [if_pos h]
    obtain ⟨h1, h2⟩ := two_iff.1 h
    rw [h1, h2]
    have : E.find? (isE (min a b) (max a b)) = none := by simpa using hn
    rw [this]
    simp [isE]
  · rw [if_neg h]
    have : isE (min x y) (max x y) (min a b, max a b, v) = false := by
      rw [Bool.eq_false_iff]
      intro h3
      have := isE_iff.1 h3
      exact h (two_iff.2 ⟨this.1.symm, this.2.symm⟩)
    simp [this]

theorem find_ne {_E : Eg} {e f : Int × Int × Bool} (hf : e.1 = f.1 ∧ e.2.1 = f.2.1) (lo hi : Int) : isE lo hi e = isE lo hi f := by
  simp [isE, hf.1, hf.2]

theorem edgeD_set {E : Eg} {a b : Int} {i : Nat} (hi : i < E.length) (h1 : E[i].1 = min a b) (h2 : E[i].2.1 = max a b) (ho : E.Pairwise fun e f => ¬ (e.1 = f.1 ∧ e.2.1 = f.2.1)) (v : Bool) (x y : Int) :
    edgeD (E.set i (min a b, max a b, v)) x y = if Two x y a b then some v else edgeD E x y := by
  unfold edgeD
  simp only [two_iff]
  generalize min a b = lo at *
  generalize max a b = hi' at *
  generalize min x y = l
  generalize max x y = u
  induction E generalizing i with
  | nil => simp at hi
  | cons e E ih =>
    rw [List.pairwise_cons] at ho
    cases i with
    | zero =>
      simp only [List.set_cons_zero, List.find?_cons, List.getElem_cons_zero] at h1 h2 ⊢
      by_cases hl : l = lo ∧ u = hi'
      · simp [isE, hl.1, hl.2]
      · have e1 : isE l u (lo, hi', v) = false := by simp [isE]; intro e; exact fun e2 => hl ⟨e.symm, e2.symm⟩
        have e2 : isE l u e = false := by rw [← find_ne (e := (lo, hi', v)) (f := e) (_E := E) ⟨h1.symm, h2.symm⟩ l u]; exact e1
        rw [e1, e2, if_neg hl]
    | succ i =>
      simp only [List.getElem_cons_succ] at h1 h2
      have hi2 : i < E.length := by simpa using hi
      have hne := ho.1 E[i] (List.getElem_mem hi2)
      simp only [List.set_cons_succ, List.find?_cons]
      cases hE : isE l u e with
      | true =>
        have := isE_iff.1 hE
        have hl : ¬ (l = lo ∧ u = hi') := fun hh => hne ⟨by rw [this.1, h1, hh.1], by rw [this.2, h2, hh.2]⟩
        rw [if_neg hl]
      | false => exact ih hi2 ho.2 h1 h2

theorem edgeD_erase {E : Eg} {a b : Int} {i : Nat} (hi : i < E.length) (h1 : E[i].1 = min a b) (h2 : E[i].2.1 = max a b) (ho : E.Pairwise fun e f => ¬ (e.1 = f.1 ∧ e.2.1 = f.2.1)) (x y : Int) :
    edgeD (E.eraseIdx i) x y = if Two x y a b then none else edgeD E x y := by
  unfold edgeD
  simp only [two_iff]
  generalize min a b = lo at *
  generalize max a b = hi' at *
  generalize min x y = l
  generalize max x y = u
  induction E generalizing i with
  | nil => simp at hi
  | cons e E ih =>
    rw [List.pairwise_cons] at ho
    cases i with
    | zero =>
      simp only [List.eraseIdx_cons_zero, List.find?_cons, List.getElem_cons_zero] at h1 h2 ⊢
      by_cases hl : l = lo ∧ u = hi'
      · rw [if_pos hl]
        rw [List.find?_eq_none.2]
        · rfl
        · intro f hf hh
          have := isE_iff.1 hh
          exact ho.1 f hf ⟨by rw [h1, this.1, hl.1], by rw [h2, this.2, hl.2]⟩
      · have e2 : isE l u e = false := by
          rw [Bool.eq_false_iff]
          intro hh
          have := isE_iff.1 hh
          exact hl ⟨this.1.symm.trans h1, this.2.symm.trans h2⟩
        rw [e2, if_neg hl]
    | succ i =>
      simp only [List.getElem_cons_succ] at h1 h2
      have hi2 : i < E.length := by simpa using hi
      have hne := ho.1 E[i] (List.getElem_mem hi2)
      simp only [List.eraseIdx_cons_succ, List.find?_cons]
      cases hE : isE l u e with
      | true =>
        have := isE_iff.1 hE
        have hl : ¬ (l = lo ∧ u = hi') := fun hh => hne ⟨by rw [this.1, h1, hh.1], by rw [this.2, h2, hh.2]⟩
        rw [if_neg hl]
      | false => exact ih hi2 ho.2 h1 h2

end Go.Proofs.YtpjbkaibgajpcaaGreat

namespace Go.Proofs.YtpjbkaibgajpcaaGreat
open Go.RowKit
set_option maxRecDepth 20000

theorem putZ_sorted {l : List Int} {k : Int} (h : l.Pairwise (· < ·)) (hk : k ∉ l) : (putZ l k).Pairwise (· < ·) := by
  unfold putZ
  have hs := List.takeWhile_append_dropWhile (p := fun x => decide (x < k)) (l := l)
  have h2 := h
  rw [← hs, List.pairwise_append] at h2
  have lo : ∀ x ∈ l.takeWhile (fun x => decide (x < k)), x < k := fun x hx => by
    simpa using List.all_eq_true.1 (List.all_takeWhile (p := fun x => decide (x < k)) (l := l)) x hx
  have hi : ∀ x ∈ l.dropWhile (fun x => decide (x < k)), k < x := by
    intro x hx
    have hxl : x ∈ l := hs ▸ List.mem_append_right _ hx
    have hne : x ≠ k := fun e => hk (e ▸ hxl)
    cases hd : l.dropWhile (fun x => decide (x < k)) with
    | nil => rw [hd] at hx; cases hx
    | cons y r =>
      have hy : ¬ y < k := by
        have := List.head?_dropWhile_not (fun x => decide (x < k)) l
        rw [hd] at this
        simpa using this
      rw [hd] at hx h2
      rcases List.mem_cons.1 hx with rfl | hx
      · omega
      · have := (List.pairwise_cons.1 h2.2.1).1 x hx
        omega
  rw [List.pairwise_append, List.pairwise_cons]
  exact ⟨h2.1, ⟨hi, h2.2.1⟩, fun x hx y hy => by
    rcases List.mem_cons.1 hy with rfl | hy
    · exact lo x hx
    · exact h2.2.2 x hx y hy⟩

theorem sortedI_ext {l m : List Int} (hl : l.Pairwise (· < ·)) (hm : m.Pairwise (· < ·)) (h : ∀ x, x ∈ l ↔ x ∈ m) : l = m := by
  induction l generalizing m with
  | nil =>
    cases m with
    | nil => rfl
    | cons y m => exact absurd ((h y).2 (List.mem_cons_self ..)) (by simp)
  | cons x l ih =>
    cases m with
    | nil => exact absurd ((h x).1 (List.mem_cons_self ..)) (by simp)
    | cons y m =>
      rw [List.pairwise_cons] at hl hm
      have hxy : x = y := by
        have h1 := (h x).1 (List.mem_cons_self ..)
        have h2 := (h y).2 (List.mem_cons_self ..)
        rcases List.mem_cons.1 h1 with h1 | h1
        · exact h1
        · rcases List.mem_cons.1 h2 with h2 | h2
          · exact h2.symm
          · have := hl.1 y h2
            have := hm.1 x h1
            omega
      subst hxy
      rw [ih hl.2 hm.2 fun z => by
        have := h z
        simp only [List.mem_cons] at this
        constructor
        · intro hz
          rcases this.1 (.inr hz) with rfl | h1
          · exact absurd (hl.1 z hz) (by omega)
          · exact h1
        · intro hz
          rcases this.2 (.inr hz) with rfl | h1
          · exact absurd (hm.1 z hz) (by omega)
          · exact h1]

theorem sorted_nodup {l : List Int} (h : l.Pairwise (· < ·)) : l.Nodup := h.imp fun h => by omega

theorem sortZ_sorted {l : List Int} (h : l.Nodup) : (sortZ l).Pairwise (· < ·) := by
  have h1 : (sortZ l).Pairwise fun a b => decide (a ≤ b) = true := List.pairwise_mergeSort (le := fun x y => decide (x ≤ y)) (by intro a b c; simp; omega) (by intro a b; simp; omega) l
  have h2 := nodup_sortZ.2 h
  exact (h1.and h2).imp fun ⟨a, b⟩ => by simp at a; omega

theorem outer_blocks_join (Q : Gr) (a b : Int) (v) : (joinQ Q a b v).map (fun q => q.2.1) = Q.map (fun q => q.2.1) ∧ (joinQ Q a b v).map (fun q => q.1) = Q.map (fun q => q.1) := by
  unfold joinQ
  rw [blocks_set, blocks_set, keys_set, keys_set]
  exact ⟨rfl, rfl⟩

theorem outer_blocks_cut (Q : Gr) (a b : Int) : (cutQ Q a b).map (fun q => q.2.1) = Q.map (fun q => q.2.1) ∧ (cutQ Q a b).map (fun q => q.1) = Q.map (fun q => q.1) := by
  unfold cutQ
  rw [blocks_set, blocks_set, keys_set, keys_set]
  exact ⟨rfl, rfl⟩

def SameN (Q Q' : Gr) : Prop := Q'.map (fun q => q.2.1) = Q.map (fun q => q.2.1) ∧ Q'.map (fun q => q.1) = Q.map (fun q => q.1)

theorem Rel.pair {Q : Gr} {N : List Int} {E : Eg} (h : Rel Q N E) (a b : Int) : pairZ Q a b = pairD N a b := by
  unfold pairZ pairD
  have e : (hasB Q a && hasB Q b) = true ↔ a ∈ N ∧ b ∈ N := by
    rw [Bool.and_eq_true, hasB_iff, hasB_iff, h.keys, h.keys]
  by_cases h2 : a ∈ N ∧ b ∈ N
  · rw [if_pos h2, if_pos (e.2 h2)]
  · rw [if_neg h2, if_neg (fun hh => h2 (e.1 hh))]

theorem Rel.upd {Q Q' : Gr} {N : List Int} {E E' : Eg} (h : Rel Q N E) {a b : Int} {v : Option Bool} (hk : SameN Q Q') (hq : ∀ x y, eQ Q' x y = if Two x y a b then v else eQ Q x y) (he : ∀ x y, edgeD E' x y = if Two x y a b then v else edgeD E x y)
    (hn : ∀ e ∈ E', e.1 < e.2.1 ∧ e.1 ∈ N ∧ e.2.1 ∈ N) (ho : E'.Pairwise fun e f => ¬ (e.1 = f.1 ∧ e.2.1 = f.2.1)) : Rel Q' N E' :=
  ⟨fun k => by rw [hk.2]; exact h.keys k, h.sorted, fun x y => by rw [hq, he, h.edge], hn, ho⟩

theorem pairD_ok {N : List Int} {a b : Int} (h : pairD N a b = 0) : a ≠ b ∧ a ∈ N ∧ b ∈ N := by
  unfold pairD at h
  split at h
  · omega
  · next hab =>
    split at h
    · next h2 => exact ⟨hab, h2⟩
    · omega

theorem Rel.eq_edge {Q : Gr} {N : List Int} {E : Eg} (h : Rel Q N E) {a b : Int} {q : Int × Nat × List (Int × Bool)} (hf : Q.find? (fun q => decide (q.1 = a)) = some q) : edgeO q.2.2 b = edgeD E a b := by
  have := h.edge a b
  unfold eQ at this
  rw [hf] at this
  exact this

theorem app_ok {N : List Int} {E : Eg} {a b : Int} (v : Bool) (hab : a ≠ b) (ha : a ∈ N) (hb : b ∈ N) (hn : ∀ e ∈ E, e.1 < e.2.1 ∧ e.1 ∈ N ∧ e.2.1 ∈ N) (ho : E.Pairwise fun e f => ¬ (e.1 = f.1 ∧ e.2.1 = f.2.1)) (hat : atE E a b = none) :
    (∀ e ∈ E ++ [(min a b, max a b, v)], e.1 < e.2.1 ∧ e.1 ∈ N ∧ e.2.1 ∈ N) ∧ (E ++ [(min a b, max a b, v)]).Pairwise fun e f => ¬ (e.1 = f.1 ∧ e.2.1 = f.2.1) := by
  constructor
  · intro e he
    rcases List.mem_append.1 he with he | he
    · exact hn e he
    · rw [List.mem_singleton] at he
      subst he
      refine ⟨?_, ?_, ?_⟩
      · show min a b < max a b; omega
      · show min a b ∈ N; rcases Int.le_total a b with h | h
        · rw [Int.min_eq_left h]; exact ha
        · rw [Int.min_eq_right h]; exact hb
      · show max a b ∈ N; rcases Int.le_total a b with h | h
        · rw [Int.max_eq_right h]; exact hb
        · rw [Int.max_eq_left h]; exact ha
  · rw [List.pairwise_append]
    refine ⟨ho, List.pairwise_singleton _ _, fun e he f hf hh => ?_⟩
    rw [List.mem_singleton] at hf
    subst hf
    have := List.findIdx?_eq_none_iff.1 hat e he
    rw [isE_iff.2 hh] at this
    cases this

theorem set_ok {N : List Int} {E : Eg} {i : Nat} (v : Bool) (hi : i < E.length) (hn : ∀ e ∈ E, e.1 < e.2.1 ∧ e.1 ∈ N ∧ e.2.1 ∈ N) (ho : E.Pairwise fun e f => ¬ (e.1 = f.1 ∧ e.2.1 = f.2.1)) :
    (∀ e ∈ E.set i (E[i].1, E[i].2.1, v), e.1 < e.2.1 ∧ e.1 ∈ N ∧ e.2.1 ∈ N) ∧ (E.set i (E[i].1, E[i].2.1, v)).Pairwise fun e f => ¬ (e.1 = f.1 ∧ e.2.1 = f.2.1) := by
  constructor
  · intro e he
    rcases List.mem_or_eq_of_mem_set he with he | rfl
    · exact hn e he
    · exact hn E[i] (List.getElem_mem hi)
  · have hm : (E.set i (E[i].1, E[i].2.1, v)).map (fun e => (e.1, e.2.1)) = E.map (fun e => (e.1, e.2.1)) := by
      rw [List.map_set]
      show (E.map fun e => (e.1, e.2.1)).set i (E[i].1, E[i].2.1) = _
      have : (E[i].1, E[i].2.1) = (E.map fun e => (e.1, e.2.1))[i]'(by simpa using hi) := by simp
      rw [this, List.set_getElem_self]
    have h1 : (E.map fun e => (e.1, e.2.1)).Pairwise fun e f => ¬ (e.1 = f.1 ∧ e.2 = f.2) := List.pairwise_map.2 ho
    rw [← hm] at h1
    exact List.pairwise_map.1 h1

theorem Rel.bind {Q : Gr} {N : List Int} {E : Eg} (h : Rel Q N E) (a b : Int) : (bindG Q a b).1 = (bindD N E a b).1 ∧ Rel (bindG Q a b).2 N (bindD N E a b).2 ∧ SameN Q (bindG Q a b).2 := by
  unfold bindG bindD
  rw [h.pair a b]
  by_cases hp : pairD N a b = 0
  · rw [if_neg (by simp [hp]), if_neg (by simp [hp])]
    obtain ⟨hab, ha, hb⟩ := pairD_ok hp
    have haQ := (h.keys a).2 ha
    have hbQ := (h.keys b).2 hb
    obtain ⟨q, -, -, hf⟩ := find_node haQ
    rw [hf]
    simp only []
    rw [h.eq_edge hf, edgeD_at]
    cases hat : atE E a b with
    | none =>
      have hE : edgeD E a b = none := by rw [edgeD_at, hat]; rfl
      have hok := app_ok true hab ha hb h.ends h.once hat
      simp only [Option.bind_none, Option.getD_none, Bool.false_eq_true, if_false]
      exact ⟨by simp, h.upd (v := some true) (outer_blocks_join Q a b true) (eQ_join haQ hbQ hab true) (edgeD_app hE true) hok.1 hok.2, outer_blocks_join Q a b true⟩
    | some i =>
      obtain ⟨hi, h1, h2⟩ := at_edge hat
      simp only [Option.bind_some, List.getElem?_eq_getElem hi, Option.map_some, Option.getD_some]
      cases hv : E[i].2.2 with
      | true => exact ⟨by simp, by simpa using h, by simp [SameN]⟩
      | false =>
        have hok := set_ok true hi h.ends h.once
        rw [h1, h2] at hok
        simp only [Bool.false_eq_true, if_false, Option.some.injEq]
        exact ⟨by simp, h.upd (v := some true) (outer_blocks_join Q a b true) (eQ_join haQ hbQ hab true) (edgeD_set hi h1 h2 h.once true) hok.1 hok.2, outer_blocks_join Q a b true⟩
  · rw [if_pos (by simpa using hp), if_pos (by simpa using hp)]
    exact ⟨rfl, h, rfl, rfl⟩

theorem Rel.link {Q : Gr} {N : List Int} {E : Eg} (h : Rel Q N E) (a b : Int) : (linkG Q a b).1 = (linkD N E a b).1 ∧ Rel (linkG Q a b).2 N (linkD N E a b).2 ∧ SameN Q (linkG Q a b).2 := by
  unfold linkG linkD
  rw [h.pair a b]
  by_cases hp : pairD N a b = 0
  · rw [if_neg (by simp [hp]), if_neg (by simp [hp])]
    obtain ⟨hab, ha, hb⟩ := pairD_ok hp
    have haQ := (h.keys a).2 ha
    have hbQ := (h.keys b).2 hb
    obtain ⟨q, -, -, hf⟩ := find_node haQ
    rw [hf]
    simp only []
    rw [h.eq_edge hf, edgeD_at]
    cases hat : atE E a b with
    | none =>
      have hE : edgeD E a b = none := by rw [edgeD_at, hat]; rfl
      have hok := app_ok false hab ha hb h.ends h.once hat
      simp only [Option.bind_none, Option.isSome_none, Bool.false_eq_true, if_false]
      exact ⟨by simp, h.upd (v := some false) (outer_blocks_join Q a b false) (eQ_join haQ hbQ hab false) (edgeD_app hE false) hok.1 hok.2, outer_blocks_join Q a b false⟩
    | some i =>
      obtain ⟨hi, h1, h2⟩ := at_edge hat
      simp only [Option.bind_some, List.getElem?_eq_getElem hi, Option.map_some, Option.isSome_some, if_true]
      exact ⟨by simp, by simpa using h, by simp [SameN]⟩
  · rw [if_pos (by simpa using hp), if_pos (by simpa using hp)]
    exact ⟨rfl, h, rfl, rfl⟩

theorem Rel.cut {Q : Gr} {N : List Int} {E : Eg} (h : Rel Q N E) (a b : Int) : (cutG Q a b).1 = (cutD N E a b).1 ∧ Rel (cutG Q a b).2 N (cutD N E a b).2 ∧ SameN Q (cutG Q a b).2 := by
  unfold cutG cutD
  rw [h.pair a b]
  by_cases hp : pairD N a b = 0
  · rw [if_neg (by simp [hp]), if_neg (by simp [hp])]
    obtain ⟨hab, ha, hb⟩ := pairD_ok hp
    have haQ := (h.keys a).2 ha
    have hbQ := (h.keys b).2 hb
    obtain ⟨q, -, -, hf⟩ := find_node haQ
    rw [hf]
    simp only []
    rw [h.eq_edge hf, edgeD_at]
    cases hat : atE E a b with
    | none => exact ⟨by simp, by simpa using h, by simp [SameN]⟩
    | some i =>
      obtain ⟨hi, h1, h2⟩ := at_edge hat
      simp only [Option.bind_some, List.getElem?_eq_getElem hi, Option.map_some]
      cases hv : E[i].2.2 with
      | true => exact ⟨by simp, by simpa using h, by simp [SameN]⟩
      | false =>
        simp only [Option.some.injEq, Bool.false_eq_true, if_false]
        exact ⟨by simp, h.upd (v := none) (outer_blocks_cut Q a b) (eQ_cut haQ hbQ hab) (edgeD_erase hi h1 h2 h.once) (fun e he => h.ends e (List.mem_of_mem_eraseIdx he)) (h.once.sublist (List.eraseIdx_sublist _ _)), outer_blocks_cut Q a b⟩
  · rw [if_pos (by simpa using hp), if_pos (by simpa using hp)]
    exact ⟨rfl, h, rfl, rfl⟩

theorem Rel.add {Q : Gr} {N : List Int} {E : Eg} (h : Rel Q N E) {k : Int} (hk : k ∉ N) (b : Nat) : Rel (Q ++ [(k, b, [])]) (putZ N k) E := by
  refine ⟨fun x => ?_, putZ_sorted h.sorted hk, fun x y => ?_, fun e he => ?_, h.once⟩
  · rw [List.map_append, List.mem_append, mem_putZ, h.keys]
    simp [or_comm]
  · rw [← h.edge]
    unfold eQ
    rw [List.find?_append]
    cases hf : Q.find? fun q => decide (q.1 = x) with
    | some q => rfl
    | none =>
      by_cases hx : k = x
      · simp [hx, edgeO]
      · simp [hx]
  · have := h.ends e he
    exact ⟨this.1, mem_putZ.2 (.inr this.2.1), mem_putZ.2 (.inr this.2.2)⟩

end Go.Proofs.YtpjbkaibgajpcaaGreat

namespace Go.Proofs.YtpjbkaibgajpcaaGreat
open Go.RowKit
set_option maxRecDepth 20000

def nearO (k : Int) (soft : Bool) (e : Int × Int × Bool) : Option Int :=
  if (soft && e.2.2) = true then none else if e.1 = k then some e.2.1 else if e.2.1 = k then some e.1 else none

def nearL (E : Eg) (k : Int) (soft : Bool) : List Int := E.filterMap (nearO k soft)

theorem nearD_eq (E : Eg) (k : Int) (soft : Bool) : nearD E k soft = (nearL E k soft).foldl putZ [] := by
  have : ∀ (E : Eg) (out : List Int), E.foldl (nearStep k soft) out = (E.filterMap (nearO k soft)).foldl putZ out := by
    intro E
    induction E with
    | nil => intro out; rfl
    | cons e E ih =>
      intro out
      rw [List.foldl_cons, ih, List.filterMap_cons]
      unfold nearStep nearO
      split
      · rfl
      · split
        · rfl
        · split <;> rfl
  exact this E []

theorem foldl_putZ_perm : ∀ (l out : List Int), (l.foldl putZ out).Perm (l ++ out)
  | [], _ => List.Perm.refl _
  | x :: l, out => (foldl_putZ_perm l (putZ out x)).trans ((List.Perm.append_left l (putZ_perm out x)).trans List.perm_middle)

theorem foldl_putZ_sorted : ∀ (l out : List Int), out.Pairwise (· < ·) → (l ++ out).Nodup → (l.foldl putZ out).Pairwise (· < ·)
  | [], _, h, _ => h
  | x :: l, out, h, hn => by
    have hx : x ∉ out := fun hh => (List.nodup_cons.1 hn).1 (List.mem_append_right _ hh)
    refine foldl_putZ_sorted l (putZ out x) (putZ_sorted h hx) ?_
    exact ((List.Perm.append_left l (putZ_perm out x)).trans List.perm_middle).nodup_iff.2 hn

theorem once_eq {E : Eg} (ho : E.Pairwise fun e f => ¬ (e.1 = f.1 ∧ e.2.1 = f.2.1)) {e f : Int × Int × Bool} (he : e ∈ E) (hf : f ∈ E) (h1 : e.1 = f.1) (h2 : e.2.1 = f.2.1) : e = f := by
  induction E with
  | nil => cases he
  | cons g E ih =>
    rw [List.pairwise_cons] at ho
    rcases List.mem_cons.1 he with h3 | h3
    · rcases List.mem_cons.1 hf with h4 | h4
      · rw [h3, h4]
      · exact absurd ⟨by rw [← h3]; exact h1, by rw [← h3]; exact h2⟩ (ho.1 f h4)
    · rcases List.mem_cons.1 hf with h4 | h4
      · exact absurd ⟨by rw [← h4]; exact h1.symm, by rw [← h4]; exact h2.symm⟩ (ho.1 e h3)
      · exact ih ho.2 h3 h4

theorem nearO_some {k x : Int} {soft : Bool} {e : Int × Int × Bool} (hlt : e.1 < e.2.1) : nearO k soft e = some x ↔ (soft && e.2.2) = false ∧ e.1 = min k x ∧ e.2.1 = max k x := by
  unfold nearO
  by_cases h : (soft && e.2.2) = true
  · simp [h]
  · have h' : (soft && e.2.2) = false := by simpa using h
    rw [if_neg h]
    simp only [h', true_and]
    by_cases h1 : e.1 = k
    · rw [if_pos h1, Option.some.injEq]
      omega
    · rw [if_neg h1]
      by_cases h2 : e.2.1 = k
      · rw [if_pos h2, Option.some.injEq]
        omega
      · rw [if_neg h2]
        constructor
        · intro h; cases h
        · intro h; omega

structure Egs (N : List Int) (E : Eg) : Prop where
  ends : ∀ e ∈ E, e.1 < e.2.1 ∧ e.1 ∈ N ∧ e.2.1 ∈ N
  once : E.Pairwise fun e f => ¬ (e.1 = f.1 ∧ e.2.1 = f.2.1)

theorem Rel.egs {Q : Gr} {N : List Int} {E : Eg} (h : Rel Q N E) : Egs N E := ⟨h.ends, h.once⟩

theorem mem_nearL {N : List Int} {E : Eg} (h : Egs N E) {k x : Int} {soft : Bool} : x ∈ nearL E k soft ↔ ∃ v, edgeD E k x = some v ∧ (soft && v) = false := by
  unfold nearL edgeD
  rw [List.mem_filterMap]
  constructor
  · rintro ⟨e, he, hn⟩
    obtain ⟨h1, h2, h3⟩ := (nearO_some (h.ends e he).1).1 hn
    cases hf : E.find? (isE (min k x) (max k x)) with
    | none => exact absurd (isE_iff.2 ⟨h2, h3⟩) (by simpa using List.find?_eq_none.1 hf e he)
    | some f =>
      have hfe := isE_iff.1 (List.find?_some hf)
      have : e = f := once_eq h.once he (List.mem_of_find?_eq_some hf) (h2.trans hfe.1.symm) (h3.trans hfe.2.symm)
      subst this
      exact ⟨e.2.2, rfl, h1⟩
  · rintro ⟨v, hv, hs⟩
    rw [Option.map_eq_some_iff] at hv
    obtain ⟨e, hf, rfl⟩ := hv
    have he := List.mem_of_find?_eq_some hf
    have hfe := isE_iff.1 (List.find?_some hf)
    exact ⟨e, he, (nearO_some (h.ends e he).1).2 ⟨hs, hfe⟩⟩

theorem nodup_nearL {N : List Int} {E : Eg} (h : Egs N E) (k : Int) (soft : Bool) : (nearL E k soft).Nodup := by
  unfold nearL
  refine List.Pairwise.filterMap (R := fun e f => (e.1 < e.2.1 ∧ f.1 < f.2.1) ∧ ¬ (e.1 = f.1 ∧ e.2.1 = f.2.1)) _ ?_ (h.once.imp_of_mem fun ha hb hr => ⟨⟨(h.ends _ ha).1, (h.ends _ hb).1⟩, hr⟩)
  rintro e f ⟨⟨h1, h2⟩, h3⟩ x hx y hy rfl
  have a1 := ((nearO_some h1).1 hx).2
  have a2 := ((nearO_some h2).1 hy).2
  exact h3 ⟨a1.1.trans a2.1.symm, a1.2.trans a2.2.symm⟩

theorem nearD_sorted {N : List Int} {E : Eg} (h : Egs N E) (k : Int) (soft : Bool) : (nearD E k soft).Pairwise (· < ·) := by
  rw [nearD_eq]
  exact foldl_putZ_sorted _ _ List.Pairwise.nil (by simpa using nodup_nearL h k soft)

theorem nearD_length (E : Eg) (k : Int) (soft : Bool) : (nearD E k soft).length = (nearL E k soft).length := by
  rw [nearD_eq, (foldl_putZ_perm _ _).length_eq]
  simp

theorem mem_nearD {N : List Int} {E : Eg} (h : Egs N E) {k x : Int} {soft : Bool} : x ∈ nearD E k soft ↔ ∃ v, edgeD E k x = some v ∧ (soft && v) = false := by
  rw [nearD_eq, (foldl_putZ_perm _ _).mem_iff, List.append_nil]
  exact mem_nearL h

def Inner (Q : Gr) : Prop := ∀ q ∈ Q, (q.2.2.map (·.1)).Nodup

theorem GrAt.inn {w : World} {p m : Nat} {Q : Gr} (h : GrAt w p m Q) : Inner Q := by
  intro q hq
  obtain ⟨es, c, hi⟩ := h.inner q hq
  have := hi.keys
  simpa [innerL, List.map_map, Function.comp_def] using this

theorem edgeO_some {E : List (Int × Bool)} {x : Int} : (edgeO E x).isSome = true ↔ x ∈ E.map (·.1) := by
  unfold edgeO
  rw [Option.isSome_map, List.find?_isSome, List.mem_map]
  simp

theorem mem_nearZ {Q : Gr} {k x : Int} : x ∈ nearZ Q k ↔ (eQ Q k x).isSome = true := by
  unfold nearZ eQ
  cases hf : Q.find? fun q => decide (q.1 = k) with
  | none => simp
  | some q =>
    simp only [Option.map_some, Option.getD_some, Option.bind_some]
    rw [mem_sortZ, edgeO_some]

theorem mem_softZ {Q : Gr} {k x : Int} : x ∈ softZ Q k ↔ eQ Q k x = some false := by
  unfold softZ eQ
  cases hf : Q.find? fun q => decide (q.1 = k) with
  | none => simp
  | some q =>
    simp only [Option.map_some, Option.getD_some, Option.bind_some]
    rw [List.mem_filter, mem_sortZ, ← edgeO_some]
    unfold needB
    cases edgeO q.2.2 x with
    | none => simp
    | some v => cases v <;> simp

theorem nearZ_sorted {Q : Gr} (h : Inner Q) (k : Int) : (nearZ Q k).Pairwise (· < ·) := by
  unfold nearZ
  cases hf : Q.find? fun q => decide (q.1 = k) with
  | none => exact List.Pairwise.nil
  | some q => exact sortZ_sorted (h q (List.mem_of_find?_eq_some hf))

theorem softZ_sorted {Q : Gr} (h : Inner Q) (k : Int) : (softZ Q k).Pairwise (· < ·) := by
  unfold softZ
  cases hf : Q.find? fun q => decide (q.1 = k) with
  | none => exact List.Pairwise.nil
  | some q => exact (sortZ_sorted (h q (List.mem_of_find?_eq_some hf))).sublist List.filter_sublist

theorem Rel.near {Q : Gr} {N : List Int} {E : Eg} (h : Rel Q N E) (hi : Inner Q) (k : Int) : nearZ Q k = nearD E k false := by
  refine sortedI_ext (nearZ_sorted hi k) (nearD_sorted h.egs k false) fun x => ?_
  rw [mem_nearZ, mem_nearD h.egs, h.edge]
  cases edgeD E k x <;> simp

theorem Rel.soft {Q : Gr} {N : List Int} {E : Eg} (h : Rel Q N E) (hi : Inner Q) (k : Int) : softZ Q k = nearD E k true := by
  refine sortedI_ext (softZ_sorted hi k) (nearD_sorted h.egs k true) fun x => ?_
  rw [mem_softZ, mem_nearD h.egs, h.edge]
  cases edgeD E k x with
  | none => simp
  | some v => cases v <;> simp

def adj (E : Eg) (needed : Bool) (a b : Int) : Prop := ∃ v, edgeD E a b = some v ∧ (needed && !v) = false

theorem edgeD_comm (E : Eg) (a b : Int) : edgeD E a b = edgeD E b a := by
  unfold edgeD
  rw [Int.min_comm, Int.max_comm]

theorem adj_comm {E : Eg} {needed : Bool} {a b : Int} (h : adj E needed a b) : adj E needed b a := by
  obtain ⟨v, h1, h2⟩ := h
  exact ⟨v, by rw [edgeD_comm]; exact h1, h2⟩

theorem adj_mem {N : List Int} {E : Eg} (h : Egs N E) {needed : Bool} {e : Int × Int × Bool} (he : e ∈ E) (hn : (needed && !e.2.2) = false) : adj E needed e.1 e.2.1 := by
  have hlt := (h.ends e he).1
  refine ⟨e.2.2, ?_, hn⟩
  unfold edgeD
  rw [Int.min_eq_left (by omega), Int.max_eq_right (by omega)]
  cases hf : E.find? (isE e.1 e.2.1) with
  | none => exact absurd (isE_iff.2 ⟨rfl, rfl⟩) (by simpa using List.find?_eq_none.1 hf e he)
  | some f =>
    have hfe := isE_iff.1 (List.find?_some hf)
    have : e = f := once_eq h.once he (List.mem_of_find?_eq_some hf) hfe.1.symm hfe.2.symm
    rw [this]; rfl

theorem mem_adj {E : Eg} {needed : Bool} {a b : Int} (h : adj E needed a b) : ∃ e ∈ E, (needed && !e.2.2) = false ∧ e.1 = min a b ∧ e.2.1 = max a b := by
  obtain ⟨v, h1, h2⟩ := h
  unfold edgeD at h1
  rw [Option.map_eq_some_iff] at h1
  obtain ⟨e, hf, rfl⟩ := h1
  exact ⟨e, List.mem_of_find?_eq_some hf, h2, isE_iff.1 (List.find?_some hf)⟩

theorem Way.mono {R S : Int → Int → Prop} {a b : Int} (h : Way R a b) (hs : ∀ x y, R x y → S x y) : Way S a b := by
  induction h with
  | here => exact .here
  | step _ hr ih => exact .step ih (hs _ _ hr)

theorem Way.trans {R : Int → Int → Prop} {a b c : Int} (h : Way R a b) (g : Way R b c) : Way R a c := by
  induction g with
  | here => exact h
  | step _ hr ih => exact .step ih hr

theorem Way.symm {R : Int → Int → Prop} (hR : ∀ x y, R x y → R y x) {a b : Int} (h : Way R a b) : Way R b a := by
  induction h with
  | here => exact .here
  | step _ hr ih => exact (Way.step .here (hR _ _ hr)).trans ih

theorem step_len (needed : Bool) (l : List Int) (e : Int × Int × Bool) : reachStep needed l e = l ∨ (reachStep needed l e).length = l.length + 1 := by
  unfold reachStep
  split
  · exact .inl rfl
  · split
    · exact .inr (putZ_length _ _)
    · split
      · exact .inr (putZ_length _ _)
      · exact .inl rfl

theorem fold_len (needed : Bool) : ∀ (E : Eg) (l : List Int), l.length ≤ (E.foldl (reachStep needed) l).length
  | [], _ => Nat.le_refl _
  | e :: E, l => by
    rw [List.foldl_cons]
    have := fold_len needed E (reachStep needed l e)
    rcases step_len needed l e with h | h
    · rw [h] at this ⊢; exact this
    · omega

theorem fold_same (needed : Bool) : ∀ (E : Eg) (l : List Int), (E.foldl (reachStep needed) l).length = l.length → ∀ e ∈ E, reachStep needed l e = l
  | [], _, _, e, he => by cases he
  | f :: E, l, hl, e, he => by
    rw [List.foldl_cons] at hl
    have h1 : reachStep needed l f = l := by
      rcases step_len needed l f with h | h
      · exact h
      · have := fold_len needed E (reachStep needed l f)
        omega
    rcases List.mem_cons.1 he with rfl | he
    · exact h1
    · rw [h1] at hl
      exact fold_same needed E l hl e he

theorem fold_still (needed : Bool) : ∀ (E : Eg) (l : List Int), (∀ e ∈ E, reachStep needed l e = l) → E.foldl (reachStep needed) l = l
  | [], _, _ => rfl
  | e :: E, l, h => by
    rw [List.foldl_cons, h e (List.mem_cons_self ..)]
    exact fold_still needed E l fun f hf => h f (List.mem_cons_of_mem _ hf)

theorem still_closed {needed : Bool} {l : List Int} {e : Int × Int × Bool} (h : reachStep needed l e = l) (hn : (needed && !e.2.2) = false) : e.1 ∈ l ↔ e.2.1 ∈ l := by
  have hne : ∀ k, putZ l k ≠ l := fun k hk => by have := congrArg List.length hk; rw [putZ_length] at this; omega
  unfold reachStep at h
  rw [if_neg (by simp [hn])] at h
  by_cases h1 : e.1 ∈ l <;> by_cases h2 : e.2.1 ∈ l
  · exact ⟨fun _ => h2, fun _ => h1⟩
  · rw [if_pos ⟨h1, h2⟩] at h; exact absurd h (hne _)
  · rw [if_neg (fun hh => h1 hh.1), if_pos ⟨h2, h1⟩] at h; exact absurd h (hne _)
  · exact ⟨fun hh => absurd hh h1, fun hh => absurd hh h2⟩

theorem reachN_in {N : List Int} {E : Eg} (h : Egs N E) (needed : Bool) {k : Int} (hk : k ∈ N) : ∀ n, ∀ x ∈ reachN E needed k n, x ∈ N
  | 0 => fun x hx => by simp only [reachN, List.mem_singleton] at hx; rw [hx]; exact hk
  | n + 1 => (reachFold_ok (reachN_ok E needed k n).1 (reachN_in h needed hk n) fun e he => (h.ends e he).2).2

theorem reachN_grow {N : List Int} {E : Eg} (_h : Egs N E) (needed : Bool) (k : Int) : ∀ n, (∀ e ∈ E, reachStep needed (reachN E needed k n) e = reachN E needed k n) ∨ n + 1 ≤ (reachN E needed k n).length
  | 0 => .inr (by simp [reachN])
  | n + 1 => by
    rcases reachN_grow _h needed k n with h1 | h1
    · left
      have : reachN E needed k (n + 1) = reachN E needed k n := fold_still needed E _ h1
      rw [this]; exact h1
    · by_cases h2 : (reachN E needed k (n + 1)).length = (reachN E needed k n).length
      · left
        have h3 := fold_same needed E _ h2
        have : reachN E needed k (n + 1) = reachN E needed k n := fold_still needed E _ h3
        rw [this]; exact h3
      · right
        have := fold_len needed E (reachN E needed k n)
        have e : reachN E needed k (n + 1) = E.foldl (reachStep needed) (reachN E needed k n) := rfl
        rw [← e] at this
        omega

theorem step_way {N : List Int} {E : Eg} (h : Egs N E) {needed : Bool} {k : Int} {l : List Int} {e : Int × Int × Bool} (he : e ∈ E) (hl : ∀ x ∈ l, Way (adj E needed) k x) : ∀ x ∈ reachStep needed l e, Way (adj E needed) k x := by
  unfold reachStep
  split
  · exact hl
  · next hn =>
    have hn' : (needed && !e.2.2) = false := by simpa using hn
    have ha := adj_mem h he hn'
    split
    · next h1 =>
      intro x hx
      rcases mem_putZ.1 hx with rfl | hx
      · exact .step (hl _ h1.1) ha
      · exact hl x hx
    · split
      · next h1 =>
        intro x hx
        rcases mem_putZ.1 hx with rfl | hx
        · exact .step (hl _ h1.1) (adj_comm ha)
        · exact hl x hx
      · exact hl

theorem fold_way {N : List Int} {E : Eg} (h : Egs N E) {needed : Bool} {k : Int} : ∀ {F : Eg} {l : List Int}, (∀ e ∈ F, e ∈ E) → (∀ x ∈ l, Way (adj E needed) k x) → ∀ x ∈ F.foldl (reachStep needed) l, Way (adj E needed) k x
  | [], _, _, hl => hl
  | e :: F, l, hF, hl => fold_way h (F := F) (l := reachStep needed l e) (fun f hf => hF f (List.mem_cons_of_mem _ hf)) (step_way h (hF e (List.mem_cons_self ..)) hl)

theorem reachN_way {N : List Int} {E : Eg} (h : Egs N E) (needed : Bool) (k : Int) : ∀ n, ∀ x ∈ reachN E needed k n, Way (adj E needed) k x
  | 0 => fun x hx => by simp only [reachN, List.mem_singleton] at hx; rw [hx]; exact .here
  | n + 1 => fold_way h (fun _ he => he) (reachN_way h needed k n)

theorem step_sorted {needed : Bool} {l : List Int} {e : Int × Int × Bool} (hl : l.Pairwise (· < ·)) : (reachStep needed l e).Pairwise (· < ·) := by
  unfold reachStep
  split
  · exact hl
  · split
    · next h => exact putZ_sorted hl h.2
    · split
      · next h => exact putZ_sorted hl h.2
      · exact hl

theorem fold_sorted {needed : Bool} : ∀ {E : Eg} {l : List Int}, l.Pairwise (· < ·) → (E.foldl (reachStep needed) l).Pairwise (· < ·)
  | [], _, hl => hl
  | e :: E, l, hl => fold_sorted (E := E) (l := reachStep needed l e) (step_sorted hl)

theorem reachN_sorted (E : Eg) (needed : Bool) (k : Int) : ∀ n, (reachN E needed k n).Pairwise (· < ·)
  | 0 => List.pairwise_singleton _ _
  | n + 1 => fold_sorted (reachN_sorted E needed k n)

theorem mem_reachN {N : List Int} {E : Eg} (h : Egs N E) (needed : Bool) {k : Int} (hk : k ∈ N) (x : Int) : x ∈ reachN E needed k N.length ↔ Way (adj E needed) k x := by
  refine ⟨reachN_way h needed k _ x, fun hw => ?_⟩
  have hcl : ∀ e ∈ E, reachStep needed (reachN E needed k N.length) e = reachN E needed k N.length := by
    rcases reachN_grow h needed k N.length with h1 | h1
    · exact h1
    · have := nodup_le (reachN_ok E needed k N.length).1 (reachN_in h needed hk N.length)
      omega
  have hst : k ∈ reachN E needed k N.length := by
    have : ∀ n, k ∈ reachN E needed k n := by
      intro n
      induction n with
      | zero => simp [reachN]
      | succ n ih =>
        have : ∀ (F : Eg) (l : List Int), k ∈ l → k ∈ F.foldl (reachStep needed) l := by
          intro F
          induction F with
          | nil => intro l h; exact h
          | cons e F ih =>
            intro l h
            rw [List.foldl_cons]
            refine ih _ ?_
            unfold reachStep
            split
            · exact h
            · split
              · exact mem_putZ.2 (.inr h)
              · split
                · exact mem_putZ.2 (.inr h)
                · exact h
        exact this E _ ih
    exact this _
  induction hw with
  | here => exact hst
  | step _ hr ih =>
    obtain ⟨e, he, hn, h1, h2⟩ := mem_adj hr
    have := still_closed (hcl e he) hn
    rename_i b c _
    rcases Int.le_total b c with hbc | hbc
    · rw [Int.min_eq_left hbc] at h1
      rw [Int.max_eq_right hbc] at h2
      rw [h1, h2] at this
      exact this.1 ih
    · rw [Int.min_eq_right hbc] at h1
      rw [Int.max_eq_left hbc] at h2
      rw [h1, h2] at this
      exact this.2 ih

theorem Rel.adj_near {Q : Gr} {N : List Int} {E : Eg} (h : Rel Q N E) {a b : Int} : b ∈ nearZ Q a ↔ adj E false a b := by
  rw [mem_nearZ, h.edge]
  unfold adj
  cases edgeD E a b <;> simp

theorem Rel.reach {Q : Gr} {N : List Int} {E : Eg} (h : Rel Q N E) {k : Int} {L : List Int} (hF : Found Q k L L.length) : sortZ L = reachN E false k N.length := by
  have hk : k ∈ N := (h.keys k).1 (hF.node k hF.start)
  refine sortedI_ext (sortZ_sorted hF.nodup) (reachN_sorted E false k _) fun x => ?_
  rw [mem_sortZ, hF.all x, mem_reachN h.egs false hk]
  exact ⟨fun hw => hw.mono fun _ _ => h.adj_near.1, fun hw => hw.mono fun _ _ => h.adj_near.2⟩

theorem Rel.shut {Q : Gr} {N : List Int} {E : Eg} (h : Rel Q N E) (hn : (Q.map (·.1)).Nodup) : ShutQ Q := by
  intro q hq x hx
  have hs : (edgeO q.2.2 x.1).isSome = true := edgeO_some.2 (List.mem_map_of_mem hx)
  obtain ⟨r, hr, hre, hf⟩ := find_node (List.mem_map_of_mem (f := (·.1)) hq)
  have : r = q := nodup_inj hn hr hq hre
  subst this
  have he := h.edge r.1 x.1
  unfold eQ at he
  rw [hf] at he
  simp only [Option.bind_some] at he
  rw [he] at hs
  obtain ⟨v, hv⟩ := Option.isSome_iff_exists.1 hs
  obtain ⟨e, he2, -, h1, h2⟩ := mem_adj (E := E) (needed := false) ⟨v, hv, rfl⟩
  have hen := h.ends e he2
  rw [h.keys]
  rcases Int.le_total r.1 x.1 with hb | hb
  · rw [Int.max_eq_right hb] at h2; rw [← h2]; exact hen.2.2
  · rw [Int.min_eq_right hb] at h1; rw [← h1]; exact hen.2.1

theorem Rel.start {Q : Gr} {N : List Int} (hs : N.Pairwise (· < ·)) (hk : ∀ k, k ∈ Q.map (·.1) ↔ k ∈ N) (hb : ∀ q ∈ Q, q.2.2 = []) : Rel Q N [] := by
  refine ⟨hk, hs, fun x y => ?_, by simp, List.Pairwise.nil⟩
  unfold eQ edgeD
  cases hf : Q.find? fun q => decide (q.1 = x) with
  | none => rfl
  | some q => simp [hb q (List.mem_of_find?_eq_some hf), edgeO]

end Go.Proofs.YtpjbkaibgajpcaaGreat
