/-
  graph's document: Cut.
  graph: the program's graph and the document's (plain): Add, Bind, Link, Cut.
-/
import Derived.Test.YtdbeekdnehojnaaJ29
import Derived.Test.YtdbeekdnehojnaaJ24
import Derived.Test.YtdbeekdnehojnaaJ25
import Derived.Test.YtdbeekdnehojnaaJ28
namespace Go.Proofs.Ytdbeekdnehojnaa
open Go.RowKit

theorem flatE_take (E : Eg) (k : Nat) : (flatE E).take (k * 3) = flatE (E.take k) := by
  induction E generalizing k with
  | nil => simp [flatE]
  | cons e E ih =>
    cases k with
    | zero => simp [flatE]
    | succ k =>
      have e1 : (k + 1) * 3 = k * 3 + 1 + 1 + 1 := by omega
      rw [e1]
      simp [flatE, ih]

theorem flatE_drop (E : Eg) (k : Nat) : (flatE E).drop (k * 3) = flatE (E.drop k) := by
  induction E generalizing k with
  | nil => simp [flatE]
  | cons e E ih =>
    cases k with
    | zero => simp
    | succ k =>
      have e1 : (k + 1) * 3 = k * 3 + 1 + 1 + 1 := by omega
      rw [e1]
      simp [flatE, ih]

set_option maxRecDepth 100000 in
set_option maxHeartbeats 4000000 in
theorem dCut (w : World) (B c : Nat) (N : List Int) (E : Eg) (vn ve : Value) (a b : Int) (h : DGr w B c N E vn ve) (hB : B ≤ w.heap.size) (hl : E.length ≤ 900000) :
    Calls Try.prog 30 #[.pointer (some ⟨c, 0, none⟩), .int .u64 a, .int .u64 b] w fun e w' =>
      e = .returned (.int .i64 (cutD N E a b).1) ∧ ∃ v, DGr w' B c N (cutD N E a b).2 vn v ∧ Mod (DocM w B) w w' := by
  have cF := dFindAll w B c N E vn ve a b h
  have H := Lib.hid h
  rcases findZ_pair N E a b with ⟨hp, hf⟩ | ⟨hp, ha, hf⟩ | ⟨hp, k, hk, ha, hf⟩
  · rw [hf] at cF
    have hz : cutD N E a b = (pairD N a b, E) := by unfold cutD; rw [if_pos hp]
    rw [hz]
    generalize pairD N a b = z at hp cF
    have b1 : (z != 0) = true := by simpa using hp
    clear h hz hf hp
    go_enter Try.func30, Try.ntmps30
    go_wp2_with (go_at_call 40; refine cF.mono ?_; rintro e w1 ⟨rfl, hb⟩; have HB := Lib.hid hb; clear hb)
    go_ret
    exact ⟨rfl, ve, H.out.below HB.out, Mod.of_below HB.out⟩
  · rw [hf] at cF
    have hz : cutD N E a b = (6, E) := by unfold cutD; rw [if_neg (by simp [hp]), ha]
    rw [hz]
    clear h hz hf hp ha
    go_enter Try.func30, Try.ntmps30
    go_wp2_with (go_at_call 40; refine cF.mono ?_; rintro e w1 ⟨rfl, hb⟩; have HB := Lib.hid hb; clear hb)
    go_ret
    exact ⟨rfl, ve, H.out.below HB.out, Mod.of_below HB.out⟩
  · rw [hf] at cF
    obtain ⟨g, cap, rfl, -, hgl⟩ := h.edges.form (by omega)
    have hcap : E.length ≤ cap := by
      rcases h.edges.2 with ⟨he, -⟩ | ⟨g', c', cur, he, -, -, hn, -⟩
      · cases he
      · rw [(Value.slice.inj he).2.2]; exact hn
    have hcell : ∀ w1, Below w.heap.size w w1 → w1.cell? ⟨g, k * 3 + 2, none⟩ = some (.bool E[k].2.2) ∧ w1.cell? ⟨c, 1, none⟩ = some (.slice (some ⟨g, 0, none⟩) E.length cap) ∧ w1.frozen? ⟨c, 1, none⟩ = false := fun w1 hb => by
      have h1 := H.out.below hb
      exact ⟨by rw [World.ownsRow.cellAt h1.edges _ (by omega)]; exact (flatE_get E k hk).2.2, h1.get1, thawed h1.cell 1⟩
    have hsrc := SrcAt.of_own h.edges
    have i0 : (0 : Int) ≤ (k : Int) := by omega
    have i1 : (k : Int) < (E.length : Int) := by omega
    have hlE : E.length ≤ 9223372036854775807 := by omega
    by_cases hn : E[k].2.2 = true
    · have hz : cutD N E a b = (10, E) := by unfold cutD; rw [if_neg (by simp [hp]), ha]; simp [List.getElem?_eq_getElem hk, hn]
      rw [hz]
      simp only [hn] at hcell
      have HC := Lib.hid hcell
      clear hcell hz hf hp ha h hn hsrc
      go_enter Try.func30, Try.ntmps30
      go_wp2_with (first
        | (go_at_call 40; refine cF.mono ?_; rintro e w1 ⟨rfl, hb⟩; obtain ⟨y0, y1, y2⟩ := HC.out w1 hb; have HB := Lib.hid hb; clear hb))
      go_ret
      exact ⟨rfl, _, H.out.below HB.out, Mod.of_below HB.out⟩
    · have hn' : E[k].2.2 = false := by simpa using hn
      have hz : cutD N E a b = (0, E.eraseIdx k) := by unfold cutD; rw [if_neg (by simp [hp]), ha]; simp [List.getElem?_eq_getElem hk, hn']
      rw [hz]
      simp only [hn'] at hcell
      have HC := Lib.hid hcell
      have HK := Lib.hid hk
      have S1 := Lib.hid (show SrcAt w (some ⟨g, 0, none⟩) k cap 3 (flatE (E.take k)) from by
        have := hsrc.cut 0 k cap (by omega)
        rw [Nat.zero_mul, List.drop_zero, flatE_take] at this
        exact this)
      have FE := Lib.hid (show ∀ E, ∀ u ∈ flatE E, u.oneCell' = true from flatE_one)
      have k1 : (k : Int) ≤ (cap : Int) := by omega
      have k3 : ((k : Int) + 1) ≤ (E.length : Int) := by omega
      have k4 : IntKind.i64.wrap ((k : Int) + 1) = (k : Int) + 1 := by simp [IntKind.wrap, IntKind.signed, IntKind.bits] <;> omega
      have k5 : (0 : Int) ≤ (k : Int) + 1 := by omega
      have k6 : ((k : Int) + 1).toNat = k + 1 := by omega
      have S2' := Lib.hid (show SrcAt w (some ⟨g, (k + 1) * 3, none⟩) (E.length - (k + 1)) (cap - (k + 1)) 3 (flatE (E.drop (k + 1))) from by
        have := hsrc.cut (k + 1) (E.length - (k + 1)) (cap - (k + 1)) (by omega)
        rw [flatE_drop, flatE_take, List.take_of_length_le (by simp)] at this
        simpa using this)
      have ER := Lib.hid (show flatE (E.take k) ++ flatE (E.drop (k + 1)) = flatE (E.eraseIdx k) ∧ (E.eraseIdx k).length = k + (E.length - (k + 1)) from by
        rw [← flatE_append, ← List.eraseIdx_eq_take_drop_succ]
        exact ⟨rfl, by rw [List.length_eraseIdx, if_pos hk]; omega⟩)
      have HS := Lib.hid (show E.length ≤ cap from hcap)
      clear hcell hz hf hp ha h hn hn' hsrc hk
      go_enter Try.func30, Try.ntmps30
      go_wp2_with (first
        | (go_at_call 40; refine cF.mono ?_; rintro e w1 ⟨rfl, hb⟩; obtain ⟨y0, y1, y2⟩ := HC.out w1 hb))
      obtain ⟨W0, hW0⟩ : ∃ W0, W0 = w1.drew := ⟨_, rfl⟩
      have hb0 : Below w.heap.size w W0 := by rw [hW0]; exact hb.drew
      have HW := Lib.hid hW0
      obtain ⟨-, c3, -⟩ := HC.out W0 hb0
      clear hW0 y0 y1 y2 hb
      by_cases hcap2 : cap = k + 1
      · subst hcap2
        have hEl : E.length = k + 1 := by have := HK.out; omega
        have k7 : (k : Int) ≤ (k : Int) + 1 := by omega
        have S2 : Hid (SrcAt w (some ⟨g, 0, none⟩) 0 0 3 (flatE (E.drop (k + 1)))) := Lib.hid (by
          rw [List.drop_eq_nil_of_le (by omega)]
          exact SrcAt.none w _ 3 (.inr ⟨_, rfl⟩))
        refine region_goN 19 (fun w' => w'.cell? ⟨c, 1, none⟩ = some (.slice (some ⟨g, 0, none⟩) E.length (k + 1))) (by kernel_rfl) ?hS0 (fun hH => ?_)
        case hS0 =>
          rw [← HW.out]; exact c3
        rw [← HW.out] at hH ⊢
        refine kYN 0 hH ?_
        repeat simp only [Act.put, uA1, uB1, uC1]
        refine kYN 2 hH ?_
        repeat simp only [Act.put, uA1, uB1, uC1]
        refine kYN 3 hH ?_
        repeat simp only [Act.put, uA1, uB1, uC1]
        refine kYN 4 hH ?_
        repeat simp only [Act.put, uA1, uB1, uC1]
        refine kYN 5 hH ?_
        repeat simp only [Act.put, uA1, uB1, uC1]
        refine kYN 6 hH ?_
        repeat simp only [Act.put, uA1, uB1, uC1]
        refine kYN 7 hH ?_
        repeat simp only [Act.put, uA1, uB1, uC1]
        refine kYN 9 hH ?_
        repeat simp only [Act.put, uA1, uB1, uC1]
        refine kYN 10 hH ?_
        repeat simp only [Act.put, uA1, uB1, uC1]
        refine kYN 11 hH ?_
        repeat simp only [Act.put, uA1, uB1, uC1]
        refine kYN 12 hH ?_
        repeat simp only [Act.put, uA1, uB1, uC1]
        refine kYN 13 hH ?_
        repeat simp only [Act.put, uA1, uB1, uC1]
        refine kYN 14 hH ?_
        repeat simp only [Act.put, uA1, uB1, uC1]
        refine kYN 15 hH ?_
        repeat simp only [Act.put, uA1, uB1, uC1]
        refine spkN 1 rfl (by decide) (by decide +kernel) (by rfl) (fun K' hK => ?_)
        go_simp
        have hr0 := own_empty W0 w.heap.size 50 3 hb0.size
        replace hb0 := hb0.alloc hb0.size (.cells #[] 50)
        try dsimp only
        refine hK.out _ _ ?hS (fun hH' => ?_)
        case hS =>
          exact (HC.out _ hb0).2.1
        clear hK K' hH; have hH := hH'; clear hH'; repeat simp only [Act.put, uA1, uB1, uC1]
        refine spkN 8 rfl (by decide) (by decide +kernel) (by rfl) (fun K' hK => ?_)
        obtain ⟨q2, n2, c2, w2, hrun2, hr2, hg2, -⟩ := run_app rowE hr0 hb0.size (S1.out.below hb0) (FE.out _) (by simp only [maxLen]; omega) (by omega)
        refine wp_append_eq hrun2 _ _ rfl rfl rfl ?_
        replace hb0 := hb0.grown hg2 hb0.size (fun b hb => (hr0.lt b hb).1)
        simp only [Nat.zero_add, List.nil_append] at hr2
        clear hrun2 hg2 hr0
        try dsimp only
        refine hK.out _ _ ?hS (fun hH' => ?_)
        case hS =>
          exact (HC.out _ hb0).2.1
        clear hK K' hH; have hH := hH'; clear hH'; repeat simp only [Act.put, uA1, uB1, uC1]
        refine spkN 16 rfl (by decide) (by decide +kernel) (by rfl) (fun K' hK => ?_)
        obtain ⟨q3, n3, c3, w3, hrun3, hr3, hg3, -⟩ := run_app rowE hr2 hb0.size (S2.out.below hb0) (FE.out _) (by simp only [maxLen]; omega) (by omega)
        refine wp_append_eq hrun3 _ _ rfl rfl rfl ?_
        replace hb0 := hb0.grown hg3 hb0.size (fun b hb => (hr2.lt b hb).1)
        obtain ⟨-, y3, yf⟩ := HC.out _ hb0
        rw [ER.out.1] at hr3
        have LEN3 : k + 0 = (E.eraseIdx k).length := by have := ER.out.2; have := HK.out; have := HS.out; omega
        rw [LEN3] at hr3
        have R := Lib.hid (H.out.setE (E' := E.eraseIdx k) hb0 (World.grownBy.refl _ _) (own_mono hr3 hB))
        clear hrun3 hg3 hr2 hr3 LEN3
        try dsimp only
        refine hK.out _ _ ?hS (fun hH' => ?_)
        case hS =>
          exact (HC.out _ hb0).2.1
        clear hK K' hH; have hH := hH'; clear hH'; repeat simp only [Act.put, uA1, uB1, uC1]
        refine spkN 17 rfl (by decide) (by decide +kernel) (by rfl) (fun K' hK => ?_)
        go_simp
        try dsimp only
        refine hK.out _ _ ?hS (fun hH' => ?_)
        case hS =>
          exact (HC.out _ hb0).2.1
        clear hK K' hH; have hH := hH'; clear hH'; repeat simp only [Act.put, uA1, uB1, uC1]
        refine kYN 18 hH ?_
        repeat simp only [Act.put, uA1, uB1, uC1]
        refine spkL rfl (by decide +kernel) (by rfl) (fun K' hK => ?_)
        go_simp
        try dsimp only
        refine hK.out _ _ ?_
        clear hK K' hH; repeat simp only [Act.put, uA1, uB1, uC1]
        refine anyBut_done (by decide +kernel) ?_ _
        go_wp2_with fail
        go_ret
        exact ⟨rfl, _, R.out⟩
      · have hcap' : ¬ ((cap : Int) = (k : Int) + 1) := by omega
        have S2 := S2'
        refine region_goN 19 (fun w' => w'.cell? ⟨c, 1, none⟩ = some (.slice (some ⟨g, 0, none⟩) E.length cap)) (by kernel_rfl) ?hS0 (fun hH => ?_)
        case hS0 =>
          rw [← HW.out]; exact c3
        rw [← HW.out] at hH ⊢
        refine kYN 0 hH ?_
        repeat simp only [Act.put, uA1, uB1, uC1]
        refine kYN 2 hH ?_
        repeat simp only [Act.put, uA1, uB1, uC1]
        refine kYN 3 hH ?_
        repeat simp only [Act.put, uA1, uB1, uC1]
        refine kYN 4 hH ?_
        repeat simp only [Act.put, uA1, uB1, uC1]
        refine kYN 5 hH ?_
        repeat simp only [Act.put, uA1, uB1, uC1]
        refine kYN 6 hH ?_
        repeat simp only [Act.put, uA1, uB1, uC1]
        refine kYN 7 hH ?_
        repeat simp only [Act.put, uA1, uB1, uC1]
        refine kYN 9 hH ?_
        repeat simp only [Act.put, uA1, uB1, uC1]
        refine kYN 10 hH ?_
        repeat simp only [Act.put, uA1, uB1, uC1]
        refine kYN 11 hH ?_
        repeat simp only [Act.put, uA1, uB1, uC1]
        refine kYN 12 hH ?_
        repeat simp only [Act.put, uA1, uB1, uC1]
        refine kYN 13 hH ?_
        repeat simp only [Act.put, uA1, uB1, uC1]
        refine kYN 14 hH ?_
        repeat simp only [Act.put, uA1, uB1, uC1]
        refine kYN 15 hH ?_
        repeat simp only [Act.put, uA1, uB1, uC1]
        refine spkN 1 rfl (by decide) (by decide +kernel) (by rfl) (fun K' hK => ?_)
        go_simp
        have hr0 := own_empty W0 w.heap.size 50 3 hb0.size
        replace hb0 := hb0.alloc hb0.size (.cells #[] 50)
        try dsimp only
        refine hK.out _ _ ?hS (fun hH' => ?_)
        case hS =>
          exact (HC.out _ hb0).2.1
        clear hK K' hH; have hH := hH'; clear hH'; repeat simp only [Act.put, uA1, uB1, uC1]
        refine spkN 8 rfl (by decide) (by decide +kernel) (by rfl) (fun K' hK => ?_)
        obtain ⟨q2, n2, c2, w2, hrun2, hr2, hg2, -⟩ := run_app rowE hr0 hb0.size (S1.out.below hb0) (FE.out _) (by simp only [maxLen]; omega) (by omega)
        refine wp_append_eq hrun2 _ _ rfl rfl rfl ?_
        replace hb0 := hb0.grown hg2 hb0.size (fun b hb => (hr0.lt b hb).1)
        simp only [Nat.zero_add, List.nil_append] at hr2
        clear hrun2 hg2 hr0
        try dsimp only
        refine hK.out _ _ ?hS (fun hH' => ?_)
        case hS =>
          exact (HC.out _ hb0).2.1
        clear hK K' hH; have hH := hH'; clear hH'; repeat simp only [Act.put, uA1, uB1, uC1]
        refine spkN 16 rfl (by decide) (by decide +kernel) (by rfl) (fun K' hK => ?_)
        obtain ⟨q3, n3, c3, w3, hrun3, hr3, hg3, -⟩ := run_app rowE hr2 hb0.size (S2.out.below hb0) (FE.out _) (by simp only [maxLen]; omega) (by omega)
        refine wp_append_eq hrun3 _ _ rfl rfl rfl ?_
        replace hb0 := hb0.grown hg3 hb0.size (fun b hb => (hr2.lt b hb).1)
        obtain ⟨-, y3, yf⟩ := HC.out _ hb0
        rw [ER.out.1] at hr3
        have LEN3 : k + (E.length - (k + 1)) = (E.eraseIdx k).length := by have := ER.out.2; have := HK.out; have := HS.out; omega
        rw [LEN3] at hr3
        have R := Lib.hid (H.out.setE (E' := E.eraseIdx k) hb0 (World.grownBy.refl _ _) (own_mono hr3 hB))
        clear hrun3 hg3 hr2 hr3 LEN3
        try dsimp only
        refine hK.out _ _ ?hS (fun hH' => ?_)
        case hS =>
          exact (HC.out _ hb0).2.1
        clear hK K' hH; have hH := hH'; clear hH'; repeat simp only [Act.put, uA1, uB1, uC1]
        refine spkN 17 rfl (by decide) (by decide +kernel) (by rfl) (fun K' hK => ?_)
        go_simp
        try dsimp only
        refine hK.out _ _ ?hS (fun hH' => ?_)
        case hS =>
          exact (HC.out _ hb0).2.1
        clear hK K' hH; have hH := hH'; clear hH'; repeat simp only [Act.put, uA1, uB1, uC1]
        refine kYN 18 hH ?_
        repeat simp only [Act.put, uA1, uB1, uC1]
        refine spkL rfl (by decide +kernel) (by rfl) (fun K' hK => ?_)
        go_simp
        try dsimp only
        refine hK.out _ _ ?_
        clear hK K' hH; repeat simp only [Act.put, uA1, uB1, uC1]
        refine anyBut_done (by decide +kernel) ?_ _
        go_wp2_with fail
        go_ret
        exact ⟨rfl, _, R.out⟩

end Go.Proofs.Ytdbeekdnehojnaa

namespace Go.Proofs.Ytdbeekdnehojnaa
open Go.RowKit

/-- what the program's graph says of the edge from x to y -/
def eQ (Q : Gr) (x y : Int) : Option Bool := (Q.find? fun q => decide (q.1 = x)).bind fun q => edgeO q.2.2 y

/-- what the document's says -/
def edgeD (E : Eg) (x y : Int) : Option Bool := (E.find? (isE (min x y) (max x y))).map (·.2.2)

/-- both say the same -/
structure Rel (Q : Gr) (N : List Int) (E : Eg) : Prop where
  keys : ∀ k, k ∈ Q.map (·.1) ↔ k ∈ N
  sorted : N.Pairwise (· < ·)
  edge : ∀ x y, eQ Q x y = edgeD E x y
  ends : ∀ e ∈ E, e.1 < e.2.1 ∧ e.1 ∈ N ∧ e.2.1 ∈ N
  once : E.Pairwise fun e f => ¬ (e.1 = f.1 ∧ e.2.1 = f.2.1)

/-- the same two -/
def Two (x y a b : Int) : Prop := (x = a ∧ y = b) ∨ (x = b ∧ y = a)
instance (x y a b : Int) : Decidable (Two x y a b) := inferInstanceAs (Decidable (_ ∨ _))

theorem two_iff {x y a b : Int} : Two x y a b ↔ min x y = min a b ∧ max x y = max a b := by
  unfold Two; omega

theorem isE_iff {lo hi : Int} {e : Int × Int × Bool} : isE lo hi e = true ↔ e.1 = lo ∧ e.2.1 = hi := by
  simp [isE]

theorem find_set (Q : Gr) (a x : Int) (f) : (setQ Q a f).find? (fun q => decide (q.1 = x)) = (Q.find? fun q => decide (q.1 = x)).map fun q => if q.1 = a then (q.1, q.2.1, f q.2.2) else q := by
  unfold setQ
  rw [List.find?_map]
  congr 1
  congr 1
  funext q
  simp only [Function.comp]
  split <;> rfl

theorem eQ_set (Q : Gr) (a x y : Int) (f) : eQ (setQ Q a f) x y = if x = a then (Q.find? fun q => decide (q.1 = x)).bind fun q => edgeO (f q.2.2) y else eQ Q x y := by
  unfold eQ
  rw [find_set]
  cases hf : Q.find? fun q => decide (q.1 = x) with
  | none => simp
  | some q =>
    have hq : q.1 = x := by simpa using List.find?_some hf
    simp only [Option.map_some, Option.bind_some, hq]
    split <;> rfl

theorem edgeO_put (E : List (Int × Bool)) (x y : Int) (v : Bool) : edgeO (putE E x v) y = if y = x then some v else edgeO E y := by
  unfold edgeO
  induction E with
  | nil =>
    by_cases h : y = x
    · simp [putE, h]
    · have h2 : ¬ x = y := fun e => h e.symm
      simp [putE, h, h2]
  | cons e E ih =>
    unfold putE
    by_cases hp : e.1 = x
    · rw [if_pos hp]
      by_cases h : y = x
      · simp [h]
      · have h2 : ¬ x = y := fun e => h e.symm
        have h3 : ¬ e.1 = y := by rw [hp]; exact h2
        simp [h, h2, h3]
    · rw [if_neg hp]
      by_cases h2 : e.1 = y
      · have h : ¬ y = x := fun e2 => hp (h2.trans e2)
        simp [h2, h]
      · simp only [List.find?_cons, h2, decide_false]
        exact ih

theorem edgeO_del (E : List (Int × Bool)) (x y : Int) : edgeO (delE E x) y = if y = x then none else edgeO E y := by
  unfold edgeO delE
  induction E with
  | nil => simp
  | cons e E ih =>
    rw [List.filter_cons]
    by_cases hp : e.1 = x
    · rw [if_neg (by simp [hp]), ih]
      by_cases h : y = x
      · simp [h]
      · have h3 : ¬ e.1 = y := fun e2 => h (e2.symm.trans hp)
        simp [h, h3]
    · rw [if_pos (by simp [hp])]
      by_cases h2 : e.1 = y
      · have h : ¬ y = x := fun e2 => hp (h2.trans e2)
        simp [h2, h]
      · simp only [List.find?_cons, h2, decide_false]
        exact ih

theorem hasB_iff {Q : Gr} {k : Int} : hasB Q k = true ↔ k ∈ Q.map (·.1) := by
  rw [hasB_mem, decide_eq_true_eq]

theorem find_node {Q : Gr} {k : Int} (h : k ∈ Q.map (·.1)) : ∃ q ∈ Q, q.1 = k ∧ Q.find? (fun q => decide (q.1 = k)) = some q := by
  obtain ⟨q, h1, h2, h3, -⟩ := getK_outer_some (hasB_iff.2 h)
  exact ⟨q, h1, h2, h3⟩

theorem eQ_join {Q : Gr} {a b : Int} (ha : a ∈ Q.map (·.1)) (hb : b ∈ Q.map (·.1)) (hab : a ≠ b) (v : Bool) (x y : Int) : eQ (joinQ Q a b v) x y = if Two x y a b then some v else eQ Q x y := by
  obtain ⟨qa, -, -, fa⟩ := find_node ha
  obtain ⟨qb, -, hqb, fb⟩ := find_node hb
  unfold joinQ
  rw [eQ_set]
  by_cases hxb : x = b
  · subst hxb
    rw [if_pos rfl, find_set, fb]
    have hxa : ¬ x = a := fun e => hab e.symm
    have : ¬ qb.1 = a := by rw [hqb]; exact hxa
    simp only [Option.map_some, Option.bind_some, this, if_false]
    rw [edgeO_put]
    unfold eQ
    rw [fb]
    by_cases hy : y = a
    · rw [if_pos hy, if_pos (show Two x y a x from .inr ⟨rfl, hy⟩)]
    · rw [if_neg hy, if_neg (show ¬ Two x y a x from fun h => by unfold Two at h; omega)]
      rfl
  · rw [if_neg hxb, eQ_set]
    by_cases hxa : x = a
    · subst hxa
      rw [if_pos rfl, fa]
      simp only [Option.bind_some]
      rw [edgeO_put]
      unfold eQ
      rw [fa]
      by_cases hy : y = b
      · rw [if_pos hy, if_pos (show Two x y x b from .inl ⟨rfl, hy⟩)]
      · rw [if_neg hy, if_neg (show ¬ Two x y x b from fun h => by unfold Two at h; omega)]
        rfl
    · rw [if_neg hxa, if_neg (show ¬ Two x y a b from fun h => by unfold Two at h; omega)]

theorem eQ_cut {Q : Gr} {a b : Int} (ha : a ∈ Q.map (·.1)) (hb : b ∈ Q.map (·.1)) (hab : a ≠ b) (x y : Int) : eQ (cutQ Q a b) x y = if Two x y a b then none else eQ Q x y := by
  obtain ⟨qa, -, -, fa⟩ := find_node ha
  obtain ⟨qb, -, hqb, fb⟩ := find_node hb
  unfold cutQ
  rw [eQ_set]
  by_cases hxb : x = b
  · subst hxb
    rw [if_pos rfl, find_set, fb]
    have hxa : ¬ x = a := fun e => hab e.symm
    have : ¬ qb.1 = a := by rw [hqb]; exact hxa
    simp only [Option.map_some, Option.bind_some, this, if_false]
    rw [edgeO_del]
    unfold eQ
    rw [fb]
    by_cases hy : y = a
    · rw [if_pos hy, if_pos (show Two x y a x from .inr ⟨rfl, hy⟩)]
    · rw [if_neg hy, if_neg (show ¬ Two x y a x from fun h => by unfold Two at h; omega)]
      rfl
  · rw [if_neg hxb, eQ_set]
    by_cases hxa : x = a
    · subst hxa
      rw [if_pos rfl, fa]
      simp only [Option.bind_some]
      rw [edgeO_del]
      unfold eQ
      rw [fa]
      by_cases hy : y = b
      · rw [if_pos hy, if_pos (show Two x y x b from .inl ⟨rfl, hy⟩)]
      · rw [if_neg hy, if_neg (show ¬ Two x y x b from fun h => by unfold Two at h; omega)]
        rfl
    · rw [if_neg hxa, if_neg (show ¬ Two x y a b from fun h => by unfold Two at h; omega)]

theorem edgeD_at (E : Eg) (a b : Int) : edgeD E a b = (atE E a b).bind fun i => E[i]?.map (·.2.2) := by
  unfold edgeD atE
  induction E with
  | nil => rfl
  | cons e E ih =>
    cases h : isE (min a b) (max a b) e with
    | true => simp [List.findIdx?_cons, h]
    | false =>
      simp only [List.find?_cons, List.findIdx?_cons, h]
      rw [ih]
      cases E.findIdx? (isE (min a b) (max a b)) <;> simp

theorem edgeD_app {E : Eg} {a b : Int} (hn : edgeD E a b = none) (v : Bool) (x y : Int) : edgeD (E ++ [(min a b, max a b, v)]) x y = if Two x y a b then some v else edgeD E x y := by
  unfold edgeD at *
  rw [List.find?_append]
  by_cases h : Two x y a b
  · rw [if_pos h]
    obtain ⟨h1, h2⟩ := two_iff.1 h
    rw [h1, h2]
    have : E.find? (isE (min a b) (max a b)) = none := by simpa using hn
    rw [this]
    simp [isE]
  · rw [if_neg h]
    have : isE (min x y) (max x y) (min a b, max a b, v) = false := by
      rw [Bool.eq_false_iff]
      intro h3
      have := isE_iff.1 h3
      exact h (two_iff.2 ⟨this.1.symm, this.2.symm⟩)
    simp [this]

theorem find_ne {E : Eg} {e f : Int × Int × Bool} (hf : e.1 = f.1 ∧ e.2.1 = f.2.1) (lo hi : Int) : isE lo hi e = isE lo hi f := by
  simp [isE, hf.1, hf.2]

/-- an edge is given another flag -/
theorem edgeD_set {E : Eg} {a b : Int} {i : Nat} (hi : i < E.length) (h1 : E[i].1 = min a b) (h2 : E[i].2.1 = max a b) (ho : E.Pairwise fun e f => ¬ (e.1 = f.1 ∧ e.2.1 = f.2.1)) (v : Bool) (x y : Int) :
    edgeD (E.set i (min a b, max a b, v)) x y = if Two x y a b then some v else edgeD E x y := by
  unfold edgeD
  simp only [two_iff]
  generalize min a b = lo at *
  generalize max a b = hi' at *
  generalize min x y = l
  generalize max x y = u
  induction E generalizing i with
  | nil => simp at hi
  | cons e E ih =>
    rw [List.pairwise_cons] at ho
    cases i with
    | zero =>
      simp only [List.set_cons_zero, List.find?_cons, List.getElem_cons_zero] at h1 h2 ⊢
      by_cases hl : l = lo ∧ u = hi'
      · simp [isE, hl.1, hl.2]
      · have e1 : isE l u (lo, hi', v) = false := by simp [isE]; intro e; exact fun e2 => hl ⟨e.symm, e2.symm⟩
        have e2 : isE l u e = false := by rw [← find_ne (e := (lo, hi', v)) (f := e) (E := E) ⟨h1.symm, h2.symm⟩ l u]; exact e1
        rw [e1, e2, if_neg hl]
    | succ i =>
      simp only [List.getElem_cons_succ] at h1 h2
      have hi2 : i < E.length := by simpa using hi
      have hne := ho.1 E[i] (List.getElem_mem hi2)
      simp only [List.set_cons_succ, List.find?_cons]
      cases hE : isE l u e with
      | true =>
        have := isE_iff.1 hE
        have hl : ¬ (l = lo ∧ u = hi') := fun hh => hne ⟨by rw [this.1, h1, hh.1], by rw [this.2, h2, hh.2]⟩
        rw [if_neg hl]
      | false => exact ih hi2 ho.2 h1 h2

theorem edgeD_erase {E : Eg} {a b : Int} {i : Nat} (hi : i < E.length) (h1 : E[i].1 = min a b) (h2 : E[i].2.1 = max a b) (ho : E.Pairwise fun e f => ¬ (e.1 = f.1 ∧ e.2.1 = f.2.1)) (x y : Int) :
    edgeD (E.eraseIdx i) x y = if Two x y a b then none else edgeD E x y := by
  unfold edgeD
  simp only [two_iff]
  generalize min a b = lo at *
  generalize max a b = hi' at *
  generalize min x y = l
  generalize max x y = u
  induction E generalizing i with
  | nil => simp at hi
  | cons e E ih =>
    rw [List.pairwise_cons] at ho
    cases i with
    | zero =>
      simp only [List.eraseIdx_cons_zero, List.find?_cons, List.getElem_cons_zero] at h1 h2 ⊢
      by_cases hl : l = lo ∧ u = hi'
      · rw [if_pos hl]
        rw [List.find?_eq_none.2]
        · rfl
        · intro f hf hh
          have := isE_iff.1 hh
          exact ho.1 f hf ⟨by rw [h1, this.1, hl.1], by rw [h2, this.2, hl.2]⟩
      · have e2 : isE l u e = false := by
          rw [Bool.eq_false_iff]
          intro hh
          have := isE_iff.1 hh
          exact hl ⟨this.1.symm.trans h1, this.2.symm.trans h2⟩
        rw [e2, if_neg hl]
    | succ i =>
      simp only [List.getElem_cons_succ] at h1 h2
      have hi2 : i < E.length := by simpa using hi
      have hne := ho.1 E[i] (List.getElem_mem hi2)
      simp only [List.eraseIdx_cons_succ, List.find?_cons]
      cases hE : isE l u e with
      | true =>
        have := isE_iff.1 hE
        have hl : ¬ (l = lo ∧ u = hi') := fun hh => hne ⟨by rw [this.1, h1, hh.1], by rw [this.2, h2, hh.2]⟩
        rw [if_neg hl]
      | false => exact ih hi2 ho.2 h1 h2

end Go.Proofs.Ytdbeekdnehojnaa
