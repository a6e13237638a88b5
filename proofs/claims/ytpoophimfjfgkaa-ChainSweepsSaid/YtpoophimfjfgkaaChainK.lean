/-
  chain's document: one more.
-/
import Derived.Test.YtpoophimfjfgkaaChainI
namespace Go.Proofs.Ytpoophimfjfgkaa
open Go.RowKit

/-- what the document's Put tells -/
def PutTo (w : World) (F : Nat → Prop) (r : Int × List (Int × List Int)) (e : Ending) (w' : World) : Prop :=
  ∃ v, e = .returned (.tuple #[v, .int .i64 r.1]) ∧ RecsF w' (Plus F w w') v r.2 ∧ Below w.heap.size w w'

theorem putTo_same {w w' : World} {F : Nat → Prop} {v : Value} {l : List (Int × List Int)} (h : RecsF w F v l) (hl : ∀ k, F k → k < w.heap.size) (hb : Below w.heap.size w w') (x : Int) : PutTo w F (x, l) (.returned (.tuple #[v, .int .i64 x])) w' :=
  ⟨v, rfl, (h.agree (Agree.of_below hb hl)).mono fun _ => .inl, hb⟩

theorem lastZ_ge {l : List (Int × List Int)} (h : Rising l) {k : Nat} (hk : k < l.length) {s : Int} (hs : s ≤ l[k].1) : s ≤ lastZ l := by
  have hne : l ≠ [] := fun e => by simp [e] at hk
  unfold lastZ
  rw [List.getLast?_eq_some_getLast hne, List.getLast_eq_getElem]
  simp only
  by_cases e : k = l.length - 1
  · subst e; exact hs
  · have := rising_lt h hk (j := l.length - 1) (by omega) (by omega)
    omega

theorem lastZ_lt {l : List (Int × List Int)} {s : Int} (hs : 1 ≤ s) (h : ∀ j (hj : j < l.length), l[j].1 < s) : ¬ s ≤ lastZ l := by
  unfold lastZ
  cases he : l.getLast? with
  | none => simp only; omega
  | some r =>
    obtain ⟨ys, rfl⟩ := List.getLast?_eq_some_iff.1 he
    have := h ys.length (by simp)
    simp at this
    simp only; omega

theorem putTo_end {w W W5 : World} {F : Nat → Prop} {rs : List (Int × Value)} {l : List (Int × List Int)} {s : Int} {xs : List Int} {u4 v5 v2 : Value} {B : Nat} (hr : Rows2 w F rs l) (hB : w.heap.size ≤ B)
    (hu : W.ownsRow B 21 1 u4 xs.length (xs.map (Value.int .i32))) (h2 : W.ownsRow B 44 2 v2 l.length (flat2 rs)) (h5 : W5.ownsRow B 44 2 v5 (l.length + 1) (flat2 rs ++ (#[.int .u64 s, u4] : Array Value).toList)) (hg : W.grownBy W5 v2.ownBlock) (hb : Below w.heap.size w W5) :
    RecsF W5 (Plus F w W5) v5 (l ++ [(s, xs)]) := by
  have hu5 := hu.kept hg (own_apart hu h2 (by decide))
  have hl4 : LiesIn (Plus F w W5) u4 xs.length := own_lies (F := Plus F w W5) (fun b hb => .inr ⟨by have := (hu5.lt b hb).1; omega, (hu5.lt b hb).2⟩) _
  refine (((hr.below hb).mono fun _ => .inl).snoc (Nums.of_own hu5) hl4).recs (n := l.length + 1) (by rw [flat2_snoc]; exact h5) fun b hb => .inr ⟨?_, (h5.lt b hb).2⟩
  have := (h5.lt b hb).1; omega

set_option maxHeartbeats 4000000 in
theorem refPut (l : List (Int × List Int)) (hr : Rising l) (hn : l.length ≤ 1000000) (s : Int) (xs : List Int) (u v : Value) (F : Nat → Prop) (w : World) (h : RecsF w F v l) (hF : ∀ k, F k → k < w.heap.size) (hu : Nums w .i32 u xs) (hx : xs.length ≤ 100) :
    Calls Try.prog 15 #[v, .agg #[.int .u64 s, u]] w (PutTo w F (putZ l s xs)) := by
  obtain ⟨p, cap, rfl, hcap, hbig, -, -⟩ := id h
  obtain ⟨q, ucap, rfl, -, -, -, -⟩ := hu.slice
  obtain ⟨rs, hrs, hsrc⟩ := h.rows
  have H := Lib.hid (And.intro h hF)
  have U := Lib.hid hu
  have RR := Lib.hid hrs
  have SS := Lib.hid hsrc
  have R := Lib.hid hr
  have hlen := hrs.len
  have hl9 : l.length ≤ 9223372036854775807 := by omega
  clear h hF hu hcap hbig hrs hsrc hr
  by_cases h0 : s < 1
  · rw [show putZ l s xs = (1, l) by simp [putZ, h0]]
    go_enter Try.func15, Try.ntmps15
    go_wp2_with fail
    go_ret2
    exact putTo_same H.out.1 H.out.2 ((Below.refl _ _).alloc (Nat.le_refl _) _) 1
  by_cases h1 : 1099511627776 < s
  · rw [show putZ l s xs = (1, l) by simp [putZ, h1]]
    go_enter Try.func15, Try.ntmps15
    go_wp2_with fail
    go_ret2
    exact putTo_same H.out.1 H.out.2 ((Below.refl _ _).alloc (Nat.le_refl _) _) 1
  have h01 : ¬ (s < 1 ∨ 1099511627776 < s) := by omega
  have hb1 := (Below.refl w.heap.size w).alloc (Nat.le_refl _) (Obj.cells #[Value.int IntKind.u64 s, Value.slice q xs.length ucap] 44)
  have G := Lib.hid hb1
  have Rt := Lib.hid (refRight xs _ _ (U.out.below hb1))
  by_cases hl : 0 < xs.length ∧ rightB xs = false
  · rw [show putZ l s xs = (4, l) by simp only [putZ, if_neg h01, if_pos hl]]
    have hlp : decide (0 < xs.length) = true := decide_eq_true hl.1
    have hr := hl.2
    clear hb1 hl
    go_enter Try.func15, Try.ntmps15
    go_wp2_with fail
    refine Rt.out.mono ?_
    rintro e w' ⟨rfl, rfl⟩
    rw [hr]
    go_wp2_with fail
    go_ret2
    exact putTo_same H.out.1 H.out.2 G.out 4
  have hpz : putZ l s xs = if s ≤ lastZ l then (7, l) else (0, l ++ [(s, xs)]) := by simp only [putZ, if_neg h01, if_neg hl]
  have PZ := Lib.hid hpz
  have T : (decide (0 < xs.length) = true ∧ rightB xs = true) ∨ decide (0 < xs.length) = false := by
    by_cases h : 0 < xs.length
    · refine .inl ⟨decide_eq_true h, ?_⟩
      cases hr : rightB xs
      · exact absurd ⟨h, hr⟩ hl
      · rfl
    · exact .inr (decide_eq_false h)
  clear hl hpz hb1
  have e0 : decide (s < 1) = false := decide_eq_false h0
  have e1 : decide (1099511627776 < s) = false := decide_eq_false h1
  rcases T with ⟨hlp, hr⟩ | hlp
  · go_enter Try.func15, Try.ntmps15
    go_wp2_with fail
    refine Rt.out.mono ?_
    rintro e w' ⟨rfl, rfl⟩
    rw [hr]
    go_wp2_with fail
    go_loopg [30] l.length (fun q' i wr => ∃ k : Nat, q' = l.length - k ∧ k ≤ l.length ∧ i = .int .i64 k ∧ (∀ j (hj : j < l.length), j < k → l[j].1 < s) ∧ Below (w.alloc (Obj.cells #[Value.int IntKind.u64 s, Value.slice q xs.length ucap] 44)).heap.size (w.alloc (Obj.cells #[Value.int IntKind.u64 s, Value.slice q xs.length ucap] 44)) wr)
    case atStart => exact ⟨0, rfl, by omega, rfl, fun j _ h => absurd h (by omega), Below.refl _ _⟩
    case round =>
      obtain ⟨k, rfl, hk, rfl, hall, hb⟩ := hrel
      have hbw := G.out.trans (hb.mono G.out.size)
      have O := Lib.hid (And.intro hall (And.intro hb hbw))
      have hsz := hb.size
      have x0 := below_cells hb (a := ⟨w.heap.size, 0, none⟩) (v := .int .u64 s) (by go_simp)
      have x1 := below_cells hb (a := ⟨w.heap.size, 1, none⟩) (v := .slice q xs.length ucap) (by go_simp)
      have xb : w.heap.size < wr.heap.size := lt_of_cell x0
      by_cases hlt : k < l.length
      · obtain ⟨b, off, up, uc, hkr, rfl, hrk, c0, c1⟩ := rows_elem H.out.1 RR.out SS.out hlt
        replace c0 := below_cells hbw c0
        replace c1 := below_cells hbw c1
        have A := Lib.hid ((Below.refl wr.heap.size wr).alloc (Nat.le_refl _) (Obj.cells #[.int .u64 l[k].1, .slice up l[k].2.length uc] 44))
        clear hall hb hbw hrk
        cases ht : decide (s ≤ l[k].1)
        · have N := Lib.hid (show l[k].1 < s from Int.not_le.1 (of_decide_eq_false ht))
          go_wp2
          go_roundg (l.length - (k + 1))
          case measure => omega
          case rel => exact ⟨k + 1, rfl, by omega, by go_num, fun j hj hjk => by
            by_cases e : j = k
            · subst e; exact N.out
            · exact O.out.1 j hj (by omega), O.out.2.1.trans ((A.out).mono O.out.2.1.size)⟩
        · have N := Lib.hid (show s ≤ l[k].1 from of_decide_eq_true ht)
          rw [PZ.out, if_pos (lastZ_ge R.out hlt N.out)]
          go_wp2
          go_ret2
          exact putTo_same H.out.1 H.out.2 (O.out.2.2.trans ((A.out).mono O.out.2.2.size)) 7
      · obtain rfl : l.length = k := by omega
        clear hall hb hbw
        have PE := Lib.hid (PZ.out.trans (if_neg (lastZ_lt (by omega) fun j hj => O.out.1 j hj hj)))
        go_wp2_with fail
        have hwb : w.heap.size ≤ wr.drew.heap.size := O.out.2.2.size
        have hbw := O.out.2.2.drew
        have src : SrcAt wr.drew p l.length cap 2 (flat2 rs) := by rw [← hlen]; exact SS.out.below hbw
        have U2 := U.out.below hbw
        have hu9 : xs.take (100 : Int).toNat = xs := List.take_of_length_le (by simpa using hx)
        have y0 : wr.drew.cell? ⟨w.heap.size, 0, none⟩ = some (.int .u64 s) := by simpa using x0
        have y1 : wr.drew.cell? ⟨w.heap.size, 1, none⟩ = some (.slice q xs.length ucap) := by simpa using x1
        have hbd := Below.refl wr.drew.heap.size wr.drew
        have M := Lib.hid (And.intro hbw (And.intro src (And.intro U2 hu9)))
        have ONE := Lib.hid (flat2_one RR.out.one)
        clear x0 x1 xb src U2 hu9 hbw
        obtain ⟨W0, hW0⟩ : ∃ W0, W0 = wr.drew := ⟨_, rfl⟩
        rw [← hW0] at hwb y0 y1 hbd M
        have HW := Lib.hid hW0
        clear hW0
        refine region_go (fun w' => w'.cell? ⟨w.heap.size, 0, none⟩ = some (.int .u64 s) ∧ w'.cell? ⟨w.heap.size, 1, none⟩ = some (.slice q xs.length ucap)) (by kernel_rfl) ?hS0 (fun hH => ?_)
        case hS0 =>
          rw [← HW.out]; exact ⟨y0, y1⟩
        rw [← HW.out] at hH ⊢
        refine tkY (v := ?_) 1 hH rfl (fun _ _ _ h => h) ?hc ?hw ?hy ?_
        case hc => decide +kernel
        case hw => rfl
        case hy => (intro w hS; (try dsimp only at hS); go_simp; try with_reducible rfl)
        (try simp only [Act.put]); (repeat (first | simp only [List.setIfInBounds_toArray] | simp only [List.set_cons_zero] | simp only [List.set_cons_succ]))
        refine tkY (v := ?_) 3 hH rfl (fun _ _ _ h => h) ?hc ?hw ?hy ?_
        case hc => decide +kernel
        case hw => rfl
        case hy => (intro w hS; (try dsimp only at hS); go_simp; try with_reducible rfl)
        (try simp only [Act.put]); (repeat (first | simp only [List.setIfInBounds_toArray] | simp only [List.set_cons_zero] | simp only [List.set_cons_succ]))
        refine tkY (v := ?_) 4 hH rfl (fun _ _ _ h => h) ?hc ?hw ?hy ?_
        case hc => decide +kernel
        case hw => rfl
        case hy => (intro w hS; (try dsimp only at hS); go_simp; try with_reducible rfl)
        (try simp only [Act.put]); (repeat (first | simp only [List.setIfInBounds_toArray] | simp only [List.set_cons_zero] | simp only [List.set_cons_succ]))
        refine tkY (v := ?_) 5 hH rfl (fun _ _ _ h => h) ?hc ?hw ?hy ?_
        case hc => decide +kernel
        case hw => rfl
        case hy => (intro w hS; (try dsimp only at hS); go_simp; try with_reducible rfl)
        (try simp only [Act.put]); (repeat (first | simp only [List.setIfInBounds_toArray] | simp only [List.set_cons_zero] | simp only [List.set_cons_succ]))
        refine tkY (v := ?_) 6 hH rfl (fun _ _ _ h => h) ?hc ?hw ?hy ?_
        case hc => decide +kernel
        case hw => rfl
        case hy => (intro w hS; (try dsimp only at hS); go_simp; try with_reducible rfl)
        (try simp only [Act.put]); (repeat (first | simp only [List.setIfInBounds_toArray] | simp only [List.set_cons_zero] | simp only [List.set_cons_succ]))
        refine spk 0 rfl ?hr ?hw (fun K' hK => ?_)
        case hr => decide +kernel
        case hw => rfl
        go_simp
        have hr0 := own_empty _ W0.heap.size 44 2 hbd.size
        try have hne := Nat.ne_of_lt (lt_block he9)
        try replace he9 := (heap_alloc_old _ (.cells #[] 44) (lt_block he9)).trans he9
        try replace hu4 := hu4.alloc (.cells #[] 44)
        replace hbd := hbd.alloc hbd.size (.cells #[] 44)
        try dsimp only
        refine hK.out _ _ ?hS (fun hH' => ?_)
        case hS =>
          exact ⟨below_cells hbd y0, below_cells hbd y1⟩
        clear hK K' hH; have hH := hH'; clear hH'; (try simp only [Act.put]); (repeat (first | simp only [List.setIfInBounds_toArray] | simp only [List.set_cons_zero] | simp only [List.set_cons_succ]))
        refine spk 2 rfl ?hr ?hw (fun K' hK => ?_)
        case hr => decide +kernel
        case hw => rfl
        obtain ⟨q2, n2, c2, w2, hrun2, hr2, hg2, -⟩ := run_app rowRef hr0 hbd.size (M.out.2.1.below hbd) ONE.out (by simp [maxLen]; omega) (by omega)
        refine wp_append_eq hrun2 _ _ rfl rfl rfl ?_
        try replace hu4 := hu4.kept hg2 (own_apart hu4 hr0 (by decide))
        try replace he9 := (hg2.block _ (lt_block he9) (by intro e; simp only [Value.ownBlock, Option.some.injEq] at e; first | exact hne e | (simp at hne e; omega))).trans he9
        replace hbd := hbd.grown hg2 hbd.size (fun b hb => (hr0.lt b hb).1)
        simp only [Nat.zero_add, List.nil_append] at hr2
        clear hrun2 hg2 hr0
        try dsimp only
        refine hK.out _ _ ?hS (fun hH' => ?_)
        case hS =>
          exact ⟨below_cells hbd y0, below_cells hbd y1⟩
        clear hK K' hH; have hH := hH'; clear hH'; (try simp only [Act.put]); (repeat (first | simp only [List.setIfInBounds_toArray] | simp only [List.set_cons_zero] | simp only [List.set_cons_succ]))
        refine spk 7 rfl ?hr ?hw (fun K' hK => ?_)
        case hr => decide +kernel
        case hw => rfl
        go_simp
        refine (cutVec xs _ 100 _ (M.out.2.2.1.below hbd) (by decide) (.inr (by decide))).mono ?_
        rintro e w4 ⟨u4, rfl, hu4, hb4⟩
        rw [M.out.2.2.2] at hu4
        obtain ⟨q4, m4, k4, rfl⟩ := own_form hu4
        replace hu4 := own_mono hu4 hbd.size
        try replace hr0 := own_below hr0 hb4
        try replace hr2 := own_below hr2 hb4
        replace hbd := hbd.trans (hb4.mono hbd.size)
        clear hb4
        try dsimp only
        refine hK.out _ _ ?hS (fun hH' => ?_)
        case hS =>
          exact ⟨below_cells hbd y0, below_cells hbd y1⟩
        clear hK K' hH; have hH := hH'; clear hH'; (try simp only [Act.put]); (repeat (first | simp only [List.setIfInBounds_toArray] | simp only [List.set_cons_zero] | simp only [List.set_cons_succ]))
        refine tkY (v := ?_) 8 hH rfl (fun _ _ _ h => h) ?hc ?hw ?hy ?_
        case hc => decide +kernel
        case hw => rfl
        case hy => (intro w hS; (try dsimp only at hS); go_simp; try with_reducible rfl)
        (try simp only [Act.put]); (repeat (first | simp only [List.setIfInBounds_toArray] | simp only [List.set_cons_zero] | simp only [List.set_cons_succ]))
        refine spk 9 rfl ?hr ?hw (fun K' hK => ?_)
        case hr => decide +kernel
        case hw => rfl
        go_simp
        have he9 := (fun {W : World} (_ : Below W0.heap.size W0 W) => heap_alloc_new W (.cells #[.int .u64 s, .slice q4 m4 k4] 44)) hbd
        try have hne := (Nat.ne_of_lt (hr0.lt _ rfl).2).symm
        try replace hr0 := hr0.alloc (.cells #[.int .u64 s, .slice q4 m4 k4] 44)
        try replace hr2 := hr2.alloc (.cells #[.int .u64 s, .slice q4 m4 k4] 44)
        replace hu4 := hu4.alloc (.cells #[.int .u64 s, .slice q4 m4 k4] 44)
        replace hbd := hbd.alloc hbd.size (.cells #[.int .u64 s, .slice q4 m4 k4] 44)
        try dsimp only
        refine hK.out _ _ ?hS (fun hH' => ?_)
        case hS =>
          exact ⟨below_cells hbd y0, below_cells hbd y1⟩
        clear hK K' hH; have hH := hH'; clear hH'; (try simp only [Act.put]); (repeat (first | simp only [List.setIfInBounds_toArray] | simp only [List.set_cons_zero] | simp only [List.set_cons_succ]))
        refine spk 10 rfl ?hr ?hw (fun K' hK => ?_)
        case hr => decide +kernel
        case hw => rfl
        obtain ⟨g5, c5, w5, hrun5, hown5, hg5, hat5, hlt5⟩ := run_push_at rowRef hr2 hbd.size he9 rfl (by simp [Value.oneCell']) (by simp [maxLen]; omega) (by omega)
        refine wp_append_eq hrun5 _ _ rfl rfl rfl ?_
        replace hbd := hbd.grown hg5 hbd.size (fun b hb => (hr2.lt b hb).1)
        have E := Lib.hid (putTo_end RR.out hwb hu4 hr2 hown5 hg5 (M.out.1.trans (hbd.mono hwb)))
        have BB := Lib.hid (M.out.1.trans (hbd.mono hwb))
        clear hrun5 hown5 hg5 hat5 hlt5
        try dsimp only
        refine hK.out _ _ ?hS (fun hH' => ?_)
        case hS =>
          exact ⟨below_cells hbd y0, below_cells hbd y1⟩
        clear hK K' hH; have hH := hH'; clear hH'; (try simp only [Act.put]); (repeat (first | simp only [List.setIfInBounds_toArray] | simp only [List.set_cons_zero] | simp only [List.set_cons_succ]))
        refine tkY (v := ?_) 11 hH rfl (fun _ _ _ h => h) ?hc ?hw ?hy ?_
        case hc => decide +kernel
        case hw => rfl
        case hy => (intro w hS; (try dsimp only at hS); go_simp; try with_reducible rfl)
        (try simp only [Act.put]); (repeat (first | simp only [List.setIfInBounds_toArray] | simp only [List.set_cons_zero] | simp only [List.set_cons_succ]))
        refine tkY (v := ?_) 12 hH rfl (fun _ _ _ h => h) ?hc ?hw ?hy ?_
        case hc => decide +kernel
        case hw => rfl
        case hy => (intro w hS; (try dsimp only at hS); go_simp; try with_reducible rfl)
        (try simp only [Act.put]); (repeat (first | simp only [List.setIfInBounds_toArray] | simp only [List.set_cons_zero] | simp only [List.set_cons_succ]))
        refine wpAnyH_done (by decide +kernel) ?_ _
        clear hH hbd he9 hr2 hu4
        go_wp2_with fail
        go_ret2
        rw [PE.out]
        exact ⟨_, rfl, E.out, BB.out⟩
  · go_enter Try.func15, Try.ntmps15
    go_wp2_with fail
    go_loopg [30] l.length (fun q' i wr => ∃ k : Nat, q' = l.length - k ∧ k ≤ l.length ∧ i = .int .i64 k ∧ (∀ j (hj : j < l.length), j < k → l[j].1 < s) ∧ Below (w.alloc (Obj.cells #[Value.int IntKind.u64 s, Value.slice q xs.length ucap] 44)).heap.size (w.alloc (Obj.cells #[Value.int IntKind.u64 s, Value.slice q xs.length ucap] 44)) wr)
    case atStart => exact ⟨0, rfl, by omega, rfl, fun j _ h => absurd h (by omega), Below.refl _ _⟩
    case round =>
      obtain ⟨k, rfl, hk, rfl, hall, hb⟩ := hrel
      have hbw := G.out.trans (hb.mono G.out.size)
      have O := Lib.hid (And.intro hall (And.intro hb hbw))
      have hsz := hb.size
      have x0 := below_cells hb (a := ⟨w.heap.size, 0, none⟩) (v := .int .u64 s) (by go_simp)
      have x1 := below_cells hb (a := ⟨w.heap.size, 1, none⟩) (v := .slice q xs.length ucap) (by go_simp)
      have xb : w.heap.size < wr.heap.size := lt_of_cell x0
      by_cases hlt : k < l.length
      · obtain ⟨b, off, up, uc, hkr, rfl, hrk, c0, c1⟩ := rows_elem H.out.1 RR.out SS.out hlt
        replace c0 := below_cells hbw c0
        replace c1 := below_cells hbw c1
        have A := Lib.hid ((Below.refl wr.heap.size wr).alloc (Nat.le_refl _) (Obj.cells #[.int .u64 l[k].1, .slice up l[k].2.length uc] 44))
        clear hall hb hbw hrk
        cases ht : decide (s ≤ l[k].1)
        · have N := Lib.hid (show l[k].1 < s from Int.not_le.1 (of_decide_eq_false ht))
          go_wp2
          go_roundg (l.length - (k + 1))
          case measure => omega
          case rel => exact ⟨k + 1, rfl, by omega, by go_num, fun j hj hjk => by
            by_cases e : j = k
            · subst e; exact N.out
            · exact O.out.1 j hj (by omega), O.out.2.1.trans ((A.out).mono O.out.2.1.size)⟩
        · have N := Lib.hid (show s ≤ l[k].1 from of_decide_eq_true ht)
          rw [PZ.out, if_pos (lastZ_ge R.out hlt N.out)]
          go_wp2
          go_ret2
          exact putTo_same H.out.1 H.out.2 (O.out.2.2.trans ((A.out).mono O.out.2.2.size)) 7
      · obtain rfl : l.length = k := by omega
        clear hall hb hbw
        have PE := Lib.hid (PZ.out.trans (if_neg (lastZ_lt (by omega) fun j hj => O.out.1 j hj hj)))
        go_wp2_with fail
        have hwb : w.heap.size ≤ wr.drew.heap.size := O.out.2.2.size
        have hbw := O.out.2.2.drew
        have src : SrcAt wr.drew p l.length cap 2 (flat2 rs) := by rw [← hlen]; exact SS.out.below hbw
        have U2 := U.out.below hbw
        have hu9 : xs.take (100 : Int).toNat = xs := List.take_of_length_le (by simpa using hx)
        have y0 : wr.drew.cell? ⟨w.heap.size, 0, none⟩ = some (.int .u64 s) := by simpa using x0
        have y1 : wr.drew.cell? ⟨w.heap.size, 1, none⟩ = some (.slice q xs.length ucap) := by simpa using x1
        have hbd := Below.refl wr.drew.heap.size wr.drew
        have M := Lib.hid (And.intro hbw (And.intro src (And.intro U2 hu9)))
        have ONE := Lib.hid (flat2_one RR.out.one)
        clear x0 x1 xb src U2 hu9 hbw
        obtain ⟨W0, hW0⟩ : ∃ W0, W0 = wr.drew := ⟨_, rfl⟩
        rw [← hW0] at hwb y0 y1 hbd M
        have HW := Lib.hid hW0
        clear hW0
        refine region_go (fun w' => w'.cell? ⟨w.heap.size, 0, none⟩ = some (.int .u64 s) ∧ w'.cell? ⟨w.heap.size, 1, none⟩ = some (.slice q xs.length ucap)) (by kernel_rfl) ?hS0 (fun hH => ?_)
        case hS0 =>
          rw [← HW.out]; exact ⟨y0, y1⟩
        rw [← HW.out] at hH ⊢
        refine tkY (v := ?_) 1 hH rfl (fun _ _ _ h => h) ?hc ?hw ?hy ?_
        case hc => decide +kernel
        case hw => rfl
        case hy => (intro w hS; (try dsimp only at hS); go_simp; try with_reducible rfl)
        (try simp only [Act.put]); (repeat (first | simp only [List.setIfInBounds_toArray] | simp only [List.set_cons_zero] | simp only [List.set_cons_succ]))
        refine tkY (v := ?_) 3 hH rfl (fun _ _ _ h => h) ?hc ?hw ?hy ?_
        case hc => decide +kernel
        case hw => rfl
        case hy => (intro w hS; (try dsimp only at hS); go_simp; try with_reducible rfl)
        (try simp only [Act.put]); (repeat (first | simp only [List.setIfInBounds_toArray] | simp only [List.set_cons_zero] | simp only [List.set_cons_succ]))
        refine tkY (v := ?_) 4 hH rfl (fun _ _ _ h => h) ?hc ?hw ?hy ?_
        case hc => decide +kernel
        case hw => rfl
        case hy => (intro w hS; (try dsimp only at hS); go_simp; try with_reducible rfl)
        (try simp only [Act.put]); (repeat (first | simp only [List.setIfInBounds_toArray] | simp only [List.set_cons_zero] | simp only [List.set_cons_succ]))
        refine tkY (v := ?_) 5 hH rfl (fun _ _ _ h => h) ?hc ?hw ?hy ?_
        case hc => decide +kernel
        case hw => rfl
        case hy => (intro w hS; (try dsimp only at hS); go_simp; try with_reducible rfl)
        (try simp only [Act.put]); (repeat (first | simp only [List.setIfInBounds_toArray] | simp only [List.set_cons_zero] | simp only [List.set_cons_succ]))
        refine tkY (v := ?_) 6 hH rfl (fun _ _ _ h => h) ?hc ?hw ?hy ?_
        case hc => decide +kernel
        case hw => rfl
        case hy => (intro w hS; (try dsimp only at hS); go_simp; try with_reducible rfl)
        (try simp only [Act.put]); (repeat (first | simp only [List.setIfInBounds_toArray] | simp only [List.set_cons_zero] | simp only [List.set_cons_succ]))
        refine spk 0 rfl ?hr ?hw (fun K' hK => ?_)
        case hr => decide +kernel
        case hw => rfl
        go_simp
        have hr0 := own_empty _ W0.heap.size 44 2 hbd.size
        try have hne := Nat.ne_of_lt (lt_block he9)
        try replace he9 := (heap_alloc_old _ (.cells #[] 44) (lt_block he9)).trans he9
        try replace hu4 := hu4.alloc (.cells #[] 44)
        replace hbd := hbd.alloc hbd.size (.cells #[] 44)
        try dsimp only
        refine hK.out _ _ ?hS (fun hH' => ?_)
        case hS =>
          exact ⟨below_cells hbd y0, below_cells hbd y1⟩
        clear hK K' hH; have hH := hH'; clear hH'; (try simp only [Act.put]); (repeat (first | simp only [List.setIfInBounds_toArray] | simp only [List.set_cons_zero] | simp only [List.set_cons_succ]))
        refine spk 2 rfl ?hr ?hw (fun K' hK => ?_)
        case hr => decide +kernel
        case hw => rfl
        obtain ⟨q2, n2, c2, w2, hrun2, hr2, hg2, -⟩ := run_app rowRef hr0 hbd.size (M.out.2.1.below hbd) ONE.out (by simp [maxLen]; omega) (by omega)
        refine wp_append_eq hrun2 _ _ rfl rfl rfl ?_
        try replace hu4 := hu4.kept hg2 (own_apart hu4 hr0 (by decide))
        try replace he9 := (hg2.block _ (lt_block he9) (by intro e; simp only [Value.ownBlock, Option.some.injEq] at e; first | exact hne e | (simp at hne e; omega))).trans he9
        replace hbd := hbd.grown hg2 hbd.size (fun b hb => (hr0.lt b hb).1)
        simp only [Nat.zero_add, List.nil_append] at hr2
        clear hrun2 hg2 hr0
        try dsimp only
        refine hK.out _ _ ?hS (fun hH' => ?_)
        case hS =>
          exact ⟨below_cells hbd y0, below_cells hbd y1⟩
        clear hK K' hH; have hH := hH'; clear hH'; (try simp only [Act.put]); (repeat (first | simp only [List.setIfInBounds_toArray] | simp only [List.set_cons_zero] | simp only [List.set_cons_succ]))
        refine spk 7 rfl ?hr ?hw (fun K' hK => ?_)
        case hr => decide +kernel
        case hw => rfl
        go_simp
        refine (cutVec xs _ 100 _ (M.out.2.2.1.below hbd) (by decide) (.inr (by decide))).mono ?_
        rintro e w4 ⟨u4, rfl, hu4, hb4⟩
        rw [M.out.2.2.2] at hu4
        obtain ⟨q4, m4, k4, rfl⟩ := own_form hu4
        replace hu4 := own_mono hu4 hbd.size
        try replace hr0 := own_below hr0 hb4
        try replace hr2 := own_below hr2 hb4
        replace hbd := hbd.trans (hb4.mono hbd.size)
        clear hb4
        try dsimp only
        refine hK.out _ _ ?hS (fun hH' => ?_)
        case hS =>
          exact ⟨below_cells hbd y0, below_cells hbd y1⟩
        clear hK K' hH; have hH := hH'; clear hH'; (try simp only [Act.put]); (repeat (first | simp only [List.setIfInBounds_toArray] | simp only [List.set_cons_zero] | simp only [List.set_cons_succ]))
        refine tkY (v := ?_) 8 hH rfl (fun _ _ _ h => h) ?hc ?hw ?hy ?_
        case hc => decide +kernel
        case hw => rfl
        case hy => (intro w hS; (try dsimp only at hS); go_simp; try with_reducible rfl)
        (try simp only [Act.put]); (repeat (first | simp only [List.setIfInBounds_toArray] | simp only [List.set_cons_zero] | simp only [List.set_cons_succ]))
        refine spk 9 rfl ?hr ?hw (fun K' hK => ?_)
        case hr => decide +kernel
        case hw => rfl
        go_simp
        have he9 := (fun {W : World} (_ : Below W0.heap.size W0 W) => heap_alloc_new W (.cells #[.int .u64 s, .slice q4 m4 k4] 44)) hbd
        try have hne := (Nat.ne_of_lt (hr0.lt _ rfl).2).symm
        try replace hr0 := hr0.alloc (.cells #[.int .u64 s, .slice q4 m4 k4] 44)
        try replace hr2 := hr2.alloc (.cells #[.int .u64 s, .slice q4 m4 k4] 44)
        replace hu4 := hu4.alloc (.cells #[.int .u64 s, .slice q4 m4 k4] 44)
        replace hbd := hbd.alloc hbd.size (.cells #[.int .u64 s, .slice q4 m4 k4] 44)
        try dsimp only
        refine hK.out _ _ ?hS (fun hH' => ?_)
        case hS =>
          exact ⟨below_cells hbd y0, below_cells hbd y1⟩
        clear hK K' hH; have hH := hH'; clear hH'; (try simp only [Act.put]); (repeat (first | simp only [List.setIfInBounds_toArray] | simp only [List.set_cons_zero] | simp only [List.set_cons_succ]))
        refine spk 10 rfl ?hr ?hw (fun K' hK => ?_)
        case hr => decide +kernel
        case hw => rfl
        obtain ⟨g5, c5, w5, hrun5, hown5, hg5, hat5, hlt5⟩ := run_push_at rowRef hr2 hbd.size he9 rfl (by simp [Value.oneCell']) (by simp [maxLen]; omega) (by omega)
        refine wp_append_eq hrun5 _ _ rfl rfl rfl ?_
        replace hbd := hbd.grown hg5 hbd.size (fun b hb => (hr2.lt b hb).1)
        have E := Lib.hid (putTo_end RR.out hwb hu4 hr2 hown5 hg5 (M.out.1.trans (hbd.mono hwb)))
        have BB := Lib.hid (M.out.1.trans (hbd.mono hwb))
        clear hrun5 hown5 hg5 hat5 hlt5
        try dsimp only
        refine hK.out _ _ ?hS (fun hH' => ?_)
        case hS =>
          exact ⟨below_cells hbd y0, below_cells hbd y1⟩
        clear hK K' hH; have hH := hH'; clear hH'; (try simp only [Act.put]); (repeat (first | simp only [List.setIfInBounds_toArray] | simp only [List.set_cons_zero] | simp only [List.set_cons_succ]))
        refine tkY (v := ?_) 11 hH rfl (fun _ _ _ h => h) ?hc ?hw ?hy ?_
        case hc => decide +kernel
        case hw => rfl
        case hy => (intro w hS; (try dsimp only at hS); go_simp; try with_reducible rfl)
        (try simp only [Act.put]); (repeat (first | simp only [List.setIfInBounds_toArray] | simp only [List.set_cons_zero] | simp only [List.set_cons_succ]))
        refine tkY (v := ?_) 12 hH rfl (fun _ _ _ h => h) ?hc ?hw ?hy ?_
        case hc => decide +kernel
        case hw => rfl
        case hy => (intro w hS; (try dsimp only at hS); go_simp; try with_reducible rfl)
        (try simp only [Act.put]); (repeat (first | simp only [List.setIfInBounds_toArray] | simp only [List.set_cons_zero] | simp only [List.set_cons_succ]))
        refine wpAnyH_done (by decide +kernel) ?_ _
        clear hH hbd he9 hr2 hu4
        go_wp2_with fail
        go_ret2
        rw [PE.out]
        exact ⟨_, rfl, E.out, BB.out⟩

end Go.Proofs.Ytpoophimfjfgkaa
