/-
  chain's law: ChainNews.
-/
import Derived.Test.YtpoophimfjfgkaaChainQ
import Derived.Test.YtpoophimfjfgkaaChainK
import Derived.Test.YtpoophimfjfgkaaChainH
namespace Go.Proofs.Ytpoophimfjfgkaa
open Go.RowKit

theorem putZ_keeps {l : List (Int × List Int)} {s : Int} {xs : List Int} (h : (putZ l s xs).1 ≠ 0) : (putZ l s xs).2 = l := by
  unfold putZ at h ⊢
  split
  · rfl
  · rename_i h1
    rw [if_neg h1] at h
    split
    · rfl
    · rename_i h2
      rw [if_neg h2] at h
      split
      · rfl
      · rename_i h3
        rw [if_neg h3] at h
        exact absurd rfl h

theorem putsZ_snoc (l0 m : List (Int × List Int)) (r : Int × List Int) : putsZ l0 (m ++ [r]) = if (putsZ l0 m).1 = 0 then putZ (putsZ l0 m).2 r.1 r.2 else putsZ l0 m := by
  induction m generalizing l0 with
  | nil =>
    simp only [List.nil_append, putsZ, if_true]
    split
    · rename_i h; rw [← h]
    · rename_i h; exact Prod.ext rfl (putZ_keeps h).symm
  | cons a m ih =>
    simp only [List.cons_append, putsZ]
    split
    · exact ih _
    · rename_i h; simp [h]

theorem putsZ_length (l0 m : List (Int × List Int)) : (putsZ l0 m).2.length ≤ l0.length + m.length := by
  induction m generalizing l0 with
  | nil => simp [putsZ]
  | cons a m ih =>
    simp only [putsZ]
    split
    · have := ih (putZ l0 a.1 a.2).2
      have := putZ_length l0 a.1 a.2
      simp only [List.length_cons]
      omega
    · simp

theorem putsZ_good' {l0 : List (Int × List Int)} (h : Good l0) (m : List (Int × List Int)) : Good (putsZ l0 m).2 := by
  induction m generalizing l0 with
  | nil => exact h
  | cons a m ih =>
    simp only [putsZ]
    split
    · exact ih (putZ_good h _ _)
    · exact h

theorem Recs.toF {w : World} {v : Value} {l : List (Int × List Int)} (h : Recs w v l) : RecsF w (fun _ => True) v l := by
  obtain ⟨p, cap, hv, h1, h2, h3, h4⟩ := h
  refine ⟨p, cap, hv, h1, h2, h3, fun i hi => ?_⟩
  obtain ⟨b, off, u, hp, c0, c1, hn⟩ := h4 i hi
  exact ⟨b, off, u, hp, trivial, c0, c1, hn, fun _ _ _ => trivial⟩

theorem sameVersOne (l : List (Int × List Int)) (v u : Value) (w : World) (h : Recs w v l) (g : Recs w u l) :
    Calls Try.prog 19 #[v, u] w fun e w' => e = .returned (.bool true) ∧ Drawn w w' :=
  (sameVers l l v u w h g).mono fun _ _ ⟨a, b⟩ => ⟨by rw [a]; simp, b⟩

/-- the first k, each vector cut -/
def verZ (l : List (Int × List Int)) (k : Nat) : List (Int × List Int) := (l.take k).map fun r => (r.1, r.2.take 10)

theorem verZ_snoc {l : List (Int × List Int)} {k : Nat} (hk : k < l.length) : verZ l (k + 1) = verZ l k ++ [(l[k].1, l[k].2.take 10)] := by
  unfold verZ; rw [take_snoc l k hk, List.map_append]; rfl

/-- what ChainNews carries with it -/
def NewsIn (w0 : World) (l : List (Int × List Int)) (k : Nat) (u3 u4 : Value) (wr : World) : Prop :=
  ∃ (rs : List (Int × Value)) (F : Nat → Prop), rs.length = k ∧ wr.ownsRow w0.heap.size 41 2 u3 k (flat2 rs) ∧ Held2 wr w0.heap.size 21 rs (verZ l k) ∧
    RecsF wr F u4 (putsZ [] (verZ l k)).2 ∧ (∀ j, F j → j < wr.heap.size) ∧ (∀ b, u3.ownBlock = some b → ¬ F b) ∧ Below w0.heap.size w0 wr

theorem NewsIn.push {w0 wr w4 w5 : World} {l : List (Int × List Int)} {k B4 : Nat} {u3 u4 ub : Value} {g5 c5 : Nat} {F : Nat → Prop} {rs : List (Int × Value)} {o : Obj} (hk : k < l.length)
    (hlen : rs.length = k) (hown : wr.ownsRow w0.heap.size 41 2 u3 k (flat2 rs)) (hheld : Held2 wr w0.heap.size 21 rs (verZ l k)) (hrec : RecsF wr F u4 (putsZ [] (verZ l k)).2) (hlt : ∀ j, F j → j < wr.heap.size)
    (hnot : ∀ b, u3.ownBlock = some b → ¬ F b) (hb : Below w0.heap.size w0 wr)
    (hu : w4.ownsRow B4 21 1 ub (l[k].2.take 10).length ((l[k].2.take 10).map (Value.int .i32))) (hB4 : wr.heap.size ≤ B4) (hb4 : Below wr.heap.size wr w4)
    (hown5 : w5.ownsRow w0.heap.size 41 2 (.slice (some ⟨g5, 0, none⟩) (k + 1) c5) (k + 1) (flat2 rs ++ (#[.int .u64 l[k].1, ub] : Array Value).toList)) (hg5 : (w4.alloc o).grownBy w5 u3.ownBlock) (hg : u3.ownBlock = some g5 ∨ g5 = w4.heap.size + 1) :
    w5.ownsRow w0.heap.size 41 2 (.slice (some ⟨g5, 0, none⟩) (k + 1) c5) (k + 1) (flat2 (rs ++ [(l[k].1, ub)])) ∧ Held2 w5 w0.heap.size 21 (rs ++ [(l[k].1, ub)]) (verZ l (k + 1)) ∧
      RecsF w5 F u4 (putsZ [] (verZ l k)).2 ∧ (∀ j, F j → j < w5.heap.size) ∧ ¬ F g5 ∧ Below w0.heap.size w0 w5 := by
  subst hlen
  obtain ⟨h1, h2, h3⟩ := recs_step hown hheld hb hu hB4 (by decide) hb4 hown5 hg5
  have hsz := hb4.size
  refine ⟨by simpa using h1, by rw [verZ_snoc hk]; exact h2, hrec.agree fun j hj => ?_, fun j hj => ?_, fun hf => ?_, h3⟩
  · have hjl := hlt j hj
    rw [hg5.block j (by simp; omega) (fun e => hnot j e.symm hj), heap_alloc_old _ _ (by omega), hb4.block j hjl]
  · have := hlt j hj
    have := hg5.size
    simp at this
    omega
  · rcases hg with hg | hg
    · exact hnot _ hg hf
    · have := hlt _ hf; omega

set_option maxHeartbeats 4000000 in
theorem chainNews (l : List (Int × List Int)) (hl0 : ∀ r ∈ l, 0 ≤ r.1 ∧ r.1 ≤ 18446744073709551615) (v : Value) (w : World) (h : Recs w v l) :
    Calls Try.prog 5 #[v] w fun e w' => e = .returned (.bool true) ∧ Below w.heap.size w w' := by
  obtain ⟨p, cap, rfl, hcap, hbig, -, -⟩ := id h
  have hl9 : l.length ≤ 9223372036854775807 := by omega
  have H := Lib.hid h
  have M := Lib.hid hl0
  clear h hl0 hcap hbig
  go_enter Try.func5, Try.ntmps5
  go_wp2_with fail
  refine (awake_true w).mono ?_
  rintro e w1 ⟨rfl, hb1⟩
  have B1 := Lib.hid hb1
  clear hb1
  go_wp2_with fail
  go_loopg [3, 4, 5, 14] l.length (fun q u3 u4 u5 i wr => ∃ k : Nat, q = l.length - k ∧ k ≤ l.length ∧ k ≤ 20 ∧ i = .int .i64 k ∧ u5 = .int .i64 (putsZ [] (verZ l k)).1 ∧ NewsIn w l k u3 u4 wr)
  case atStart => exact ⟨0, rfl, by omega, by omega, rfl, rfl, [], fun _ => False, rfl, World.ownsRow_nil _ _ _ _, Held2.nil _ _ _, RecsF.nil _ _, fun _ h => h.elim, fun _ _ h => h, B1.out⟩
  case round =>
    obtain ⟨k, rfl, hk, hk20, rfl, rfl, rs, F, hlen, hown, hheld, hrec, hFl, hFn, hb⟩ := hrel
    by_cases hgo : k < l.length ∧ k < 20
    · obtain ⟨hlt, h20⟩ := hgo
      obtain ⟨b, off, u, rfl, c0, c1, hu⟩ := (H.out.below hb).elem hlt
      obtain ⟨up, uc, rfl, -, -, -, -⟩ := id hu.slice
      have U := Lib.hid hu
      have hsz := hb.size
      have X := Lib.hid (And.intro hlen (And.intro hown (And.intro hheld (And.intro hrec (And.intro hFl (And.intro hFn hb))))))
      have PS := Lib.hid (putsZ_snoc [] (verZ l k) (l[k].1, l[k].2.take 10))
      have GW := Lib.hid (putsZ_good' Good.nil (verZ l k))
      have hc2 : ((putsZ [] (verZ l k)).2).length ≤ 1000000 := by
        have h1 := putsZ_length [] (verZ l k)
        have h2 : (verZ l k).length ≤ k := by simp [verZ]; omega
        simp at h1
        omega
      clear hown hheld hrec hFl hFn hb hu hlen
      go_wp2_with fail
      have hbx := (Below.refl wr.heap.size wr).alloc (Nat.le_refl _) (Obj.cells #[Value.int IntKind.u64 l[k].1, Value.slice up l[k].2.length uc] 44)
      refine (cutVec l[k].2 _ 10 _ (U.out.below hbx) (by decide) (.inr (by decide))).mono ?_
      rintro e w2 ⟨ua, rfl, hua, hb2⟩
      obtain ⟨q2, n2, k2, rfl⟩ := own_form hua
      have d0 := below_cells hb2 (a := ⟨wr.heap.size, 0, none⟩) (v := .int .u64 l[k].1) (by go_simp)
      have d1 := below_cells hb2 (a := ⟨wr.heap.size, 1, none⟩) (v := .slice up l[k].2.length uc) (by go_simp)
      have e1 := below_frozen hb2 (a := ⟨wr.heap.size, 1, none⟩) (by simp) (by go_simp)
      have e0 := below_frozen hb2 (a := ⟨wr.heap.size, 0, none⟩) (by simp) (by go_simp)
      have hb3 := (hbx.trans (hb2.mono hbx.size)).setCell (p := ⟨wr.heap.size, 1, none⟩) (Nat.le_refl _) (.slice q2 n2 k2)
      have hua3 : (w2.setCell ⟨wr.heap.size, 1, none⟩ (.slice q2 n2 k2)).ownsRow (wr.heap.size + 1) 21 1 (.slice q2 n2 k2) (l[k].2.take 10).length ((l[k].2.take 10).map (Value.int .i32)) := by
        have := ownsRow_setCell_other hua (a := ⟨wr.heap.size, 1, none⟩) (fun e => by have := (hua.lt _ e).1; simp at this; omega) (.slice q2 n2 k2)
        simpa using this
      have y0 : (w2.setCell ⟨wr.heap.size, 1, none⟩ (.slice q2 n2 k2)).drew.cell? ⟨wr.heap.size, 0, none⟩ = some (.int .u64 l[k].1) := by
        have : (w2.setCell ⟨wr.heap.size, 1, none⟩ (.slice q2 n2 k2)).cell? ⟨wr.heap.size, 0, none⟩ = some (.int .u64 l[k].1) := by rw [World.cell?_setCell_other _ _ _ _ (by simp)]; exact d0
        simpa using this
      have y1 : (w2.setCell ⟨wr.heap.size, 1, none⟩ (.slice q2 n2 k2)).drew.cell? ⟨wr.heap.size, 1, none⟩ = some (.slice q2 n2 k2) := by
        have : (w2.setCell ⟨wr.heap.size, 1, none⟩ (.slice q2 n2 k2)).cell? ⟨wr.heap.size, 1, none⟩ = some (.slice q2 n2 k2) := World.cell?_setCell_same _ _ _ d1
        simpa using this
      have UA := Lib.hid hua3
      have B3 := Lib.hid hb3
      clear hua hb2 hb3 hua3 hbx
      go_wp2_with fail
      obtain ⟨W0, hW0⟩ : ∃ W0, W0 = (w2.setCell ⟨wr.heap.size, 1, none⟩ (.slice q2 n2 k2)).drew := ⟨_, rfl⟩
      have hb0 := Lib.hid B3.out.drew
      have ua0 := Lib.hid (own_below UA.out (Below.refl _ _).drew)
      rw [← hW0] at y0 y1 hb0 ua0
      have HW := Lib.hid hW0
      clear hW0 d0 d1 e0 e1
      refine region_go (fun w' => w'.cell? ⟨wr.heap.size, 0, none⟩ = some (.int .u64 l[k].1) ∧ w'.cell? ⟨wr.heap.size, 1, none⟩ = some (.slice q2 n2 k2)) (by kernel_rfl) ?hS0 (fun hH => ?_)
      case hS0 =>
        rw [← HW.out]; exact ⟨y0, y1⟩
      rw [← HW.out] at hH ⊢
      refine tkY (v := ?_) 0 hH rfl (fun _ _ _ h => h) ?hc ?hw ?hy ?_
      case hc => decide +kernel
      case hw => rfl
      case hy => (intro w hS; (try dsimp only at hS); go_simp; try with_reducible rfl)
      (try simp only [Act.put]); (repeat (first | simp only [List.setIfInBounds_toArray] | simp only [List.set_cons_zero] | simp only [List.set_cons_succ]))
      refine tkY (v := ?_) 1 hH rfl (fun _ _ _ h => h) ?hc ?hw ?hy ?_
      case hc => decide +kernel
      case hw => rfl
      case hy => (intro w hS; (try dsimp only at hS); go_simp; try with_reducible rfl)
      (try simp only [Act.put]); (repeat (first | simp only [List.setIfInBounds_toArray] | simp only [List.set_cons_zero] | simp only [List.set_cons_succ]))
      refine tkY (v := ?_) 2 hH rfl (fun _ _ _ h => h) ?hc ?hw ?hy ?_
      case hc => decide +kernel
      case hw => rfl
      case hy => (intro w hS; (try dsimp only at hS); go_simp; try with_reducible rfl)
      (try simp only [Act.put]); (repeat (first | simp only [List.setIfInBounds_toArray] | simp only [List.set_cons_zero] | simp only [List.set_cons_succ]))
      refine tkY (v := ?_) 3 hH rfl (fun _ _ _ h => h) ?hc ?hw ?hy ?_
      case hc => decide +kernel
      case hw => rfl
      case hy => (intro w hS; (try dsimp only at hS); go_simp; try with_reducible rfl)
      (try simp only [Act.put]); (repeat (first | simp only [List.setIfInBounds_toArray] | simp only [List.set_cons_zero] | simp only [List.set_cons_succ]))
      refine tkY (v := ?_) 4 hH rfl (fun _ _ _ h => h) ?hc ?hw ?hy ?_
      case hc => decide +kernel
      case hw => rfl
      case hy => (intro w hS; (try dsimp only at hS); go_simp; try with_reducible rfl)
      (try simp only [Act.put]); (repeat (first | simp only [List.setIfInBounds_toArray] | simp only [List.set_cons_zero] | simp only [List.set_cons_succ]))
      refine spk 5 rfl ?hr ?hw (fun K' hK => ?_)
      case hr => decide +kernel
      case hw => rfl
      go_simp
      refine (cutVec (l[k].2.take 10) _ 10 _ (Nums.of_own ua0.out) (by decide) (.inr (by decide))).mono ?_
      rintro e w5 ⟨ub, rfl, hub, hb5⟩
      rw [List.take_take, show min (10 : Int).toNat 10 = 10 by decide] at hub
      obtain ⟨q5, m5, k5, rfl⟩ := own_form hub
      obtain ⟨hlen, hown, hheld, hrec, hFl, hFn, hb⟩ := X.out
      have hb05 := hb0.out.trans (hb5.mono hb0.out.size)
      have ho5 := own_below hown hb05
      obtain ⟨g6, c6, w6, hrun6, hown6, hg6, hat6, hlt6⟩ := run_push rowVer ho5 (Nat.le_trans hb.size hb05.size) #[.int .u64 l[k].1, .slice q5 m5 k5] rfl (by simp [Value.oneCell']) (by simp [maxLen]; omega) (by omega)
      have P6 := Lib.hid (NewsIn.push hlt hlen hown hheld hrec hFl hFn hb hub hb0.out.size hb05 hown6 hg6 hat6)
      have z0 := below_cells hb5 y0
      have z1 := below_cells hb5 y1
      have t0 := below_cells ((Below.refl _ w5).alloc (Nat.le_refl _) (.cells #[.int .u64 l[k].1, .slice q5 m5 k5] 41)) z0
      have t1 := below_cells ((Below.refl _ w5).alloc (Nat.le_refl _) (.cells #[.int .u64 l[k].1, .slice q5 m5 k5] 41)) z1
      have kb : some wr.heap.size ≠ u3.ownBlock := fun e => by have := (hown.lt _ e.symm).2; omega
      have s0 : w6.cell? ⟨wr.heap.size, 0, none⟩ = some (.int .u64 l[k].1) := by rw [World.cell?_of_block (hg6.block wr.heap.size (lt_of_cell t0) kb)]; exact t0
      have s1 : w6.cell? ⟨wr.heap.size, 1, none⟩ = some (.slice q2 n2 k2) := by rw [World.cell?_of_block (hg6.block wr.heap.size (lt_of_cell t0) kb)]; exact t1
      have A6 := Lib.hid ((own_below ua0.out hb5).alloc (.cells #[.int .u64 l[k].1, .slice q5 m5 k5] 41) |>.kept hg6 (own_apart (own_below ua0.out hb5) ho5 (by decide)))
      have R6 := Lib.hid hrun6
      clear hrun6 hown6 hg6 hat6 hlt6 hub hb5 hb05 ho5 hown hheld hrec hFl hFn hb hlen kb
      try dsimp only
      refine hK.out _ _ ?hS (fun hH' => ?_)
      case hS =>
        exact ⟨z0, z1⟩
      clear hK K' hH; have hH := hH'; clear hH'; (try simp only [Act.put]); (repeat (first | simp only [List.setIfInBounds_toArray] | simp only [List.set_cons_zero] | simp only [List.set_cons_succ]))
      refine tkY (v := ?_) 6 hH rfl (fun _ _ _ h => h) ?hc ?hw ?hy ?_
      case hc => decide +kernel
      case hw => rfl
      case hy => (intro w hS; (try dsimp only at hS); go_simp; try with_reducible rfl)
      (try simp only [Act.put]); (repeat (first | simp only [List.setIfInBounds_toArray] | simp only [List.set_cons_zero] | simp only [List.set_cons_succ]))
      refine spk 7 rfl ?hr ?hw (fun K' hK => ?_)
      case hr => decide +kernel
      case hw => rfl
      go_simp
      try dsimp only
      refine hK.out _ _ ?hS (fun hH' => ?_)
      case hS =>
        exact ⟨t0, t1⟩
      clear hK K' hH; have hH := hH'; clear hH'; (try simp only [Act.put]); (repeat (first | simp only [List.setIfInBounds_toArray] | simp only [List.set_cons_zero] | simp only [List.set_cons_succ]))
      refine spk 8 rfl ?hr ?hw (fun K' hK => ?_)
      case hr => decide +kernel
      case hw => rfl
      refine wp_append_eq R6.out _ _ rfl rfl rfl ?_
      try dsimp only
      refine hK.out _ _ ?hS (fun hH' => ?_)
      case hS =>
        exact ⟨s0, s1⟩
      clear hK K' hH; have hH := hH'; clear hH'; (try simp only [Act.put]); (repeat (first | simp only [List.setIfInBounds_toArray] | simp only [List.set_cons_zero] | simp only [List.set_cons_succ]))
      refine tkY (v := ?_) 9 hH rfl (fun _ _ _ h => h) ?hc ?hw ?hy ?_
      case hc => decide +kernel
      case hw => rfl
      case hy => (intro w hS; (try dsimp only at hS); go_simp; try with_reducible rfl)
      (try simp only [Act.put]); (repeat (first | simp only [List.setIfInBounds_toArray] | simp only [List.set_cons_zero] | simp only [List.set_cons_succ]))
      refine wpAnyH_done (by decide +kernel) ?_ _
      clear hH t0 t1 z0 z1 y0 y1
      by_cases hcode : (putsZ [] (verZ l k)).1 = 0
      · have hz : ((putsZ [] (verZ l k)).1 == 0) = true := by rw [beq_iff_eq]; exact hcode
        have HC := Lib.hid hcode
        clear hcode
        obtain ⟨p1, p2, p3, p4, p5, p6⟩ := P6.out
        have RP := Lib.hid (refPut (putsZ [] (verZ l k)).2 GW.out.rising hc2 l[k].1 (l[k].2.take 10) (.slice q2 n2 k2) u4 F w6 p3 p4 (Nums.of_own A6.out) (by simp; omega))
        clear p1 p2 p3 p4 p5 p6
        go_wp2_with fail
        refine RP.out.mono ?_
        rintro e w7 ⟨v7, rfl, hr7, hb7⟩
        have Q7 := Lib.hid (And.intro hr7 hb7)
        clear hr7 hb7
        go_wp2_with fail
        go_roundg (l.length - (k + 1))
        case measure => omega
        case rel =>
          obtain ⟨p1, p2, p3, p4, p5, p6⟩ := P6.out
          have e9 : putsZ [] (verZ l (k + 1)) = putZ (putsZ [] (verZ l k)).2 l[k].1 (l[k].2.take 10) := by rw [verZ_snoc hlt, PS.out, if_pos HC.out]
          refine ⟨k + 1, rfl, by omega, by omega, by go_num, by rw [e9], _, _, by simp [X.out.1], own_below p1 Q7.out.2, p2.below Q7.out.2, by rw [e9]; exact Q7.out.1, fun j hj => ?_, fun b hb hj => ?_, p6.trans (Q7.out.2.mono p6.size)⟩
          · rcases hj with hj | ⟨_, hj⟩
            · have := p4 j hj; have := Q7.out.2.size; omega
            · exact hj
          · simp only [Value.ownBlock, Option.some.injEq] at hb
            subst hb
            have h9 : g6 < w6.heap.size := (p1.lt _ rfl).2
            rcases hj with hj | ⟨hj, _⟩
            · exact p5 hj
            · omega
      · have hz : ((putsZ [] (verZ l k)).1 == 0) = false := by rw [beq_eq_false_iff_ne]; exact hcode
        have HC := Lib.hid hcode
        clear hcode
        go_wp2_with fail
        go_roundg (l.length - (k + 1))
        case measure => omega
        case rel =>
          obtain ⟨p1, p2, p3, p4, p5, p6⟩ := P6.out
          have e9 : putsZ [] (verZ l (k + 1)) = putsZ [] (verZ l k) := by rw [verZ_snoc hlt, PS.out, if_neg HC.out]
          exact ⟨k + 1, rfl, by omega, by omega, by go_num, by rw [e9], _, F, by simp [X.out.1], p1, p2, by rw [e9]; exact p3, p4, fun b hb hj => by
            simp only [Value.ownBlock, Option.some.injEq] at hb
            subst hb
            exact p5 hj, p6⟩
    · have X := Lib.hid (And.intro hlen (And.intro hown (And.intro hheld (And.intro hrec hb))))
      have ML := Lib.hid (show ∀ r ∈ verZ l k, 0 ≤ r.1 ∧ r.2.length ≤ 1000000 from fun r hr => by
        simp only [verZ, List.mem_map] at hr
        obtain ⟨a, ha, rfl⟩ := hr
        have := M.out a (List.mem_of_mem_take ha)
        simp; omega)
      have hml : (verZ l k).length ≤ 20 := by simp [verZ]; omega
      have hml2 : (putsZ [] (verZ l k)).2.length ≤ 20 := by have := putsZ_length [] (verZ l k); simp at this; omega
      have GD := Lib.hid (putsZ_good' Good.nil (verZ l k))
      have hsz := hb.size
      clear hlen hown hheld hrec hFl hFn hb
      by_cases hlt : k < l.length
      · obtain rfl : k = 20 := by omega
        obtain ⟨b, off, u, rfl, c0, c1, hu⟩ := (H.out.below X.out.2.2.2.2).elem hlt
        obtain ⟨up, uc, rfl, -, -, -, -⟩ := id hu.slice
        clear hu
        have BW := Lib.hid ((Below.refl wr.heap.size wr).alloc (Nat.le_refl _) (Obj.cells #[Value.int IntKind.u64 l[20].1, Value.slice up l[20].2.length uc] 44))
        go_wp2_with fail
        have NW := Lib.hid (new (verZ l 20) (by omega) ML.out u3 _ ((Recs.of_own X.out.2.1 X.out.2.2.1).below BW.out))
        have WT := Lib.hid (X.out.2.2.2.1.recs.below BW.out)
        have BT := Lib.hid (X.out.2.2.2.2.trans (BW.out.mono hsz))
        generalize verZ l 20 = mv at *
        generalize putsZ [] mv = pz at *
        obtain ⟨code, wl⟩ := pz
        try simp only at hml2
        go_wp2_with fail
        refine NW.out.mono ?_
        rintro e w8 (⟨h0, c, rfl, hc, hb8⟩ | ⟨h0, rfl, hb8⟩)
        · simp only at h0
          subst h0
          have B8 := Lib.hid (BT.out.trans (hb8.mono BT.out.size))
          have W8 := Lib.hid (WT.out.below hb8)
          have C8 := Lib.hid hc
          clear hc hb8
          go_wp2_with fail
          obtain ⟨cv, crs, hcv, -⟩ := C8.out
          refine (list wl (by omega) GD.out.lengths c cv w8 hcv.is).mono ?_
          clear hcv
          rintro e w9 ⟨lv, lrs, rfl, hlo, hlh, hb9⟩
          have L9 := Lib.hid (Recs.of_own hlo hlh)
          have W9 := Lib.hid (W8.out.below hb9)
          have B9 := Lib.hid (B8.out.trans (hb9.mono B8.out.size))
          clear hlo hlh hb9
          go_wp2_with fail
          refine (back wl lv _ w9 L9.out.toF (by omega)).mono ?_
          rintro e wA ⟨bv, rfl, hbr, hbA⟩
          have LA := Lib.hid hbr.recs
          have WA := Lib.hid (W9.out.below hbA)
          have BA := Lib.hid (B9.out.trans (hbA.mono B9.out.size))
          clear hbr hbA
          go_wp2_with fail
          refine (sameVersOne wl _ _ wA LA.out WA.out).mono ?_
          rintro e wB ⟨rfl, hdB⟩
          have BB := Lib.hid (BA.out.trans (hdB.below.mono BA.out.size))
          clear hdB
          go_wp2_with fail
          go_ret
          exact ⟨rfl, BB.out⟩
        · have hz : (code == 0) = false := by rw [beq_eq_false_iff_ne]; exact h0
          have hz' : (code != 0) = true := by rw [bne_iff_ne]; exact h0
          have B8 := Lib.hid (BT.out.trans (hb8.mono BT.out.size))
          clear h0 hb8
          go_wp2_with fail
          go_ret
          exact ⟨rfl, B8.out⟩
      · obtain rfl : l.length = k := by omega
        have BW := Lib.hid (Below.refl wr.heap.size wr)
        go_wp2_with fail
        have NW := Lib.hid (new (verZ l l.length) (by omega) ML.out u3 _ ((Recs.of_own X.out.2.1 X.out.2.2.1).below BW.out))
        have WT := Lib.hid (X.out.2.2.2.1.recs.below BW.out)
        have BT := Lib.hid (X.out.2.2.2.2.trans (BW.out.mono hsz))
        generalize verZ l l.length = mv at *
        generalize putsZ [] mv = pz at *
        obtain ⟨code, wl⟩ := pz
        try simp only at hml2
        go_wp2_with fail
        refine NW.out.mono ?_
        rintro e w8 (⟨h0, c, rfl, hc, hb8⟩ | ⟨h0, rfl, hb8⟩)
        · simp only at h0
          subst h0
          have B8 := Lib.hid (BT.out.trans (hb8.mono BT.out.size))
          have W8 := Lib.hid (WT.out.below hb8)
          have C8 := Lib.hid hc
          clear hc hb8
          go_wp2_with fail
          obtain ⟨cv, crs, hcv, -⟩ := C8.out
          refine (list wl (by omega) GD.out.lengths c cv w8 hcv.is).mono ?_
          clear hcv
          rintro e w9 ⟨lv, lrs, rfl, hlo, hlh, hb9⟩
          have L9 := Lib.hid (Recs.of_own hlo hlh)
          have W9 := Lib.hid (W8.out.below hb9)
          have B9 := Lib.hid (B8.out.trans (hb9.mono B8.out.size))
          clear hlo hlh hb9
          go_wp2_with fail
          refine (back wl lv _ w9 L9.out.toF (by omega)).mono ?_
          rintro e wA ⟨bv, rfl, hbr, hbA⟩
          have LA := Lib.hid hbr.recs
          have WA := Lib.hid (W9.out.below hbA)
          have BA := Lib.hid (B9.out.trans (hbA.mono B9.out.size))
          clear hbr hbA
          go_wp2_with fail
          refine (sameVersOne wl _ _ wA LA.out WA.out).mono ?_
          rintro e wB ⟨rfl, hdB⟩
          have BB := Lib.hid (BA.out.trans (hdB.below.mono BA.out.size))
          clear hdB
          go_wp2_with fail
          go_ret
          exact ⟨rfl, BB.out⟩
        · have hz : (code == 0) = false := by rw [beq_eq_false_iff_ne]; exact h0
          have hz' : (code != 0) = true := by rw [bne_iff_ne]; exact h0
          have B8 := Lib.hid (BT.out.trans (hb8.mono BT.out.size))
          clear h0 hb8
          go_wp2_with fail
          go_ret
          exact ⟨rfl, B8.out⟩

end Go.Proofs.Ytpoophimfjfgkaa
