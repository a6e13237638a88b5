/-
  chain's law: ChainOwns.
-/
import Derived.Test.YtpoophimfjfgkaaChainR
namespace Go.Proofs.Ytpoophimfjfgkaa
open Go.RowKit

theorem own_store {w : World} {B e n g cap k : Nat} {kd : IntKind} {xs : List Int} (h : w.ownsRow B e 1 (.slice (some ⟨g, 0, none⟩) n cap) n (xs.map (Value.int kd))) (hk : k < n) (y : Int) :
    (w.setCell ⟨g, k, none⟩ (.int kd y)).ownsRow B e 1 (.slice (some ⟨g, 0, none⟩) n cap) n ((xs.set k y).map (Value.int kd)) := by
  rw [List.map_set]
  exact own_setCell h rfl (by omega) _

/-- one vector of such a row is written -/
theorem Held2.store {w : World} {B E : Nat} {rs : List (Int × Value)} {l : List (Int × List Int)} (h : Held2 w B E rs l) {i g k : Nat} (hi : i < rs.length) (hl : i < l.length) (hg : rs[i].2.ownBlock = some g) (hk : k < l[i].2.length) (y : Int) :
    Held2 (w.setCell ⟨g, k, none⟩ (.int .i32 y)) B E rs (l.set i (l[i].1, l[i].2.set k y)) := by
  refine ⟨by simp [h.len], fun j h1 h2 => ?_, h.apart⟩
  rw [List.length_set] at h2
  have ho := h.own j h1 h2
  by_cases e : j = i
  · subst e
    simp only [List.getElem_set_self]
    refine ⟨ho.1, ?_⟩
    simp only [List.length_set, List.map_set]
    exact own_setCell ho.2 hg (by omega) _
  · simp only [List.getElem_set_ne (fun e' => e e'.symm)]
    refine ⟨ho.1, ownsRow_setCell_other ho.2 (fun e' => ?_) _⟩
    have hp := List.pairwise_iff_getElem.1 h.apart
    rcases Nat.lt_or_ge j i with hlt | hge
    · rcases hp j i h1 hi hlt with h3 | h3
      · rw [h3] at e'; cases e'
      · exact h3 (by rw [e', hg])
    · rcases hp i j hi h1 (by omega) with h3 | h3
      · rw [h3] at hg; cases hg
      · exact h3 (by rw [e', hg])

/-- one stamp of such a row is written -/
theorem Held2.restamp {w : World} {B E : Nat} {rs : List (Int × Value)} {l : List (Int × List Int)} (h : Held2 w B E rs l) {i : Nat} (hi : i < rs.length) (hl : i < l.length) (x : Int) :
    Held2 w B E (rs.set i (x, rs[i].2)) (l.set i (x, l[i].2)) := by
  refine ⟨by simp [h.len], fun j h1 h2 => ?_, ?_⟩
  · rw [List.length_set] at h1 h2
    have ho := h.own j h1 h2
    simp only [List.getElem_set]
    split
    · rename_i e; subst e; exact ⟨rfl, ho.2⟩
    · exact ho
  · rw [List.pairwise_iff_getElem]
    intro a b ha hb hab
    rw [List.length_set] at ha hb
    have := List.pairwise_iff_getElem.1 h.apart a b ha hb hab
    have e1 : ∀ c (hc : c < rs.length), ((rs.set i (x, rs[i].2))[c]'(by simpa using hc)).2 = rs[c].2 := by
      intro c hc
      rw [List.getElem_set]
      split
      · rename_i e; subst e; rfl
      · rfl
    rw [e1 a ha, e1 b hb]
    exact this

/-- a row of pairs of the law's own, whatever it holds; its blocks lie below N -/
def Loose (w : World) (B N : Nat) (v : Value) (n : Nat) : Prop :=
  ∃ rs l, rs.length = n ∧ w.ownsRow B 41 2 v n (flat2 rs) ∧ Held2 w B 21 rs l ∧ (∀ b, v.ownBlock = some b → b < N) ∧ ∀ r ∈ rs, ∀ b, r.2.ownBlock = some b → b < N

theorem Loose.keep {w w' : World} {B N n : Nat} {v : Value} (h : Loose w B N v n) (hk : ∀ k, k < N → w'.heap[k]? = w.heap[k]?) : Loose w' B N v n := by
  obtain ⟨rs, l, h1, h2, h3, h4, h5⟩ := h
  exact ⟨rs, l, h1, ownsRow_agree (F := fun k => k < N) h2 h4 hk, ⟨h3.len, fun i a b => ⟨(h3.own i a b).1, ownsRow_agree (F := fun k => k < N) (h3.own i a b).2 (h5 _ (List.getElem_mem a)) hk⟩, h3.apart⟩, h4, h5⟩

theorem flat2_set0 (rs : List (Int × Value)) (i : Nat) (hi : i < rs.length) (x : Int) : (flat2 rs).set (i * 2) (.int .u64 x) = flat2 (rs.set i (x, rs[i].2)) := by
  induction rs generalizing i with
  | nil => simp at hi
  | cons r rs ih =>
    cases i with
    | zero => simp [flat2]
    | succ i =>
      rw [show (i + 1) * 2 = i * 2 + 1 + 1 by omega]
      simp only [flat2, List.set_cons_succ, List.getElem_cons_succ]
      rw [ih i (by simpa using hi)]

theorem inner_facts {wi : World} {B n g lc k j len : Nat} {rs : List (Int × Value)} {li : List (Int × List Int)} {uq : Option Addr} {uc : Nat} (ho : wi.ownsRow B 41 2 (.slice (some ⟨g, 0, none⟩) n lc) n (flat2 rs)) (hh : Held2 wi B 21 rs li) (hn : rs.length = n)
    (hk : k < rs.length) (hkl : k < li.length) (hu : rs[k].2 = .slice uq len uc) (hl : li[k].2.length = len) (hj : j < len) :
    ∃ gu y, uq = some ⟨gu, 0, none⟩ ∧ wi.cell? ⟨g, k * 2 + 1, none⟩ = some (.slice (some ⟨gu, 0, none⟩) len uc) ∧ wi.cell? ⟨gu, j, none⟩ = some (.int .i32 y) ∧ wi.frozen? ⟨gu, j, none⟩ = false ∧ B ≤ gu ∧
      ∀ z, (wi.setCell ⟨gu, j, none⟩ (.int .i32 z)).ownsRow B 41 2 (.slice (some ⟨g, 0, none⟩) n lc) n (flat2 rs) ∧ Held2 (wi.setCell ⟨gu, j, none⟩ (.int .i32 z)) B 21 rs (li.set k (li[k].1, li[k].2.set j z)) := by
  have h1 := (hh.own k hk hkl).2
  rw [hl, hu] at h1
  obtain ⟨gu, cu, he, hB, -⟩ := h1.form (by omega)
  obtain ⟨rfl, -, rfl⟩ := Value.slice.inj he
  have c1 := ho.cellAt (k * 2 + 1) (by omega)
  rw [(flat2_get rs k hk).2, hu] at c1
  have c2 := h1.cellAt j (by omega)
  rw [List.getElem?_map, List.getElem?_eq_getElem (by omega)] at c2
  refine ⟨gu, _, rfl, c1, c2, h1.frozenAt j, hB, fun z => ⟨ownsRow_setCell_other ho (fun e => ?_) _, hh.store hk hkl (by rw [hu]; rfl) (by omega) z⟩⟩
  rcases own_apart ho h1 (by decide) with h | h
  · rw [h] at e; cases e
  · exact h (by rw [e]; rfl)

set_option maxHeartbeats 4000000 in
theorem chainOwns (m : List OpZ) (hm : ∀ r ∈ m, r.Fits) (by_ ask : Int) (v : Value) (w : World) (h : Script w v m) :
    Calls Try.prog 7 #[v, .int .i32 by_, .int .u64 ask] w fun e w' => e = .returned (.bool true) ∧ Below w.heap.size w w' := by
  obtain ⟨p, cap, rfl, hcap, hbig, -, -⟩ := id h
  have hl9 : m.length ≤ 9223372036854775807 := by omega
  have H := Lib.hid h
  have M := Lib.hid hm
  clear h hm hcap hbig
  go_enter Try.func7, Try.ntmps7
  go_wp2_with fail
  refine (awake_true w).mono ?_
  rintro e w1 ⟨rfl, hb1⟩
  have B1 := Lib.hid hb1
  clear hb1
  go_wp2_with fail
  refine (new [] (by simp) (by simp) _ w1 ⟨none, 0, rfl, by simp, by simp, by simp, fun i hi => absurd hi (by simp)⟩).mono ?_
  rintro e w2 (⟨-, c, rfl, hc, hb2⟩ | ⟨hne, -⟩)
  case inr => exact absurd rfl hne
  have L2 := Lib.hid (InLaw.new B1.out hc hb2)
  clear hc hb2
  go_wp2_with fail
  go_loopg [28] m.length (fun q i wr => ∃ (k : Nat) (F : Nat → Prop), q = m.length - k ∧ k ≤ m.length ∧ i = .int .i64 k ∧ InLaw w F c (fillZ [] (scrZ m k)) wr)
  case atStart => exact ⟨0, _, rfl, by omega, rfl, L2.out⟩
  case round =>
    obtain ⟨k, F, rfl, hk, rfl, hL⟩ := hrel
    have L := Lib.hid hL
    by_cases hlt : k < m.length
    · obtain ⟨b, off, u, rfl, c0, c1, c2, c3, hu⟩ := (H.out.below hL.below).elem hlt
      obtain ⟨up, uc, rfl, -, -, -, -⟩ := id hu.slice
      have U := Lib.hid hu
      have hFits := Lib.hid (M.out _ (List.getElem_mem hlt))
      clear hL hu
      by_cases h40 : k < 40
      · skip
        go_wp2_with fail
        have hbox := ((Below.refl wr.heap.size wr).alloc (Nat.le_refl _) (Obj.cells #[Value.int IntKind.u8 m[k].act, Value.int IntKind.u64 m[k].stamp, Value.slice up m[k].vec.length uc, Value.int IntKind.u64 m[k].ask] 32)).drew
        have y0 : (wr.alloc (Obj.cells #[Value.int IntKind.u8 m[k].act, Value.int IntKind.u64 m[k].stamp, Value.slice up m[k].vec.length uc, Value.int IntKind.u64 m[k].ask] 32)).drew.cell? ⟨wr.heap.size, 1, none⟩ = some (.int .u64 m[k].stamp) := by go_simp
        have y1 : (wr.alloc (Obj.cells #[Value.int IntKind.u8 m[k].act, Value.int IntKind.u64 m[k].stamp, Value.slice up m[k].vec.length uc, Value.int IntKind.u64 m[k].ask] 32)).drew.cell? ⟨wr.heap.size, 2, none⟩ = some (.slice up m[k].vec.length uc) := by go_simp
        have U0 := Lib.hid (U.out.below hbox)
        have L0 := Lib.hid (L.out.step hbox)
        obtain ⟨W0, hW0⟩ : ∃ W0, W0 = (wr.alloc (Obj.cells #[Value.int IntKind.u8 m[k].act, Value.int IntKind.u64 m[k].stamp, Value.slice up m[k].vec.length uc, Value.int IntKind.u64 m[k].ask] 32)).drew := ⟨_, rfl⟩
        rw [← hW0] at hbox y0 y1 U0 L0
        have HW := Lib.hid hW0
        have hF := Lib.hid L.out.hi
        have hz := hbox.size
        have hl40 := fill_length m k
        clear hW0
        refine region_go (fun w' => w'.cell? ⟨wr.heap.size, 1, none⟩ = some (.int .u64 m[k].stamp) ∧ w'.cell? ⟨wr.heap.size, 2, none⟩ = some (.slice up m[k].vec.length uc)) (by kernel_rfl) ?hS0 (fun hH => ?_)
        case hS0 =>
          rw [← HW.out]; exact ⟨y0, y1⟩
        rw [← HW.out] at hH ⊢
        refine tkY (v := ?_) 0 hH rfl (fun _ _ _ h => h) ?hc ?hw ?hy ?_
        case hc => decide +kernel
        case hw => rfl
        case hy => (intro w hS; (try dsimp only at hS); go_simp; try with_reducible rfl)
        (try simp only [Act.put]); (repeat (first | simp only [List.setIfInBounds_toArray] | simp only [List.set_cons_zero] | simp only [List.set_cons_succ]))
        refine tkY (v := ?_) 1 hH rfl (fun _ _ _ h => h) ?hc ?hw ?hy ?_
        case hc => decide +kernel
        case hw => rfl
        case hy => (intro w hS; (try dsimp only at hS); go_simp; try with_reducible rfl)
        (try simp only [Act.put]); (repeat (first | simp only [List.setIfInBounds_toArray] | simp only [List.set_cons_zero] | simp only [List.set_cons_succ]))
        refine tkY (v := ?_) 2 hH rfl (fun _ _ _ h => h) ?hc ?hw ?hy ?_
        case hc => decide +kernel
        case hw => rfl
        case hy => (intro w hS; (try dsimp only at hS); go_simp; try with_reducible rfl)
        (try simp only [Act.put]); (repeat (first | simp only [List.setIfInBounds_toArray] | simp only [List.set_cons_zero] | simp only [List.set_cons_succ]))
        refine tkY (v := ?_) 3 hH rfl (fun _ _ _ h => h) ?hc ?hw ?hy ?_
        case hc => decide +kernel
        case hw => rfl
        case hy => (intro w hS; (try dsimp only at hS); go_simp; try with_reducible rfl)
        (try simp only [Act.put]); (repeat (first | simp only [List.setIfInBounds_toArray] | simp only [List.set_cons_zero] | simp only [List.set_cons_succ]))
        refine tkY (v := ?_) 4 hH rfl (fun _ _ _ h => h) ?hc ?hw ?hy ?_
        case hc => decide +kernel
        case hw => rfl
        case hy => (intro w hS; (try dsimp only at hS); go_simp; try with_reducible rfl)
        (try simp only [Act.put]); (repeat (first | simp only [List.setIfInBounds_toArray] | simp only [List.set_cons_zero] | simp only [List.set_cons_succ]))
        refine spk 5 rfl ?hr ?hw (fun K' hK => ?_)
        case hr => decide +kernel
        case hw => rfl
        go_simp
        refine (cutVec m[k].vec _ 10 _ U0.out (by decide) (.inr (by decide))).mono ?_
        rintro e w5 ⟨u5, rfl, hu5, hb5⟩
        obtain ⟨q5, m5, k5, rfl⟩ := own_form hu5
        have L5 := Lib.hid (L0.out.step hb5)
        have U5 := Lib.hid (Nums.of_own hu5)
        have z0 := below_cells hb5 y0
        have z1 := below_cells hb5 y1
        clear hu5 hb5
        try dsimp only
        refine hK.out _ _ ?hS (fun hH' => ?_)
        case hS =>
          exact ⟨z0, z1⟩
        clear hK K' hH; have hH := hH'; clear hH'; (try simp only [Act.put]); (repeat (first | simp only [List.setIfInBounds_toArray] | simp only [List.set_cons_zero] | simp only [List.set_cons_succ]))
        refine tkY (v := ?_) 6 hH rfl (fun _ _ _ h => h) ?hc ?hw ?hy ?_
        case hc => decide +kernel
        case hw => rfl
        case hy => (intro w hS; (try dsimp only at hS); go_simp; try with_reducible rfl)
        (try simp only [Act.put]); (repeat (first | simp only [List.setIfInBounds_toArray] | simp only [List.set_cons_zero] | simp only [List.set_cons_succ]))
        refine spk 7 rfl ?hr ?hw (fun K' hK => ?_)
        case hr => decide +kernel
        case hw => rfl
        go_simp
        refine (put w.heap.size c F (fillZ [] (scrZ m k)) m[k].stamp (m[k].vec.take 10) _ _ L5.out.chain (by omega) U5.out (by simp; omega) hFits.out.2.2.1 L5.out.below.size).mono ?_
        rintro e w7 ⟨rfl, hc7, hm7⟩
        have L7 := Lib.hid (L5.out.put hc7 hm7)
        have kk : ∀ a : Addr, a.block = wr.heap.size → w7.cell? a = w5.cell? a := fun a ha => World.cell?_of_block (by rw [ha]; exact hm7.block _ (lt_of_cell z0) fun hk => Nat.lt_irrefl _ (hF.out _ hk))
        clear hc7 hm7
        try dsimp only
        refine hK.out _ _ ?hS (fun hH' => ?_)
        case hS =>
          exact ⟨by rw [kk _ rfl]; exact z0, by rw [kk _ rfl]; exact z1⟩
        clear hK K' hH; have hH := hH'; clear hH'; (try simp only [Act.put]); (repeat (first | simp only [List.setIfInBounds_toArray] | simp only [List.set_cons_zero] | simp only [List.set_cons_succ]))
        refine wpAnyH_done (by decide +kernel) ?_ _
        clear hH kk z0 z1 y0 y1 hbox hz
        go_wp2_with fail
        go_roundg (m.length - (k + 1))
        case measure => omega
        case rel => exact ⟨k + 1, _, rfl, by omega, by go_num, by rw [scrZ_snoc hlt h40, fillZ_snoc]; exact L7.out⟩
      · go_wp2_with fail
        go_roundg (m.length - (k + 1))
        case measure => omega
        case rel => exact ⟨k + 1, F, rfl, by omega, by go_num, by rw [scrZ_same (by omega)]; exact L.out.step ((Below.refl _ _).alloc (Nat.le_refl _) _)⟩
    · obtain rfl : m.length = k := by omega
      clear hL
      have G := Lib.hid (fill_good m m.length)
      have hn40 := fill_length m m.length
      generalize fillZ [] (scrZ m m.length) = l at *
      have hl9' : l.length ≤ 9223372036854775807 := by omega
      go_wp2_with fail
      obtain ⟨cv, hcv⟩ := L.out.is
      refine (list l (by omega) G.out.lengths c cv wr hcv).mono ?_
      clear hcv
      rintro e w3 ⟨vl, rs, rfl, ho, hh, hb3⟩
      have R3 := Lib.hid (Recs.of_own ho hh)
      have L3 := Lib.hid (L.out.step hb3)
      clear ho hh hb3
      go_wp2_with fail
      refine (back l vl _ w3 R3.out.toF (by omega)).mono ?_
      rintro e w4 ⟨was, rfl, hwas, hb4⟩
      have hws := hwas.recs
      obtain ⟨wq, wc, rfl, -, -, -, -⟩ := id hws
      have W4 := Lib.hid hws
      have L4 := Lib.hid (L3.out.step hb4)
      clear hwas hws hb4
      go_wp2_with fail
      obtain ⟨cv, hcv⟩ := L4.out.is
      refine (list l (by omega) G.out.lengths c cv w4 hcv).mono ?_
      clear hcv
      rintro e w5 ⟨ll, lrs, rfl, ho, hh, hb5⟩
      obtain ⟨lq, lc, rfl, -, -, -, -⟩ := Recs.of_own ho hh
      have Y5 := Lib.hid (show Loose w5 w4.heap.size w5.heap.size (.slice lq l.length lc) l.length from ⟨lrs, l, hh.len, by have := hh.len; rw [this] at ho; exact ho, hh, fun b hb => (ho.lt b hb).2, fun r hr b hb => (hh.lt hr b hb).2⟩)
      have B5 := Lib.hid hb5
      have L5 := Lib.hid (L4.out.step hb5)
      clear ho hh hb5
      go_wp2_with fail
      obtain ⟨cv, hcv⟩ := L5.out.is
      refine (atOf l G.out.rising (by omega) G.out.lengths ask c cv w5 hcv).mono ?_
      clear hcv
      rintro e w6 ⟨a, rfl, ha, hb6⟩
      obtain ⟨aq, ac, rfl, hac1, hac2, -, -⟩ := (Nums.of_own ha).slice
      have hal : (atZ ask l).length ≤ 9223372036854775807 := by omega
      have A6 := Lib.hid ha
      have Y6 := Lib.hid (Y5.out.keep hb6.block)
      have B6 := Lib.hid (B5.out.trans (hb6.mono B5.out.size))
      have h56 := B5.out.size
      clear ha hb6 hac1 hac2
      generalize atZ ask l = xs0 at *
      go_wp2_with fail
      go_loopg [57] xs0.length (fun q' i wr => ∃ (k : Nat) (ys : List Int), q' = xs0.length - k ∧ k ≤ xs0.length ∧ i = .int .i64 k ∧ wr.ownsRow w5.heap.size 21 1 (.slice aq xs0.length ac) xs0.length (ys.map (Value.int .i32)) ∧ ys.length = xs0.length ∧ Loose wr w4.heap.size w5.heap.size (.slice lq l.length lc) l.length ∧ Below w4.heap.size w4 wr)
      case atStart => exact ⟨0, xs0, rfl, by omega, rfl, A6.out, rfl, Y6.out, B6.out⟩
      case round =>
        obtain ⟨k, ys, rfl, hk, rfl, hown, hyl, hY, hb⟩ := hrel
        have X := Lib.hid (And.intro hown (And.intro hY hb))
        by_cases hlt : k < xs0.length
        · obtain ⟨g, gc, he, hg1, hg2⟩ := hown.form (by omega)
          obtain ⟨rfl, -, rfl⟩ := Value.slice.inj he
          obtain ⟨y0, c0⟩ : ∃ y : Int, wr.cell? ⟨g, k, none⟩ = some (.int .i32 y) := by
            have c0 := hown.cellAt k (by omega)
            rw [List.getElem?_map, List.getElem?_eq_getElem (by omega)] at c0
            exact ⟨_, c0⟩
          have f0 := hown.frozenAt k
          have hyl' := Lib.hid hyl
          clear hown hY hb he hyl
          go_wp2_with fail
          go_roundg (xs0.length - (k + 1))
          case measure => omega
          case rel => exact ⟨k + 1, _, rfl, by omega, by go_num, own_store X.out.1 hlt _, by simpa using hyl'.out, X.out.2.1.keep (fun j hj => Below.heap_setCell _ _ _ _ (by simp; omega)), X.out.2.2.setCell (by simp; omega) _⟩
        · obtain rfl : xs0.length = k := by omega
          clear hown hY hb hyl
          go_wp2_with fail
          go_loopg [70] l.length (fun q' i wr => ∃ (k : Nat), q' = l.length - k ∧ k ≤ l.length ∧ i = .int .i64 k ∧ Loose wr w4.heap.size w5.heap.size (.slice lq l.length lc) l.length ∧ Below w4.heap.size w4 wr)
          case atStart => exact ⟨0, rfl, by omega, rfl, X.out.2⟩
          case round =>
            clear X
            obtain ⟨k, rfl, hk, rfl, hY, hb⟩ := hrel
            by_cases hlt : k < l.length
            · have hY' := hY
              obtain ⟨rs, l', hrl, hro, hrh, hrv, hrr⟩ := hY'
              obtain ⟨g, gc, he, hg1, hg2⟩ := hro.form (by omega)
              obtain ⟨rfl, -, rfl⟩ := Value.slice.inj he
              have hkr : k < rs.length := by omega
              have hkl : k < l'.length := by rw [← hrh.len]; exact hkr
              have hfl := flat2_get rs k hkr
              have c0 := hro.cellAt (k * 2) (by omega)
              have c1 := hro.cellAt (k * 2 + 1) (by omega)
              rw [hfl.1] at c0
              rw [hfl.2] at c1
              obtain ⟨st, c0⟩ : ∃ st, wr.cell? ⟨g, k * 2, none⟩ = some (.int .u64 st) := ⟨_, c0⟩
              have f0 := hro.frozenAt (k * 2)
              have hrk := (hrh.own k hkr hkl).2
              obtain ⟨uq, uc, hu, hua, hub, -, -⟩ := (Nums.of_own hrk).slice
              rw [hu] at c1 hrk
              have hul : l'[k].2.length ≤ 9223372036854775807 := by omega
              have hgN := hrv g rfl
              have huN : ∀ b, (Value.slice uq l'[k].2.length uc).ownBlock = some b → b < w5.heap.size := fun b hb => hrr _ (List.getElem_mem hkr) b (by rw [hu]; exact hb)
              have B := Lib.hid hb
              have hsz := hb.size
              have W1 := Lib.hid (fun x => (show (wr.setCell ⟨g, k * 2, none⟩ (.int .u64 x)).ownsRow w4.heap.size 41 2 (.slice (some ⟨g, 0, none⟩) l.length lc) l.length (flat2 (rs.set k (x, rs[k].2))) from by
                rw [← flat2_set0 rs k hkr]; exact own_setCell hro rfl (show k * 2 < l.length * 2 by omega) _))
              have W2 := Lib.hid (fun x => (show Held2 (wr.setCell ⟨g, k * 2, none⟩ (.int .u64 x)) w4.heap.size 21 (rs.set k (x, rs[k].2)) (l'.set k (x, l'[k].2)) from by
                refine Held2.restamp ⟨hrh.len, fun i a b => ⟨(hrh.own i a b).1, ownsRow_setCell_other (hrh.own i a b).2 (fun e => ?_) _⟩, hrh.apart⟩ hkr hkl x
                rcases own_apart (hrh.own i a b).2 hro (by decide) with h | h
                · rw [h] at e; cases e
                · exact h e))
              have RN := Lib.hid hrr
              have HU := Lib.hid hu
              have HR := Lib.hid (And.intro hrl (And.intro hkr hkl))
              clear hY hb hro hrh hrv hrr he hfl hrk hu hrl hua hub
              have hgB : w4.heap.size ≤ g := hg1
              go_wp2_with fail
              go_loopg [17, 87] l'[k].2.length (fun q' _ i wi => ∃ (j : Nat) (x : Int) (li : List (Int × List Int)) (hkl : k < li.length), q' = l'[k].2.length - j ∧ j ≤ l'[k].2.length ∧ i = .int .i64 j ∧ wi.ownsRow w4.heap.size 41 2 (.slice (some ⟨g, 0, none⟩) l.length lc) l.length (flat2 (rs.set k (x, rs[k].2))) ∧ Held2 wi w4.heap.size 21 (rs.set k (x, rs[k].2)) li ∧ li[k].2.length = l'[k].2.length ∧ Below w4.heap.size w4 wi)
              case atStart => exact ⟨0, _, _, by simpa using hkl, rfl, by omega, rfl, W1.out _, W2.out _, by simp, B.out.setCell hgB _⟩
              case round =>
                clear W1 W2 c0 c1 f0 B
                obtain ⟨j, x, li, hkl2, rfl, hj, rfl, ho, hh, hlen, hb⟩ := hrel
                have X2 := Lib.hid (And.intro ho (And.intro hh (And.intro hb hlen)))
                by_cases hlt2 : j < l'[k].2.length
                · obtain ⟨gu, y, rfl, c1, c2, f2, hBu, hst⟩ := inner_facts ho hh (by simpa using HR.out.1) (by simpa using hkr) hkl2 (by simpa using HU.out) hlen hlt2
                  have ST := Lib.hid hst
                  clear ho hh hlen hb hst
                  go_wp2_with fail
                  go_roundg (l'[k].2.length - (j + 1))
                  case measure => omega
                  case rel => exact ⟨j + 1, x, _, by simpa using hkl2, rfl, by omega, by go_num, (ST.out _).1, (ST.out _).2, by simpa using X2.out.2.2.2, X2.out.2.2.1.setCell hBu _⟩
                · obtain rfl : j = l'[k].2.length := by omega
                  clear ho hh hlen hb
                  go_wp2_with fail
                  go_roundg (l.length - (k + 1))
                  case measure => omega
                  case rel =>
                    refine ⟨k + 1, rfl, by omega, by go_num, ⟨_, _, by simpa using HR.out.1, X2.out.1, X2.out.2.1, fun b hb => ?_, fun r hr b hb => ?_⟩, X2.out.2.2.1⟩
                    · simp only [Value.ownBlock, Option.some.injEq] at hb; omega
                    · rcases List.mem_or_eq_of_mem_set hr with hr | rfl
                      · exact RN.out r hr b hb
                      · exact RN.out _ (List.getElem_mem hkr) b hb
            · obtain rfl : l.length = k := by omega
              have L7 := Lib.hid (L4.out.step hb)
              have W7 := Lib.hid (W4.out.below hb)
              clear hY hb
              go_wp2_with fail
              obtain ⟨cv, hcv⟩ := L7.out.is
              refine (list l (by omega) G.out.lengths c cv _ hcv).mono ?_
              clear hcv
              rintro e w8 ⟨vl2, rs2, rfl, ho, hh, hb8⟩
              have R8 := Lib.hid (Recs.of_own ho hh)
              have L8 := Lib.hid (L7.out.step hb8)
              have W8 := Lib.hid (W7.out.below hb8)
              clear ho hh hb8
              go_wp2_with fail
              refine (back l vl2 _ w8 R8.out.toF (by omega)).mono ?_
              rintro e w9 ⟨ag, rfl, hag, hb9⟩
              have hgs := hag.recs
              obtain ⟨gq, gc, rfl, -, -, -, -⟩ := id hgs
              have A9 := Lib.hid hgs
              have L9 := Lib.hid (L8.out.step hb9)
              have W9 := Lib.hid (W8.out.below hb9)
              clear hag hgs hb9
              go_wp2_with fail
              go_loopg [113] l.length (fun q i wr => ∃ k : Nat, q = l.length - k ∧ k ≤ l.length ∧ i = .int .i64 k ∧ Drawn w9 wr)
              case atStart => exact ⟨0, rfl, by omega, rfl, Drawn.refl _⟩
              case round =>
                obtain ⟨k, rfl, hk, rfl, hb⟩ := hrel
                have A := Lib.hid hb
                clear hb
                by_cases hlt : k < l.length
                · obtain ⟨b, off, u1, rfl, c0, c1, hu1⟩ := (A9.out.below A.out.below).elem hlt
                  obtain ⟨b', off', u2, rfl, c0', c1', hu2⟩ := (W9.out.below A.out.below).elem hlt
                  have U1 := Lib.hid hu1
                  have U2 := Lib.hid hu2
                  clear hu1 hu2
                  have k0 : (0 : Int) ≤ (k : Int) := by omega
                  have k1 : (k : Int) < (l.length : Int) := by omega
                  have SS := Lib.hid (fun n => sameVecOne l[k].2 u1 u2 (wr.drewN n) (U1.out.below (Drawn.below ⟨n, rfl⟩)) (U2.out.below (Drawn.below ⟨n, rfl⟩)))
                  have hne : (l[k].1 != l[k].1) = false := by simp
                  go_wp2_with fail
                  go_quiet ((go_at_call 16; exact Calls.quiet_of (SS.out _)))
                  go_wp2_with fail
                  go_roundg (l.length - (k + 1))
                  case measure => omega
                  case rel => exact ⟨k + 1, rfl, by omega, by go_num, A.out.drewN _⟩
                · go_wp2_with fail
                  go_ret
                  exact ⟨rfl, L9.out.below.trans (A.out.below.mono L9.out.below.size)⟩

end Go.Proofs.Ytpoophimfjfgkaa
