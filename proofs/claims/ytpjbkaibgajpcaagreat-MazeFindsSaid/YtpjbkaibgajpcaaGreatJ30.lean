/- graph's document: Bind, Link. -/
import Derived.Test.YtpjbkaibgajpcaaGreatJ15
namespace Go.Proofs.YtpjbkaibgajpcaaGreat
open Go.RowKit
set_option maxRecDepth 20000

theorem rowE : RowTy Tryz.prog 94 144 3 24 (.agg #[.int .u64 0, .int .u64 0, .bool false]) := ⟨Tryz.underlying94, by kernel_rfl, rfl, by decide⟩

def pairD (N : List Int) (a b : Int) : Int := if a = b then 1 else if a ∈ N ∧ b ∈ N then 0 else 6
def atE (E : Eg) (a b : Int) : Option Nat := E.findIdx? (isE (min a b) (max a b))

def bindD (N : List Int) (E : Eg) (a b : Int) : Int × Eg :=
  if pairD N a b ≠ 0 then (pairD N a b, E) else
  match atE E a b with
  | none => (0, E ++ [(min a b, max a b, true)])
  | some i => if (E[i]?.map (·.2.2)) = some true then (7, E) else (0, E.set i (min a b, max a b, true))

def linkD (N : List Int) (E : Eg) (a b : Int) : Int × Eg :=
  if pairD N a b ≠ 0 then (pairD N a b, E) else
  match atE E a b with
  | none => (0, E ++ [(min a b, max a b, false)])
  | some _ => (7, E)

def cutD (N : List Int) (E : Eg) (a b : Int) : Int × Eg :=
  if pairD N a b ≠ 0 then (pairD N a b, E) else
  match atE E a b with
  | none => (6, E)
  | some i => if (E[i]?.map (·.2.2)) = some true then (10, E) else (0, E.eraseIdx i)

theorem findZ_pair (N : List Int) (E : Eg) (a b : Int) : (pairD N a b ≠ 0 ∧ findZ N E a b = (-1, pairD N a b)) ∨ (pairD N a b = 0 ∧ atE E a b = none ∧ findZ N E a b = (-1, 0)) ∨ (pairD N a b = 0 ∧ ∃ i, i < E.length ∧ atE E a b = some i ∧ findZ N E a b = ((i : Int), 0)) := by
  unfold pairD findZ
  by_cases h : a = b
  · simp [h]
  · simp only [h, if_false]
    by_cases h2 : a ∈ N ∧ b ∈ N
    · rw [if_neg (show ¬ (¬ a ∈ N ∨ ¬ b ∈ N) by simp [h2.1, h2.2])]
      simp only [h2, and_self, if_true, ne_eq, not_true_eq_false, false_and, false_or, true_and]
      unfold atE
      cases hf : E.findIdx? (isE (min a b) (max a b)) with
      | none => exact .inl ⟨rfl, rfl⟩
      | some i => exact .inr ⟨i, (List.findIdx?_eq_some_iff_getElem.1 hf).1, rfl, rfl⟩
    · rw [if_pos (show ¬ a ∈ N ∨ ¬ b ∈ N by
        by_cases ha : a ∈ N
        · exact .inr fun hb => h2 ⟨ha, hb⟩
        · exact .inl ha)]
      simp [h2]

theorem at_edge {E : Eg} {a b : Int} {i : Nat} (h : atE E a b = some i) : ∃ hi : i < E.length, E[i].1 = min a b ∧ E[i].2.1 = max a b := by
  obtain ⟨hi, h1, -⟩ := List.findIdx?_eq_some_iff_getElem.1 h
  simp only [isE, Bool.and_eq_true, decide_eq_true_eq] at h1
  exact ⟨hi, h1⟩

def DocM (w : World) (B j : Nat) : Prop := B ≤ j ∧ (OfType w 96 j ∨ OfType w 144 j)

theorem DGr.setE {w w1 w2 : World} {B c : Nat} {N : List Int} {E E' : Eg} {vn ve v : Value} (h : DGr w B c N E vn ve) (hb : Below w.heap.size w w1) (hg : w1.grownBy w2 ve.ownBlock) (hv : w2.ownsRow B 144 3 v E'.length (flatE E')) :
    DGr (w2.setCell ⟨c, 1, none⟩ v) B c N E' vn v ∧ Mod (DocM w B) w (w2.setCell ⟨c, 1, none⟩ v) := by
  have h1 := h.below hb
  have hne : ve.ownBlock ≠ some c := fun e => absurd (OfType.ne (own_type h1.edges e) ⟨_, _, h1.cell⟩) (by decide)
  have ht : w2.heap[c]? = some (.cells #[vn, ve] 96 (0, 0)) := (hg.block c h1.lt (fun e => hne e.symm)).trans h1.cell
  have hn2 := h1.nodes.kept hg (own_apart h1.nodes h1.edges (by decide))
  have hs := grownBy_setCells c [v] 1 w2
  have m1 : Mod (DocM w B) w w2 := Mod.grown (Mod.of_below hb) hg (fun k e => by
    rcases Nat.lt_or_ge k w.heap.size with hk | hk
    · left
      refine ⟨(h.edges.lt k e).1, .inr ?_⟩
      exact own_type h.edges e
    · exact .inr hk)
  refine ⟨⟨by have := set_block ht 1 v; simpa using this, hn2.kept hs (.inr fun e => ?_), hv.kept hs (.inr fun e => ?_), h.low⟩, m1.setCell (.inl ⟨h.low, .inl ⟨_, _, h.cell⟩⟩) v⟩
  · exact absurd (OfType.ne (own_type hn2 e) ⟨_, _, ht⟩) (by decide)
  · exact absurd (OfType.ne (own_type hv e) ⟨_, _, ht⟩) (by decide)

theorem flatE_set (E : Eg) (i : Nat) (hi : i < E.length) : (flatE E).set (i * 3 + 2) (.bool true) = flatE (E.set i (E[i].1, E[i].2.1, true)) := by
  induction E generalizing i with
  | nil => simp at hi
  | cons e E ih =>
    cases i with
    | zero => simp [flatE]
    | succ i =>
      have e2 : (i + 1) * 3 + 2 = (i * 3 + 2) + 1 + 1 + 1 := by omega
      rw [e2]
      simp only [flatE, List.set_cons_succ, List.getElem_cons_succ]
      rw [ih i (by simpa using hi)]

theorem DGr.need {w w1 : World} {B c : Nat} {N : List Int} {E : Eg} {vn ve : Value} (h : DGr w B c N E vn ve) (hb : Below w.heap.size w w1) {g : Nat} (hg : ve.ownBlock = some g) {i : Nat} (hi : i < E.length) :
    DGr (w1.setCell ⟨g, i * 3 + 2, none⟩ (.bool true)) B c N (E.set i (E[i].1, E[i].2.1, true)) vn ve ∧ Mod (DocM w B) w (w1.setCell ⟨g, i * 3 + 2, none⟩ (.bool true)) := by
  have h1 := h.below hb
  have hs := grownBy_setCells g [.bool true] (i * 3 + 2) w1
  have hne : g ≠ c := fun e => absurd (OfType.ne (own_type h1.edges hg) ⟨_, _, e ▸ h1.cell⟩) (by decide)
  have he := own_setCell h1.edges hg (o := i * 3 + 2) (by omega) (.bool true)
  rw [flatE_set E i hi] at he
  refine ⟨⟨?_, h1.nodes.kept hs ?_, by simpa using he, h.low⟩, Mod.setCell (Mod.of_below hb) (p := ⟨g, i * 3 + 2, none⟩) (.inl ⟨(h.edges.lt g hg).1, .inr (own_type h.edges hg)⟩) _⟩
  · exact (hs.block c h1.lt (fun e => hne (by cases e; rfl))).trans h1.cell
  · rw [← hg]; exact own_apart h1.nodes h1.edges (by decide)

theorem DocM.refl (w : World) (B : Nat) : Mod (DocM w B) w w := Mod.refl _ _

set_option maxRecDepth 100000 in
set_option maxHeartbeats 4000000 in
theorem dBind (w : World) (B c : Nat) (N : List Int) (E : Eg) (vn ve : Value) (a b : Int) (h : DGr w B c N E vn ve) (hB : B ≤ w.heap.size) (hl : E.length ≤ 900000) :
    Calls Tryz.prog 65 #[.pointer (some ⟨c, 0, none⟩), .int .u64 a, .int .u64 b] w fun e w' =>
      e = .returned (.int .i64 (bindD N E a b).1) ∧ ∃ v, DGr w' B c N (bindD N E a b).2 vn v ∧ Mod (DocM w B) w w' := by
  have cF := dFindAll w B c N E vn ve a b h
  have H := Lib.hid h
  rcases findZ_pair N E a b with ⟨hp, hf⟩ | ⟨hp, ha, hf⟩ | ⟨hp, i, hi, ha, hf⟩
  · rw [hf] at cF
    have hz : bindD N E a b = (pairD N a b, E) := by unfold bindD; rw [if_pos hp]
    rw [hz]
    generalize pairD N a b = z at hp cF
    have b1 : (z != 0) = true := by simpa using hp
    clear h hz hf hp
    go_enter Tryz.func65, Tryz.ntmps65
    go_wp2_with (go_at_call 88; refine cF.mono ?_; rintro e w1 ⟨rfl, hb⟩; have HB := Lib.hid hb; clear hb)
    go_ret
    exact ⟨rfl, ve, H.out.below HB.out, Mod.of_below HB.out⟩
  · rw [hf] at cF
    have hz : bindD N E a b = (0, E ++ [(min a b, max a b, true)]) := by unfold bindD; rw [if_neg (by simp [hp]), ha]
    rw [hz]
    have hmin := min2 a b
    have hmax := max2 a b
    generalize min a b = lo at hmin ⊢
    generalize max a b = hi at hmax ⊢
    obtain ⟨pe, me, ce, rfl⟩ := own_form h.edges
    have hfe : flatE (E ++ [(lo, hi, true)]) = flatE E ++ [.int .u64 lo, .int .u64 hi, .bool true] := by rw [flatE_append]; rfl
    clear hz hf hp ha h
    go_enter Tryz.func65, Tryz.ntmps65
    go_wp2_with (first
      | (go_at_call 88; refine cF.mono ?_; rintro e w1 ⟨rfl, hb⟩
         obtain ⟨g5, c5, w5, hrun5, hr5, hg5, -, -⟩ := run_push_at rowE ((H.out.below hb).edges.alloc (.cells #[.int .u64 lo, .int .u64 hi, .bool true] 144)) (by rw [World.size_alloc]; have := hb.size; omega) (heap_alloc_new w1 (.cells #[.int .u64 lo, .int .u64 hi, .bool true] 144)) rfl (by simp [Value.oneCell']) (by simp only [maxLen]; omega) (by omega)
         have c1 := (H.out.below hb).get1
         have hb2 := hb.alloc hb.size (.cells #[.int .u64 lo, .int .u64 hi, .bool true] 144)
         have R := Lib.hid (H.out.setE (E' := E ++ [(lo, hi, true)]) hb2 hg5 (by rw [hfe, List.length_append]; exact hr5))
         have y1 : w5.cell? ⟨c, 1, none⟩ = some (.slice pe me ce) ∧ w5.frozen? ⟨c, 1, none⟩ = false := by
           have h2 := H.out.below hb2
           have hne : (Value.slice pe me ce).ownBlock ≠ some c := fun e => absurd (OfType.ne (own_type h2.edges e) ⟨_, _, h2.cell⟩) (by decide)
           have ht := (hg5.block c h2.lt (fun e => hne e.symm)).trans h2.cell
           exact ⟨by rw [cells_get ht 1]; rfl, thawed ht 1⟩
         obtain ⟨y1, y2⟩ := y1
         clear hb hb2 hr5 hg5)
      | refine wpList_append_eq hrun5 rfl _ _ rfl rfl rfl ?_)
    go_ret
    exact ⟨rfl, _, R.out⟩
  · rw [hf] at cF
    obtain ⟨g, cap, rfl, -, hgl⟩ := h.edges.form (by omega)
    have hcell : ∀ w1, Below w.heap.size w w1 → w1.cell? ⟨g, i * 3 + 2, none⟩ = some (.bool E[i].2.2) ∧ w1.cell? ⟨c, 1, none⟩ = some (.slice (some ⟨g, 0, none⟩) E.length cap) ∧ w1.frozen? ⟨g, i * 3 + 2, none⟩ = false := fun w1 hb => by
      have h1 := H.out.below hb
      refine ⟨by rw [World.ownsRow.cellAt h1.edges _ (by omega)]; exact (flatE_get E i hi).2.2, h1.get1, ?_⟩
      rcases h1.edges.2 with ⟨he, -⟩ | ⟨g', c', cur, he, -, hg', -⟩
      · cases he
      · have := (Value.slice.inj he).1
        simp only [Option.some.injEq, Addr.mk.injEq] at this
        rw [this.1]
        exact thawed hg' _
    have i0 : (0 : Int) ≤ (i : Int) := by omega
    have i1 : (i : Int) < (E.length : Int) := by omega
    have hlE : E.length ≤ 9223372036854775807 := by omega
    obtain ⟨hi', hmn, hmx⟩ := at_edge ha
    by_cases hn : E[i].2.2 = true
    · have hz : bindD N E a b = (7, E) := by unfold bindD; rw [if_neg (by simp [hp]), ha]; simp [List.getElem?_eq_getElem hi, hn]
      rw [hz]
      simp only [hn] at hcell
      have HC := Lib.hid hcell
      clear hcell hz hf hp ha h hmn hmx hn
      go_enter Tryz.func65, Tryz.ntmps65
      go_wp2_with (first
        | (go_at_call 88; refine cF.mono ?_; rintro e w1 ⟨rfl, hb⟩; obtain ⟨y0, y1, y2⟩ := HC.out w1 hb; have HB := Lib.hid hb; clear hb))
      go_ret
      exact ⟨rfl, _, H.out.below HB.out, Mod.of_below HB.out⟩
    · have hn' : E[i].2.2 = false := by simpa using hn
      have hz : bindD N E a b = (0, E.set i (E[i].1, E[i].2.1, true)) := by unfold bindD; rw [if_neg (by simp [hp]), ha]; simp [List.getElem?_eq_getElem hi, hn', hmn, hmx]
      rw [hz]
      simp only [hn'] at hcell
      have HC := Lib.hid hcell
      have HI := Lib.hid hi
      clear hcell hz hf hp ha h hmn hmx hn hn'
      go_enter Tryz.func65, Tryz.ntmps65
      go_wp2_with (first
        | (go_at_call 88; refine cF.mono ?_; rintro e w1 ⟨rfl, hb⟩; obtain ⟨y0, y1, y2⟩ := HC.out w1 hb; have R := Lib.hid (H.out.need hb rfl HI.out); clear hb))
      go_ret
      exact ⟨rfl, _, R.out⟩

set_option maxRecDepth 100000 in
set_option maxHeartbeats 4000000 in
theorem dLink (w : World) (B c : Nat) (N : List Int) (E : Eg) (vn ve : Value) (a b : Int) (h : DGr w B c N E vn ve) (hB : B ≤ w.heap.size) (hl : E.length ≤ 900000) :
    Calls Tryz.prog 66 #[.pointer (some ⟨c, 0, none⟩), .int .u64 a, .int .u64 b] w fun e w' =>
      e = .returned (.int .i64 (linkD N E a b).1) ∧ ∃ v, DGr w' B c N (linkD N E a b).2 vn v ∧ Mod (DocM w B) w w' := by
  have cF := dFindAll w B c N E vn ve a b h
  have H := Lib.hid h
  rcases findZ_pair N E a b with ⟨hp, hf⟩ | ⟨hp, ha, hf⟩ | ⟨hp, i, hi, ha, hf⟩
  · rw [hf] at cF
    have hz : linkD N E a b = (pairD N a b, E) := by unfold linkD; rw [if_pos hp]
    rw [hz]
    generalize pairD N a b = z at hp cF
    have b1 : (z != 0) = true := by simpa using hp
    clear h hz hf hp
    go_enter Tryz.func66, Tryz.ntmps66
    go_wp2_with (go_at_call 88; refine cF.mono ?_; rintro e w1 ⟨rfl, hb⟩; have HB := Lib.hid hb; clear hb)
    go_ret
    exact ⟨rfl, ve, H.out.below HB.out, Mod.of_below HB.out⟩
  · rw [hf] at cF
    have hz : linkD N E a b = (0, E ++ [(min a b, max a b, false)]) := by unfold linkD; rw [if_neg (by simp [hp]), ha]
    rw [hz]
    have hmin := min2 a b
    have hmax := max2 a b
    generalize min a b = lo at hmin ⊢
    generalize max a b = hi at hmax ⊢
    obtain ⟨pe, me, ce, rfl⟩ := own_form h.edges
    have hfe : flatE (E ++ [(lo, hi, false)]) = flatE E ++ [.int .u64 lo, .int .u64 hi, .bool false] := by rw [flatE_append]; rfl
    clear hz hf hp ha h
    go_enter Tryz.func66, Tryz.ntmps66
    go_wp2_with (first
      | (go_at_call 88; refine cF.mono ?_; rintro e w1 ⟨rfl, hb⟩
         obtain ⟨g5, c5, w5, hrun5, hr5, hg5, -, -⟩ := run_push_at rowE ((H.out.below hb).edges.alloc (.cells #[.int .u64 lo, .int .u64 hi, .bool false] 144)) (by rw [World.size_alloc]; have := hb.size; omega) (heap_alloc_new w1 (.cells #[.int .u64 lo, .int .u64 hi, .bool false] 144)) rfl (by simp [Value.oneCell']) (by simp only [maxLen]; omega) (by omega)
         have c1 := (H.out.below hb).get1
         have hb2 := hb.alloc hb.size (.cells #[.int .u64 lo, .int .u64 hi, .bool false] 144)
         have R := Lib.hid (H.out.setE (E' := E ++ [(lo, hi, false)]) hb2 hg5 (by rw [hfe, List.length_append]; exact hr5))
         have y1 : w5.cell? ⟨c, 1, none⟩ = some (.slice pe me ce) ∧ w5.frozen? ⟨c, 1, none⟩ = false := by
           have h2 := H.out.below hb2
           have hne : (Value.slice pe me ce).ownBlock ≠ some c := fun e => absurd (OfType.ne (own_type h2.edges e) ⟨_, _, h2.cell⟩) (by decide)
           have ht := (hg5.block c h2.lt (fun e => hne e.symm)).trans h2.cell
           exact ⟨by rw [cells_get ht 1]; rfl, thawed ht 1⟩
         obtain ⟨y1, y2⟩ := y1
         clear hb hb2 hr5 hg5)
      | refine wpList_append_eq hrun5 rfl _ _ rfl rfl rfl ?_)
    go_ret
    exact ⟨rfl, _, R.out⟩
  · rw [hf] at cF
    have hz : linkD N E a b = (7, E) := by unfold linkD; rw [if_neg (by simp [hp]), ha]
    rw [hz]
    have i0 : (0 : Int) ≤ (i : Int) := by omega
    clear h hz hf hp ha
    go_enter Tryz.func66, Tryz.ntmps66
    go_wp2_with (go_at_call 88; refine cF.mono ?_; rintro e w1 ⟨rfl, hb⟩; have HB := Lib.hid hb; clear hb)
    go_ret
    exact ⟨rfl, ve, H.out.below HB.out, Mod.of_below HB.out⟩

end Go.Proofs.YtpjbkaibgajpcaaGreat
