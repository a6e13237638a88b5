/-
  graph's document: Bind, Link.
  A region that draws its order and ends with a store: what is held through the region need not hold behind the last operation.
-/
import Derived.Test.YtdbeekdnehojnaaJ27
import Derived.Test.YtdbeekdnehojnaaJ05
namespace Go.Proofs.Ytdbeekdnehojnaa
open Go.RowKit

theorem rowE : RowTy Try.prog 28 50 3 24 (.agg #[.int .u64 0, .int .u64 0, .bool false]) := ⟨Try.underlying28, by kernel_rfl, rfl, by decide⟩

def pairD (N : List Int) (a b : Int) : Int := if a = b then 1 else if a ∈ N ∧ b ∈ N then 0 else 6
def atE (E : Eg) (a b : Int) : Option Nat := E.findIdx? (isE (min a b) (max a b))

def bindD (N : List Int) (E : Eg) (a b : Int) : Int × Eg :=
  if pairD N a b ≠ 0 then (pairD N a b, E) else
  match atE E a b with
  | none => (0, E ++ [(min a b, max a b, true)])
  | some i => if (E[i]?.map (·.2.2)) = some true then (7, E) else (0, E.set i (min a b, max a b, true))

def linkD (N : List Int) (E : Eg) (a b : Int) : Int × Eg :=
  if pairD N a b ≠ 0 then (pairD N a b, E) else
  match atE E a b with
  | none => (0, E ++ [(min a b, max a b, false)])
  | some _ => (7, E)

def cutD (N : List Int) (E : Eg) (a b : Int) : Int × Eg :=
  if pairD N a b ≠ 0 then (pairD N a b, E) else
  match atE E a b with
  | none => (6, E)
  | some i => if (E[i]?.map (·.2.2)) = some true then (10, E) else (0, E.eraseIdx i)

/-- find's answer, told by the pair's error and the place -/
theorem findZ_pair (N : List Int) (E : Eg) (a b : Int) : (pairD N a b ≠ 0 ∧ findZ N E a b = (-1, pairD N a b)) ∨ (pairD N a b = 0 ∧ atE E a b = none ∧ findZ N E a b = (-1, 0)) ∨ (pairD N a b = 0 ∧ ∃ i, i < E.length ∧ atE E a b = some i ∧ findZ N E a b = ((i : Int), 0)) := by
  unfold pairD findZ
  by_cases h : a = b
  · simp [h]
  · simp only [h, if_false]
    by_cases h2 : a ∈ N ∧ b ∈ N
    · rw [if_neg (show ¬ (¬ a ∈ N ∨ ¬ b ∈ N) by simp [h2.1, h2.2])]
      simp only [h2, and_self, if_true, ne_eq, not_true_eq_false, false_and, false_or, true_and]
      unfold atE
      cases hf : E.findIdx? (isE (min a b) (max a b)) with
      | none => exact .inl ⟨rfl, rfl⟩
      | some i => exact .inr ⟨i, (List.findIdx?_eq_some_iff_getElem.1 hf).1, rfl, rfl⟩
    · rw [if_pos (show ¬ a ∈ N ∨ ¬ b ∈ N by
        by_cases ha : a ∈ N
        · exact .inr fun hb => h2 ⟨ha, hb⟩
        · exact .inl ha)]
      simp [h2]

theorem at_edge {E : Eg} {a b : Int} {i : Nat} (h : atE E a b = some i) : ∃ hi : i < E.length, E[i].1 = min a b ∧ E[i].2.1 = max a b := by
  obtain ⟨hi, h1, -⟩ := List.findIdx?_eq_some_iff_getElem.1 h
  simp only [isE, Bool.and_eq_true, decide_eq_true_eq] at h1
  exact ⟨hi, h1⟩

/-- what a change of the document's graph may turn -/
def DocM (w : World) (B j : Nat) : Prop := B ≤ j ∧ (OfType w 30 j ∨ OfType w 50 j)

/-- other edges are laid: a row that lies where the elder one lay, or anew -/
theorem DGr.setE {w w1 w2 : World} {B c : Nat} {N : List Int} {E E' : Eg} {vn ve v : Value} (h : DGr w B c N E vn ve) (hb : Below w.heap.size w w1) (hg : w1.grownBy w2 ve.ownBlock) (hv : w2.ownsRow B 50 3 v E'.length (flatE E')) :
    DGr (w2.setCell ⟨c, 1, none⟩ v) B c N E' vn v ∧ Mod (DocM w B) w (w2.setCell ⟨c, 1, none⟩ v) := by
  have h1 := h.below hb
  have hne : ve.ownBlock ≠ some c := fun e => absurd (OfType.ne (own_type h1.edges e) ⟨_, _, h1.cell⟩) (by decide)
  have ht : w2.heap[c]? = some (.cells #[vn, ve] 30 (0, 0)) := (hg.block c h1.lt (fun e => hne e.symm)).trans h1.cell
  have hn2 := h1.nodes.kept hg (own_apart h1.nodes h1.edges (by decide))
  have hs := grownBy_setCells c [v] 1 w2
  have m1 : Mod (DocM w B) w w2 := Mod.grown (Mod.of_below hb) hg (fun k e => by
    rcases Nat.lt_or_ge k w.heap.size with hk | hk
    · left
      refine ⟨(h.edges.lt k e).1, .inr ?_⟩
      exact own_type h.edges e
    · exact .inr hk)
  refine ⟨⟨by have := set_block ht 1 v; simpa using this, hn2.kept hs (.inr fun e => ?_), hv.kept hs (.inr fun e => ?_), h.low⟩, m1.setCell (.inl ⟨h.low, .inl ⟨_, _, h.cell⟩⟩) v⟩
  · exact absurd (OfType.ne (own_type hn2 e) ⟨_, _, ht⟩) (by decide)
  · exact absurd (OfType.ne (own_type hv e) ⟨_, _, ht⟩) (by decide)

theorem flatE_set (E : Eg) (i : Nat) (hi : i < E.length) : (flatE E).set (i * 3 + 2) (.bool true) = flatE (E.set i (E[i].1, E[i].2.1, true)) := by
  induction E generalizing i with
  | nil => simp at hi
  | cons e E ih =>
    cases i with
    | zero => simp [flatE]
    | succ i =>
      have e2 : (i + 1) * 3 + 2 = (i * 3 + 2) + 1 + 1 + 1 := by omega
      rw [e2]
      simp only [flatE, List.set_cons_succ, List.getElem_cons_succ]
      rw [ih i (by simpa using hi)]

/-- an edge that is there is needed from now on -/
theorem DGr.need {w w1 : World} {B c : Nat} {N : List Int} {E : Eg} {vn ve : Value} (h : DGr w B c N E vn ve) (hb : Below w.heap.size w w1) {g : Nat} (hg : ve.ownBlock = some g) {i : Nat} (hi : i < E.length) :
    DGr (w1.setCell ⟨g, i * 3 + 2, none⟩ (.bool true)) B c N (E.set i (E[i].1, E[i].2.1, true)) vn ve ∧ Mod (DocM w B) w (w1.setCell ⟨g, i * 3 + 2, none⟩ (.bool true)) := by
  have h1 := h.below hb
  have hs := grownBy_setCells g [.bool true] (i * 3 + 2) w1
  have hne : g ≠ c := fun e => absurd (OfType.ne (own_type h1.edges hg) ⟨_, _, e ▸ h1.cell⟩) (by decide)
  have he := own_setCell h1.edges hg (o := i * 3 + 2) (by omega) (.bool true)
  rw [flatE_set E i hi] at he
  refine ⟨⟨?_, h1.nodes.kept hs ?_, by simpa using he, h.low⟩, Mod.setCell (Mod.of_below hb) (p := ⟨g, i * 3 + 2, none⟩) (.inl ⟨(h.edges.lt g hg).1, .inr (own_type h.edges hg)⟩) _⟩
  · exact (hs.block c h1.lt (fun e => hne (by cases e; rfl))).trans h1.cell
  · rw [← hg]; exact own_apart h1.nodes h1.edges (by decide)

theorem DocM.refl (w : World) (B : Nat) : Mod (DocM w B) w w := Mod.refl _ _

set_option maxRecDepth 100000 in
set_option maxHeartbeats 4000000 in
theorem dBind (w : World) (B c : Nat) (N : List Int) (E : Eg) (vn ve : Value) (a b : Int) (h : DGr w B c N E vn ve) (hB : B ≤ w.heap.size) (hl : E.length ≤ 900000) :
    Calls Try.prog 28 #[.pointer (some ⟨c, 0, none⟩), .int .u64 a, .int .u64 b] w fun e w' =>
      e = .returned (.int .i64 (bindD N E a b).1) ∧ ∃ v, DGr w' B c N (bindD N E a b).2 vn v ∧ Mod (DocM w B) w w' := by
  have cF := dFindAll w B c N E vn ve a b h
  have H := Lib.hid h
  rcases findZ_pair N E a b with ⟨hp, hf⟩ | ⟨hp, ha, hf⟩ | ⟨hp, i, hi, ha, hf⟩
  · rw [hf] at cF
    have hz : bindD N E a b = (pairD N a b, E) := by unfold bindD; rw [if_pos hp]
    rw [hz]
    generalize pairD N a b = z at hp cF
    have b1 : (z != 0) = true := by simpa using hp
    clear h hz hf hp
    go_enter Try.func28, Try.ntmps28
    go_wp2_with (go_at_call 40; refine cF.mono ?_; rintro e w1 ⟨rfl, hb⟩; have HB := Lib.hid hb; clear hb)
    go_ret
    exact ⟨rfl, ve, H.out.below HB.out, Mod.of_below HB.out⟩
  · rw [hf] at cF
    have hz : bindD N E a b = (0, E ++ [(min a b, max a b, true)]) := by unfold bindD; rw [if_neg (by simp [hp]), ha]
    rw [hz]
    have hmin := min2 a b
    have hmax := max2 a b
    generalize min a b = lo at hmin ⊢
    generalize max a b = hi at hmax ⊢
    obtain ⟨pe, me, ce, rfl⟩ := own_form h.edges
    have hfe : flatE (E ++ [(lo, hi, true)]) = flatE E ++ [.int .u64 lo, .int .u64 hi, .bool true] := by rw [flatE_append]; rfl
    clear hz hf hp ha h
    go_enter Try.func28, Try.ntmps28
    go_wp2_with (first
      | (go_at_call 40; refine cF.mono ?_; rintro e w1 ⟨rfl, hb⟩
         obtain ⟨g5, c5, w5, hrun5, hr5, hg5, -, -⟩ := run_push_at rowE ((H.out.below hb).edges.alloc (.cells #[.int .u64 lo, .int .u64 hi, .bool true] 50)) (by rw [World.size_alloc]; have := hb.size; omega) (heap_alloc_new w1 (.cells #[.int .u64 lo, .int .u64 hi, .bool true] 50)) rfl (by simp [Value.oneCell']) (by simp only [maxLen]; omega) (by omega)
         have c1 := (H.out.below hb).get1
         have hb2 := hb.alloc hb.size (.cells #[.int .u64 lo, .int .u64 hi, .bool true] 50)
         have R := Lib.hid (H.out.setE (E' := E ++ [(lo, hi, true)]) hb2 hg5 (by rw [hfe, List.length_append]; exact hr5))
         have y1 : w5.cell? ⟨c, 1, none⟩ = some (.slice pe me ce) ∧ w5.frozen? ⟨c, 1, none⟩ = false := by
           have h2 := H.out.below hb2
           have hne : (Value.slice pe me ce).ownBlock ≠ some c := fun e => absurd (OfType.ne (own_type h2.edges e) ⟨_, _, h2.cell⟩) (by decide)
           have ht := (hg5.block c h2.lt (fun e => hne e.symm)).trans h2.cell
           exact ⟨by rw [cells_get ht 1]; rfl, thawed ht 1⟩
         obtain ⟨y1, y2⟩ := y1
         clear hb hb2 hr5 hg5)
      | refine wpList_append_eq hrun5 rfl _ _ rfl rfl rfl ?_)
    go_ret
    exact ⟨rfl, _, R.out⟩
  · rw [hf] at cF
    obtain ⟨g, cap, rfl, -, hgl⟩ := h.edges.form (by omega)
    have hcell : ∀ w1, Below w.heap.size w w1 → w1.cell? ⟨g, i * 3 + 2, none⟩ = some (.bool E[i].2.2) ∧ w1.cell? ⟨c, 1, none⟩ = some (.slice (some ⟨g, 0, none⟩) E.length cap) ∧ w1.frozen? ⟨g, i * 3 + 2, none⟩ = false := fun w1 hb => by
      have h1 := H.out.below hb
      refine ⟨by rw [World.ownsRow.cellAt h1.edges _ (by omega)]; exact (flatE_get E i hi).2.2, h1.get1, ?_⟩
      rcases h1.edges.2 with ⟨he, -⟩ | ⟨g', c', cur, he, -, hg', -⟩
      · cases he
      · have := (Value.slice.inj he).1
        simp only [Option.some.injEq, Addr.mk.injEq] at this
        rw [this.1]
        exact thawed hg' _
    have i0 : (0 : Int) ≤ (i : Int) := by omega
    have i1 : (i : Int) < (E.length : Int) := by omega
    have hlE : E.length ≤ 9223372036854775807 := by omega
    obtain ⟨hi', hmn, hmx⟩ := at_edge ha
    by_cases hn : E[i].2.2 = true
    · have hz : bindD N E a b = (7, E) := by unfold bindD; rw [if_neg (by simp [hp]), ha]; simp [List.getElem?_eq_getElem hi, hn]
      rw [hz]
      simp only [hn] at hcell
      have HC := Lib.hid hcell
      clear hcell hz hf hp ha h hmn hmx hn
      go_enter Try.func28, Try.ntmps28
      go_wp2_with (first
        | (go_at_call 40; refine cF.mono ?_; rintro e w1 ⟨rfl, hb⟩; obtain ⟨y0, y1, y2⟩ := HC.out w1 hb; have HB := Lib.hid hb; clear hb))
      go_ret
      exact ⟨rfl, _, H.out.below HB.out, Mod.of_below HB.out⟩
    · have hn' : E[i].2.2 = false := by simpa using hn
      have hz : bindD N E a b = (0, E.set i (E[i].1, E[i].2.1, true)) := by unfold bindD; rw [if_neg (by simp [hp]), ha]; simp [List.getElem?_eq_getElem hi, hn', hmn, hmx]
      rw [hz]
      simp only [hn'] at hcell
      have HC := Lib.hid hcell
      have HI := Lib.hid hi
      clear hcell hz hf hp ha h hmn hmx hn hn'
      go_enter Try.func28, Try.ntmps28
      go_wp2_with (first
        | (go_at_call 40; refine cF.mono ?_; rintro e w1 ⟨rfl, hb⟩; obtain ⟨y0, y1, y2⟩ := HC.out w1 hb; have R := Lib.hid (H.out.need hb rfl HI.out); clear hb))
      go_ret
      exact ⟨rfl, _, R.out⟩

theorem dBind_nil (w : World) (a b : Int) :
    Calls Try.prog 28 #[.pointer none, .int .u64 a, .int .u64 b] w fun e w' => e = .returned (.int .i64 6) ∧ w' = w := by
  have cF := dFind_nil w a b
  go_enter Try.func28, Try.ntmps28
  go_wp2_with (go_at_call 40; refine cF.mono ?_; rintro e w1 ⟨rfl, rfl⟩)
  go_ret
  exact ⟨rfl, rfl⟩

theorem dLink_nil (w : World) (a b : Int) :
    Calls Try.prog 29 #[.pointer none, .int .u64 a, .int .u64 b] w fun e w' => e = .returned (.int .i64 6) ∧ w' = w := by
  have cF := dFind_nil w a b
  go_enter Try.func29, Try.ntmps29
  go_wp2_with (go_at_call 40; refine cF.mono ?_; rintro e w1 ⟨rfl, rfl⟩)
  go_ret
  exact ⟨rfl, rfl⟩

theorem dCut_nil (w : World) (a b : Int) :
    Calls Try.prog 30 #[.pointer none, .int .u64 a, .int .u64 b] w fun e w' => e = .returned (.int .i64 6) ∧ w' = w := by
  have cF := dFind_nil w a b
  go_enter Try.func30, Try.ntmps30
  go_wp2_with (go_at_call 40; refine cF.mono ?_; rintro e w1 ⟨rfl, rfl⟩)
  go_ret
  exact ⟨rfl, rfl⟩

set_option maxRecDepth 100000 in
set_option maxHeartbeats 4000000 in
theorem dLink (w : World) (B c : Nat) (N : List Int) (E : Eg) (vn ve : Value) (a b : Int) (h : DGr w B c N E vn ve) (hB : B ≤ w.heap.size) (hl : E.length ≤ 900000) :
    Calls Try.prog 29 #[.pointer (some ⟨c, 0, none⟩), .int .u64 a, .int .u64 b] w fun e w' =>
      e = .returned (.int .i64 (linkD N E a b).1) ∧ ∃ v, DGr w' B c N (linkD N E a b).2 vn v ∧ Mod (DocM w B) w w' := by
  have cF := dFindAll w B c N E vn ve a b h
  have H := Lib.hid h
  rcases findZ_pair N E a b with ⟨hp, hf⟩ | ⟨hp, ha, hf⟩ | ⟨hp, i, hi, ha, hf⟩
  · rw [hf] at cF
    have hz : linkD N E a b = (pairD N a b, E) := by unfold linkD; rw [if_pos hp]
    rw [hz]
    generalize pairD N a b = z at hp cF
    have b1 : (z != 0) = true := by simpa using hp
    clear h hz hf hp
    go_enter Try.func29, Try.ntmps29
    go_wp2_with (go_at_call 40; refine cF.mono ?_; rintro e w1 ⟨rfl, hb⟩; have HB := Lib.hid hb; clear hb)
    go_ret
    exact ⟨rfl, ve, H.out.below HB.out, Mod.of_below HB.out⟩
  · rw [hf] at cF
    have hz : linkD N E a b = (0, E ++ [(min a b, max a b, false)]) := by unfold linkD; rw [if_neg (by simp [hp]), ha]
    rw [hz]
    have hmin := min2 a b
    have hmax := max2 a b
    generalize min a b = lo at hmin ⊢
    generalize max a b = hi at hmax ⊢
    obtain ⟨pe, me, ce, rfl⟩ := own_form h.edges
    have hfe : flatE (E ++ [(lo, hi, false)]) = flatE E ++ [.int .u64 lo, .int .u64 hi, .bool false] := by rw [flatE_append]; rfl
    clear hz hf hp ha h
    go_enter Try.func29, Try.ntmps29
    go_wp2_with (first
      | (go_at_call 40; refine cF.mono ?_; rintro e w1 ⟨rfl, hb⟩
         obtain ⟨g5, c5, w5, hrun5, hr5, hg5, -, -⟩ := run_push_at rowE ((H.out.below hb).edges.alloc (.cells #[.int .u64 lo, .int .u64 hi, .bool false] 50)) (by rw [World.size_alloc]; have := hb.size; omega) (heap_alloc_new w1 (.cells #[.int .u64 lo, .int .u64 hi, .bool false] 50)) rfl (by simp [Value.oneCell']) (by simp only [maxLen]; omega) (by omega)
         have c1 := (H.out.below hb).get1
         have hb2 := hb.alloc hb.size (.cells #[.int .u64 lo, .int .u64 hi, .bool false] 50)
         have R := Lib.hid (H.out.setE (E' := E ++ [(lo, hi, false)]) hb2 hg5 (by rw [hfe, List.length_append]; exact hr5))
         have y1 : w5.cell? ⟨c, 1, none⟩ = some (.slice pe me ce) ∧ w5.frozen? ⟨c, 1, none⟩ = false := by
           have h2 := H.out.below hb2
           have hne : (Value.slice pe me ce).ownBlock ≠ some c := fun e => absurd (OfType.ne (own_type h2.edges e) ⟨_, _, h2.cell⟩) (by decide)
           have ht := (hg5.block c h2.lt (fun e => hne e.symm)).trans h2.cell
           exact ⟨by rw [cells_get ht 1]; rfl, thawed ht 1⟩
         obtain ⟨y1, y2⟩ := y1
         clear hb hb2 hr5 hg5)
      | refine wpList_append_eq hrun5 rfl _ _ rfl rfl rfl ?_)
    go_ret
    exact ⟨rfl, _, R.out⟩
  · rw [hf] at cF
    have hz : linkD N E a b = (7, E) := by unfold linkD; rw [if_neg (by simp [hp]), ha]
    rw [hz]
    have i0 : (0 : Int) ≤ (i : Int) := by omega
    clear h hz hf hp ha
    go_enter Try.func29, Try.ntmps29
    go_wp2_with (go_at_call 40; refine cF.mono ?_; rintro e w1 ⟨rfl, hb⟩; have HB := Lib.hid hb; clear hb)
    go_ret
    exact ⟨rfl, ve, H.out.below HB.out, Mod.of_below HB.out⟩

end Go.Proofs.Ytdbeekdnehojnaa

namespace Go.Proofs.Ytdbeekdnehojnaa
open Go.RowKit

section
variable {P : Program} {ops : Array Oper} {Q : Exit → Act → World → Prop} {md : Region.Mode} {S : World → Prop} {n : Nat}

/-- in whatever order from here on; behind each but number n S holds -/
def anyBut (P : Program) (md : Region.Mode) (ops : Array Oper) (Q : Exit → Act → World → Prop) (S : World → Prop) (n : Nat) : Nat → Array Bool → Act → World → Prop
  | 0, listed, a, w => Region.ready md ops listed = [] ∧ Q .normal a w
  | k + 1, listed, a, w => (Region.ready md ops listed = [] → Q .normal a w) ∧ ∀ i ∈ Region.ready md ops listed, wpOp P ops Q i (fun a' w' => (i ≠ n → S w') ∧ anyBut P md ops Q S n k (listed.setIfInBounds i true) a' w') a w

theorem anyBut_any : ∀ (k : Nat) (listed : Array Bool) (a : Act) (w : World), anyBut P md ops Q S n k listed a w → wpAny P md ops Q k listed a w
  | 0, _, _, _, h => h
  | k + 1, _, _, _, h => ⟨h.1, fun i hi => wpOp_mono (fun _ _ h' => anyBut_any k _ _ _ h'.2) (h.2 i hi)⟩

/-- number n waits for number i -/
def waitsFor (md : Region.Mode) (ops : Array Oper) (n i : Nat) : Bool := match ops[n]? with | none => false | some o => o.after.toList.any fun e => Region.binds md e && e.on == i

theorem waits_not {i : Nat} {listed : Array Bool} (hw : waitsFor md ops n i = true) (hi : i ∈ Region.ready md ops listed) (hn : n ∈ Region.ready md ops listed) : False := by
  obtain ⟨-, o, ho, hall⟩ := mem_ready.1 hn
  simp only [waitsFor, ho, List.any_eq_true, Bool.and_eq_true, beq_iff_eq] at hw
  obtain ⟨e, he, hb, rfl⟩ := hw
  have h1 := hall e (by simpa using he) hb
  have h0 := (mem_ready.1 hi).1
  rcases Nat.lt_or_ge e.on listed.size with h' | h'
  · simp [h'] at h0 h1; rw [h0] at h1; cases h1
  · simp [Array.getElem?_eq_none h'] at h1

theorem anyBut_first {i : Nat} {oi : Oper} {v : Value} (hi : ops[i]? = some oi) (hsel : ∀ (j : Nat) (o : Oper) cs b, ops[j]? = some o → o.op ≠ .select cs b)
    (hQ : ∀ c a w, Q (.panic c) (a.put oi.dst v) w → Q (.panic c) a w) (hwn : waitsFor md ops n i = true) : ∀ (k : Nat) (listed : Array Bool) (a : Act) (w : World),
      (∀ j oj, ops[j]? = some oj → j ≠ i → listed.getD j true = false → (∀ e ∈ oj.after, Region.binds md e = true → e.on ≠ i) → oi.apart ops oj = true) →
      i ∈ Region.ready md ops listed → YieldsIf P ops S oi v a → S w →
      anyBut P md ops Q S n k (listed.setIfInBounds i true) (a.put oi.dst v) w → anyBut P md ops Q S n (k + 1) listed a w := by
  intro k
  induction k with
  | zero =>
    intro listed a w _ hr hy hS H
    refine ⟨fun h => (by rw [h] at hr; cases hr), fun j hj => ?_⟩
    by_cases hji : j = i
    · subst hji; exact hy.wpOp hi hS ⟨fun _ => hS, H⟩
    · have := ready_mono hj hji
      rw [H.1] at this
      cases this
  | succ k ih =>
    intro listed a w hfree hr hy hS H
    refine ⟨fun h => (by rw [h] at hr; cases hr), fun j hj => ?_⟩
    by_cases hji : j = i
    · subst hji; exact hy.wpOp hi hS ⟨fun _ => hS, H⟩
    · have hjn : j ≠ n := by rintro rfl; exact waits_not hwn hr hj
      obtain ⟨hjun, oj, hoj, hall⟩ := mem_ready.1 hj
      have hnot : ∀ e ∈ oj.after, Region.binds md e = true → e.on ≠ i := fun e he hb heq => by
        have h1 := hall e he hb
        have h0 := (mem_ready.1 hr).1
        rw [heq] at h1
        rcases Nat.lt_or_ge i listed.size with h' | h'
        · simp [h'] at h0 h1; rw [h0] at h1; cases h1
        · simp [Array.getElem?_eq_none h'] at h1
      have h2 := wpOp_putIf hoj (hfree j oj hoj hji hjun hnot) (fun cs b => hsel i oi cs b hi) (fun cs b => hsel j oj cs b hoj) hQ hy (H.2 j (ready_mono hj hji))
      refine wpOp_mono (fun a' w' h3 => ⟨h3.2.1, ih (listed.setIfInBounds j true) a' w' (fun k ok hk hki hun hno => hfree k ok hk hki ?_ hno) (ready_mono hr (Ne.symm hji)) h3.1 (h3.2.1 hjn) ?_⟩) h2
      · by_cases hjk : j = k
        · subst hjk; exact hjun
        · rw [getD_set_ne true hjk] at hun; exact hun
      · rw [Array.setIfInBounds_comm _ _ hji]
        exact h3.2.2

def canTakeN (md : Region.Mode) (ops : Array Oper) (listed : Array Bool) (n i : Nat) : Bool := canTake md ops listed i && waitsFor md ops n i

theorem tkNN (i : Nat) {oi : Oper} {k : Nat} {listed : Array Bool} {a : Act} {w : World} (hS : S w) (hi : ops.toList[i]? = some oi) (hQ : ∀ c a w, Q (.panic c) (a.put oi.dst undef) w → Q (.panic c) a w)
    (hc : canTakeN md ops listed n i = true) (hw : Region.wanted oi (yielded ops a.tmps) = false)
    (h : anyBut P md ops Q S n k (listed.setIfInBounds i true) (a.put oi.dst undef) w) : anyBut P md ops Q S n (k + 1) listed a w := by
  simp only [canTakeN, canTake, Bool.and_eq_true] at hc
  have hi' : ops[i]? = some oi := by rw [← hi, Array.getElem?_toList]
  exact anyBut_first hi' (Region.noSelect_spec hc.1.1.1) hQ hc.2 k listed a w (Region.free_spec hi' hc.1.1.2) (by simpa using hc.1.2) (.inr ⟨hw, rfl⟩) hS h

theorem kNN (i : Nat) {oi : Oper} {k : Nat} {listed : Array Bool} {a : Act} {w : World} (hS : S w) (h : anyBut P md ops Q S n k (listed.setIfInBounds i true) (a.put oi.dst undef) w)
    (hi : ops.toList[i]? = some oi := by exact rfl) (hQ : ∀ c a w, Q (.panic c) (a.put oi.dst undef) w → Q (.panic c) a w := by exact fun _ _ _ h => h) (hc : canTakeN md ops listed n i = true := by decide +kernel) (hw : Region.wanted oi (yielded ops a.tmps) = false := by rfl) : anyBut P md ops Q S n (k + 1) listed a w :=
  tkNN i hS hi hQ hc hw h

theorem tkYN (i : Nat) {oi : Oper} {v : Value} {k : Nat} {listed : Array Bool} {a : Act} {w : World} (hS : S w) (hi : ops.toList[i]? = some oi) (hQ : ∀ c a w, Q (.panic c) (a.put oi.dst v) w → Q (.panic c) a w)
    (hc : canTakeN md ops listed n i = true) (hw : Region.wanted oi (yielded ops a.tmps) = true) (hy : ∀ w, S w → (execOp a.eval oi).run P w = .ok (.value v) w)
    (h : anyBut P md ops Q S n k (listed.setIfInBounds i true) (a.put oi.dst v) w) : anyBut P md ops Q S n (k + 1) listed a w := by
  simp only [canTakeN, canTake, Bool.and_eq_true] at hc
  have hi' : ops[i]? = some oi := by rw [← hi, Array.getElem?_toList]
  exact anyBut_first hi' (Region.noSelect_spec hc.1.1.1) hQ hc.2 k listed a w (Region.free_spec hi' hc.1.1.2) (by simpa using hc.1.2) (.inl ⟨hw, hy⟩) hS h

theorem kYN (i : Nat) {oi : Oper} {v : Value} {k : Nat} {listed : Array Bool} {a : Act} {w : World} (hS : S w) (h : anyBut P md ops Q S n k (listed.setIfInBounds i true) (a.put oi.dst v) w)
    (hi : ops.toList[i]? = some oi := by exact rfl) (hQ : ∀ c a w, Q (.panic c) (a.put oi.dst v) w → Q (.panic c) a w := by exact fun _ _ _ h => h) (hc : canTakeN md ops listed n i = true := by decide +kernel) (hw : Region.wanted oi (yielded ops a.tmps) = true := by rfl) (hy : ∀ w, S w → (execOp a.eval oi).run P w = .ok (.value v) w := by intro w hS; (try dsimp only at hS); go_simp; try with_reducible rfl) : anyBut P md ops Q S n (k + 1) listed a w :=
  tkYN i hS hi hQ hc hw hy h

theorem step_to {i : Nat} {oi : Oper} {k : Nat} {listed : Array Bool} {a : Act} {w : World} (hi : ops.toList[i]? = some oi) (hw : Region.wanted oi (yielded ops a.tmps) = true) (hin : i ≠ n)
    (h : ∀ K' : Act → World → Prop, Shut (∀ a w, S w → (S w → anyBut P md ops Q S n k (listed.setIfInBounds i true) a w) → K' a w) → oi.wp P a w K' Q) :
    wpOp P ops Q i (fun a' w' => (i ≠ n → S w') ∧ anyBut P md ops Q S n k (listed.setIfInBounds i true) a' w') a w := by
  refine wpOp_step (by rw [← hi, Array.getElem?_toList]) fun K' hK => ?_
  rw [if_pos hw]
  exact h K' fun a w hS hW => hK a w ⟨fun _ => hS, hW hS⟩

theorem spkN (i : Nat) {oi : Oper} {k : Nat} {listed : Array Bool} {a : Act} {w : World} (hi : ops.toList[i]? = some oi) (hin : i ≠ n)
    (hr : Region.ready md ops listed = [i]) (hw : Region.wanted oi (yielded ops a.tmps) = true)
    (h : ∀ K' : Act → World → Prop, Shut (∀ a w, S w → (S w → anyBut P md ops Q S n k (listed.setIfInBounds i true) a w) → K' a w) → oi.wp P a w K' Q) : anyBut P md ops Q S n (k + 1) listed a w := by
  refine ⟨fun h0 => (by rw [h0] at hr; cases hr), fun j hj => ?_⟩
  rw [hr] at hj
  obtain rfl := List.mem_singleton.1 hj
  exact step_to hi hw hin h

theorem spkL {oi : Oper} {k : Nat} {listed : Array Bool} {a : Act} {w : World} (hi : ops.toList[n]? = some oi)
    (hr : Region.ready md ops listed = [n]) (hw : Region.wanted oi (yielded ops a.tmps) = true)
    (h : ∀ K' : Act → World → Prop, Shut (∀ a w, anyBut P md ops Q S n k (listed.setIfInBounds n true) a w → K' a w) → oi.wp P a w K' Q) : anyBut P md ops Q S n (k + 1) listed a w := by
  refine ⟨fun h0 => (by rw [h0] at hr; cases hr), fun j hj => ?_⟩
  rw [hr] at hj
  obtain rfl := List.mem_singleton.1 hj
  refine wpOp_step (by rw [← hi, Array.getElem?_toList]) fun K' hK => ?_
  rw [if_pos hw]
  exact h K' fun a w hW => hK a w ⟨fun h => absurd rfl h, hW⟩

theorem spBN (i j : Nat) {oi oj : Oper} {k : Nat} {listed : Array Bool} {a : Act} {w : World} (hi : ops.toList[i]? = some oi) (hj : ops.toList[j]? = some oj) (hin : i ≠ n) (hjn : j ≠ n)
    (hr : Region.ready md ops listed = [i, j]) (hwi : Region.wanted oi (yielded ops a.tmps) = true) (hwj : Region.wanted oj (yielded ops a.tmps) = true)
    (h : ∀ K' : Act → World → Prop, Shut (∀ a w, S w → (S w → anyBut P md ops Q S n k (listed.setIfInBounds i true) a w) → K' a w) → oi.wp P a w K' Q)
    (h' : ∀ K' : Act → World → Prop, Shut (∀ a w, S w → (S w → anyBut P md ops Q S n k (listed.setIfInBounds j true) a w) → K' a w) → oj.wp P a w K' Q) : anyBut P md ops Q S n (k + 1) listed a w := by
  refine ⟨fun h0 => (by rw [h0] at hr; cases hr), fun q hq => ?_⟩
  rw [hr] at hq
  rcases List.mem_cons.1 hq with rfl | hq
  · exact step_to hi hwi hin h
  · obtain rfl := List.mem_singleton.1 hq
    exact step_to hj hwj hjn h'

theorem anyBut_done {listed : Array Bool} {a : Act} {w : World} (hr : Region.ready md ops listed = []) (h : Q .normal a w) : ∀ k, anyBut P md ops Q S n k listed a w
  | 0 => ⟨hr, h⟩
  | _ + 1 => ⟨fun _ => h, by rw [hr]; simp⟩

theorem region_goN {id : Nat} {a : Act} {w : World} (n : Nat) (S : World → Prop) (hm : P.follows .mixedOrders = true) (hS : S w.drew)
    (h : S w.drew → anyBut P .any ops Q S n ops.size (Array.replicate ops.size false) a w.drew) : (Code.region id ops true).wp P Q a w :=
  wp_region_any hm (anyBut_any _ _ _ _ (h hS))
end

end Go.Proofs.Ytdbeekdnehojnaa
