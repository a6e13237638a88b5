/-
  gather: the nearest few of the parts' nearest few are the nearest few of all.
  gather: what the calls of GatherMerges answer.
  The document's Right, of vectors.
  A region that draws its order, its operations behind a name: each step's goal is small.
  gather: an ID is asked of its own shard alone: what the calls answer.
  gather: GatherMerges: what the parts have, and what of it is told.
  gather: GatherMerges: the state of the first loop.
-/
import Derived.Test.YtfmlhdikagogcaaDoorJ29
import Derived.Test.YtfmlhdikagogcaaDoorJ28
import Derived.Test.YtfmlhdikagogcaaDoorJ44
import Derived.Test.YtfmlhdikagogcaaDoorJ45
import Derived.Test.YtfmlhdikagogcaaDoorJ04
import Derived.Test.YtfmlhdikagogcaaDoorJ11
import Derived.Test.YtfmlhdikagogcaaDoorJ27
import Derived.ArgAppend
namespace Go.Proofs.YtfmlhdikagogcaaDoor
open Go.RowKit
set_option maxRecDepth 20000

theorem ids_sub {l m : List Hz} (h : Ids m) (s : l.Sublist m) : Ids l := List.Pairwise.sublist s h

theorem all_sorted {ms : List Hz} (hd : Ids ms) : Sorted (allZ ms) := (addsZ_all (n := 1) (Nat.le_refl 1) ms hd).2

/-- who is among the nearest n -/
theorem mem_first {S : List Hz} (hd : Ids S) {n : Nat} {x : Hz} : x ∈ (allZ S).take n ↔ x ∈ S ∧ aheadZ S x < n := by
  have hs := all_sorted hd
  have hp := allZ_perm S
  constructor
  · intro hx
    obtain ⟨i, hi, rfl⟩ := List.mem_iff_getElem.1 hx
    rw [List.length_take] at hi
    rw [List.getElem_take]
    have hi' : i < (allZ S).length := by omega
    refine ⟨hp.mem_iff.1 (List.getElem_mem hi'), ?_⟩
    rw [ahead_perm hp, ahead_at hs hi']
    omega
  · rintro ⟨hx, ha⟩
    obtain ⟨i, hi, rfl⟩ := List.mem_iff_getElem.1 (hp.mem_iff.2 hx)
    rw [ahead_perm hp, ahead_at hs hi] at ha
    rw [List.mem_iff_getElem]
    exact ⟨i, by rw [List.length_take]; omega, by rw [List.getElem_take]⟩

theorem ahead_app (A M : List Hz) (x : Hz) : aheadZ (A ++ M) x = aheadZ A x + aheadZ M x := by
  unfold aheadZ; rw [List.countP_append]

theorem ahead_first_le (M : List Hz) (n : Nat) (x : Hz) : aheadZ ((allZ M).take n) x ≤ aheadZ M x := by
  rw [ahead_perm (allZ_perm M)]
  exact (List.take_sublist n (allZ M)).countP_le

/-- the nearest few of a part hold as many ahead of x as the part has, or n -/
theorem ahead_first {M : List Hz} (hd : Ids M) (n : Nat) (x : Hz) : aheadZ ((allZ M).take n) x = aheadZ M x ∨ n ≤ aheadZ ((allZ M).take n) x := by
  have hs := all_sorted hd
  rw [ahead_perm (allZ_perm M) x]
  by_cases hall : ∀ y ∈ (allZ M).drop n, near y x = false
  · left
    have e : aheadZ (allZ M) x = aheadZ ((allZ M).take n) x + aheadZ ((allZ M).drop n) x := by rw [← ahead_app, List.take_append_drop]
    have e2 : aheadZ ((allZ M).drop n) x = 0 := by
      unfold aheadZ
      rw [List.countP_eq_zero]
      intro y hy
      rw [hall y hy]
      simp
    omega
  · right
    have : ∃ y ∈ (allZ M).drop n, near y x = true := by
      rw [Classical.not_forall] at hall
      obtain ⟨y, hy⟩ := hall
      rw [Classical.not_imp] at hy
      exact ⟨y, hy.1, by simpa using hy.2⟩
    obtain ⟨y, hy, hyx⟩ := this
    obtain ⟨j, hj, rfl⟩ := List.mem_iff_getElem.1 hy
    rw [List.length_drop] at hj
    rw [List.getElem_drop] at hyx
    unfold aheadZ
    rw [List.countP_eq_length.2 fun z hz => ?_, List.length_take]
    · omega
    · obtain ⟨k, hk, rfl⟩ := List.mem_iff_getElem.1 hz
      rw [List.length_take] at hk
      rw [List.getElem_take]
      exact near_trans (List.pairwise_iff_getElem.1 hs k (n + j) _ (by omega) (by omega)) hyx

theorem first_sub (M : List Hz) (n : Nat) : ∀ x ∈ (allZ M).take n, x ∈ M := fun x hx => (allZ_perm M).mem_iff.1 (List.mem_of_mem_take hx)

theorem ids_app {A M : List Hz} (hA : Ids A) (hM : Ids M) (h : ∀ a ∈ A, ∀ m ∈ M, a.id ≠ m.id) : Ids (A ++ M) := List.pairwise_append.2 ⟨hA, hM, h⟩

theorem ids_first {M : List Hz} (hd : Ids M) (n : Nat) : Ids ((allZ M).take n) := ids_sub (hd.perm (allZ_perm M).symm) (List.take_sublist _ _)

/-- a part may be cut to its nearest n -/
theorem cut_part {A M C : List Hz} (hd : Ids (A ++ M ++ C)) (n : Nat) : (allZ (A ++ (allZ M).take n ++ C)).take n = (allZ (A ++ M ++ C)).take n := by
  have hAM := List.pairwise_append.1 hd
  have hA_M := List.pairwise_append.1 hAM.1
  have hM : Ids M := hA_M.2.1
  have hd' : Ids (A ++ (allZ M).take n ++ C) := by
    refine ids_app (ids_app hA_M.1 (ids_first hM n) fun a ha m hm => hA_M.2.2 a ha m (first_sub M n m hm)) hAM.2.1 fun a ha c hc => ?_
    rcases List.mem_append.1 ha with ha | ha
    · exact hAM.2.2 a (List.mem_append.2 (.inl ha)) c hc
    · exact hAM.2.2 a (List.mem_append.2 (.inr (first_sub M n a ha))) c hc
  refine sorted_ext (List.Pairwise.sublist (List.take_sublist _ _) (all_sorted hd')) (List.Pairwise.sublist (List.take_sublist _ _) (all_sorted hd)) fun x => ?_
  rw [mem_first hd', mem_first hd]
  have e1 : aheadZ (A ++ (allZ M).take n ++ C) x = aheadZ A x + aheadZ ((allZ M).take n) x + aheadZ C x := by rw [ahead_app, ahead_app]
  have e2 : aheadZ (A ++ M ++ C) x = aheadZ A x + aheadZ M x + aheadZ C x := by rw [ahead_app, ahead_app]
  have h1 := ahead_first_le M n x
  have h2 := ahead_first hM n x
  rw [e1, e2]
  constructor
  · rintro ⟨hx, ha⟩
    refine ⟨?_, by omega⟩
    rcases List.mem_append.1 hx with hx | hx
    · rcases List.mem_append.1 hx with hx | hx
      · exact List.mem_append.2 (.inl (List.mem_append.2 (.inl hx)))
      · exact List.mem_append.2 (.inl (List.mem_append.2 (.inr (first_sub M n x hx))))
    · exact List.mem_append.2 (.inr hx)
  · rintro ⟨hx, ha⟩
    refine ⟨?_, by omega⟩
    rcases List.mem_append.1 hx with hx | hx
    · rcases List.mem_append.1 hx with hx | hx
      · exact List.mem_append.2 (.inl (List.mem_append.2 (.inl hx)))
      · refine List.mem_append.2 (.inl (List.mem_append.2 (.inr ?_)))
        rw [mem_first hM]
        exact ⟨hx, by omega⟩
    · exact List.mem_append.2 (.inr hx)

/-- three parts -/
theorem merge_parts {n : Nat} (hn : 1 ≤ n) {a b c : List Hz} (hd : Ids (a ++ b ++ c)) : mergeZ n [(allZ a).take n, (allZ b).take n, (allZ c).take n] = (allZ (a ++ b ++ c)).take n := by
  have h3 := List.pairwise_append.1 hd
  have h2 := List.pairwise_append.1 h3.1
  have fa := ids_first h2.1 n
  have fb := ids_first h2.2.1 n
  have fc := ids_first h3.2.1 n
  have hab : Ids (a ++ (allZ b).take n) := ids_app h2.1 fb fun x hx y hy => h2.2.2 x hx y (first_sub b n y hy)
  have hc1 : (allZ (a ++ b ++ (allZ c).take n ++ [])).take n = (allZ (a ++ b ++ c ++ [])).take n := cut_part (A := a ++ b) (M := c) (C := []) (by rw [List.append_nil]; exact hd) n
  rw [List.append_nil, List.append_nil] at hc1
  have hdc : Ids (a ++ b ++ (allZ c).take n) := ids_app h3.1 fc fun x hx y hy => h3.2.2 x hx y (first_sub c n y hy)
  have hb1 := cut_part (A := a) (M := b) (C := (allZ c).take n) hdc n
  have hdb : Ids (a ++ (allZ b).take n ++ (allZ c).take n) := ids_app hab fc fun x hx y hy => by
    refine h3.2.2 x ?_ y (first_sub c n y hy)
    rcases List.mem_append.1 hx with hx | hx
    · exact List.mem_append.2 (.inl hx)
    · exact List.mem_append.2 (.inr (first_sub b n x hx))
  have ha1 := cut_part (A := []) (M := a) (C := (allZ b).take n ++ (allZ c).take n) (by rw [List.nil_append, ← List.append_assoc]; exact hdb) n
  rw [List.nil_append, List.nil_append, ← List.append_assoc, ← List.append_assoc] at ha1
  have hda : Ids ((allZ a).take n ++ (allZ b).take n ++ (allZ c).take n) := ids_app (ids_app fa fb fun x hx y hy => h2.2.2 x (first_sub a n x hx) y (first_sub b n y hy)) fc fun x hx y hy => by
    refine h3.2.2 x ?_ y (first_sub c n y hy)
    rcases List.mem_append.1 hx with hx | hx
    · exact List.mem_append.2 (.inl (first_sub a n x hx))
    · exact List.mem_append.2 (.inr (first_sub b n x hx))
  rw [mergeZ_flat]
  have hf : [(allZ a).take n, (allZ b).take n, (allZ c).take n].flatten = (allZ a).take n ++ (allZ b).take n ++ (allZ c).take n := by simp
  rw [hf, (addsZ_all hn _ hda).1, ha1, hb1, hc1]

end Go.Proofs.YtfmlhdikagogcaaDoor

namespace Go.Proofs.YtfmlhdikagogcaaDoor
open Go.RowKit
set_option maxRecDepth 20000

def nM (n : Int) : Nt := ⟨8, 0, 0, 0, 0, 0, 1, 0, n, 0, 0, 0, [], [], [0, 0], []⟩
def nML (n : Int) : Nt := ⟨9, 0, 0, 1, 0, 0, 1, 0, n, 0, 0, 0, [], [], [0, 0], []⟩
def nMS (hits : List Hz) : Nt := ⟨10, 0, 0, 0, 0, 0, 1, 0, 0, 0, 0, 0, [], [], [], hits⟩
def gM (n : Int) (t : List (Int × List Hz)) : Gz := ⟨3, 2, 1, [⟨nML n, 4, 1, [1, 2, 3], t⟩]⟩

theorem right_merge (n : Int) (h : 1 ≤ n ∧ n ≤ 16) : rightN (nM n) = true := by
  have h1 : fitsB (nM n) = true := by
    unfold fitsB
    have : (nM n).flags = [false, false, false, false, false, true, false, n != 0, false, false, false, false, false, true, false] := rfl
    rw [this, show (nM n).kind = 8 from rfl]
    cases (n != 0) <;> decide +kernel
  have h2 : boundedB (nM n) = true := by
    unfold boundedB numsB lensB partsB bareB rightB
    simp [nM, h.2, outR, show (0 : Int) ≤ n by omega]
  unfold rightN
  rw [h1, h2]
  rfl

theorem right_seenM (hits : List Hz) (hl : hits.length ≤ 16) (hh : ∀ h ∈ hits, badHit h = false) : rightN (nMS hits) = true := by
  have h1 : fitsB (nMS hits) = true := by
    unfold fitsB
    have : (nMS hits).flags = [false, false, false, false, false, true, false, false, false, false, false, false, false, false, decide (0 < hits.length)] := rfl
    rw [this, show (nMS hits).kind = 10 from rfl]
    cases decide (0 < hits.length) <;> decide +kernel
  have h2 : boundedB (nMS hits) = true := by
    have h3 : hits.any badHit = false := by rw [List.any_eq_false]; intro x hx; rw [hh x hx]; simp
    unfold boundedB
    rw [show (nMS hits).hits = hits from rfl, h3]
    unfold numsB lensB partsB bareB
    simp [nMS, hl]
  unfold rightN
  rw [h1, h2]
  rfl

theorem merge_ask (n : Int) (h : 1 ≤ n ∧ n ≤ 16) : askZ ⟨3, 2, 0, []⟩ 4 (nM n) 1 0 = ([(1, nML n), (2, nML n), (3, nML n)], gM n []) := by
  have ho : oddB 4 (nM n) 8 = false := by unfold oddB; rw [right_merge n h]; rfl
  unfold askZ
  rw [ho]
  rfl

theorem merge_hear (n : Int) (t : List (Int × List Hz)) (p : Int) (hits : List Hz) (hp : 0 ≤ p ∧ p < 3) (hl : hits.length ≤ 16) (hh : ∀ h ∈ hits, badHit h = false) (hn : hasTold t (p + 1) = false) :
    hearZ (gM n t) (p + 1) (nMS hits) = if t.length + 1 < 3 then ([], gM n (t ++ [(p + 1, hits)])) else ([(4, resN 1 1 0 (answerZ ⟨nML n, 4, 1, [1, 2, 3], t⟩ (t ++ [(p + 1, hits)])))], ⟨3, 2, 1, []⟩) := by
  have ho : oddB (p + 1) (nMS hits) 10 = false := by
    unfold oddB
    rw [right_seenM hits hl hh, decide_eq_false (show ¬ p + 1 < 0 by omega), decide_eq_false (show ¬ 16 ≤ p + 1 by omega)]
    rfl
  have h0 : hearZ (gM n t) (p + 1) (nMS hits) = hearAt (gM n t) 0 ⟨nML n, 4, 1, [1, 2, 3], t⟩ (p + 1) (nMS hits) := by
    unfold hearZ
    rw [ho]
    rfl
  rw [h0]
  unfold hearAt
  have h1 : (hasTold t (p + 1) || !([1, 2, 3].any fun y => decide (p + 1 = y))) = false := by
    rw [hn]
    have : p = 0 ∨ p = 1 ∨ p = 2 := by omega
    rcases this with rfl | rfl | rfl <;> rfl
  simp only [h1]
  have h2 : ¬ (nMS hits).code ≠ 0 := fun h => h rfl
  rw [if_neg (by simp), if_neg h2]
  by_cases h3 : t.length + 1 < 3
  · rw [if_pos h3, if_pos (show t.length + 1 < ([1, 2, 3] : List Int).length from h3)]
    rfl
  · rw [if_neg h3, if_neg (show ¬ t.length + 1 < ([1, 2, 3] : List Int).length from h3)]
    rfl

theorem merge_answer (n : Nat) (hn : 1 ≤ n) (t0 t : List (Int × List Hz)) : answerZ ⟨nML n, 4, 1, [1, 2, 3], t0⟩ t = mergeZ n [toldOf t 1, toldOf t 2, toldOf t 3] := by
  unfold answerZ
  rw [if_neg (show ¬ (nML n).vec.length = 0 by simp [nML]), if_neg (show ¬ (nML n).k < 1 by show ¬ (n : Int) < 1; omega)]
  have : (nML n).k.toNat = n := by show (n : Int).toNat = n; omega
  simp only [this]
  rfl

end Go.Proofs.YtfmlhdikagogcaaDoor

namespace Go.Proofs.YtfmlhdikagogcaaDoor
open Go.RowKit
set_option maxRecDepth 20000

theorem refRight (xs : List Int) (v : Value) (w : World) (h : Nums w .i32 v xs) :
    Calls Tryd.prog 18 #[v] w fun e w' => e = .returned (.bool (rightB xs)) ∧ w = w' := by
  obtain ⟨p, cap, rfl, hcap, hbig, -, hc⟩ := h.slice
  have hl : xs.length ≤ 9223372036854775807 := by omega
  clear hcap hbig
  have H := Lib.hid h
  clear h hc
  go_enter Tryd.func18, Tryd.ntmps18
  go_wp2
  go_loop [4, 7] (fun _ i => ∃ k : Nat, k ≤ xs.length ∧ i = .int .i64 k ∧ ∀ j (h : j < xs.length), j < k → outR xs[j] = false) (fun _ i => xs.length - (intOf i).toNat)
  case atStart => exact ⟨0, by omega, rfl, by omega⟩
  case round =>
    obtain ⟨k, hk, rfl, hall⟩ := hrel
    have A := Lib.hid hall
    clear hall
    by_cases hlt : k < xs.length
    · obtain ⟨b, off, rfl, hcell⟩ := H.out.elem hlt
      by_cases h1 : 268435456 < xs[k]
      · go_wp2
        go_ret
        exact ⟨ret_bool (by have : xs.any outR = true := by rw [List.any_eq_true]; exact ⟨_, List.getElem_mem hlt, by simp [outR, h1]⟩
                            simp [rightB, this]), rfl⟩
      · by_cases h2 : xs[k] < -268435456
        · go_wp2
          go_ret
          exact ⟨ret_bool (by have : xs.any outR = true := by rw [List.any_eq_true]; exact ⟨_, List.getElem_mem hlt, by simp [outR, h2]⟩
                              simp [rightB, this]), rfl⟩
        · go_wp2
          go_round
          case rel => exact ⟨k + 1, by omega, by go_num, fun j h hj => by
            by_cases e : j = k
            · subst e; simp [outR]; omega
            · exact A.out j h (by omega)⟩
          case measure => simp [intOf]; omega
    · have hany : xs.any outR = false := by
        simp only [List.any_eq_false]
        intro x hx
        obtain ⟨i, hi, rfl⟩ := List.mem_iff_getElem.1 hx
        simp [A.out i hi (by omega)]
      have Y := Lib.hid hany
      clear hany
      by_cases h1 : 1 ≤ xs.length
      · go_wp2
        go_ret
        exact ⟨ret_bool (by have h0 : 0 < xs.length := by omega
                            simp [rightB, Y.out, h0]; omega), rfl⟩
      · go_wp2
        go_ret
        exact ⟨ret_bool (by simp [rightB]; omega), rfl⟩

end Go.Proofs.YtfmlhdikagogcaaDoor

namespace Go.Proofs.YtfmlhdikagogcaaDoor
open Go.RowKit
set_option maxRecDepth 20000

section
variable {P : Program} {ops O : Array Oper} {Q : Exit → Act → World → Prop} {md : Region.Mode} {S : World → Prop}

/-- an equation that no tactic opens -/
structure OpsAre (O ops : Array Oper) : Prop where
  eq : O = ops

theorem tkNH (i : Nat) {oi : Oper} {fuel : Nat} {listed : Array Bool} {a : Act} {w : World} (hO : OpsAre O ops) (hS : S w) (hi : ops.toList[i]? = some oi) (hQ : ∀ c a w, Q (.panic c) (a.put oi.dst undef) w → Q (.panic c) a w)
    (hc : canTake md ops listed i = true) (hw : Region.wanted oi (yielded ops a.tmps) = false)
    (h : wpAnyH P md O Q S fuel (listed.setIfInBounds i true) (a.put oi.dst undef) w) : wpAnyH P md O Q S (fuel + 1) listed a w := by
  obtain ⟨rfl⟩ := hO
  exact tkN i hS hi hQ hc hw h

theorem tkYH (i : Nat) {oi : Oper} {v : Value} {fuel : Nat} {listed : Array Bool} {a : Act} {w : World} (hO : OpsAre O ops) (hS : S w) (hi : ops.toList[i]? = some oi) (hQ : ∀ c a w, Q (.panic c) (a.put oi.dst v) w → Q (.panic c) a w)
    (hc : canTake md ops listed i = true) (hw : Region.wanted oi (yielded ops a.tmps) = true) (hy : ∀ w, S w → (execOp a.eval oi).run P w = .ok (.value v) w)
    (h : wpAnyH P md O Q S fuel (listed.setIfInBounds i true) (a.put oi.dst v) w) : wpAnyH P md O Q S (fuel + 1) listed a w := by
  obtain ⟨rfl⟩ := hO
  exact tkY i hS hi hQ hc hw hy h

theorem spkH (i : Nat) {oi : Oper} {fuel : Nat} {listed : Array Bool} {a : Act} {w : World} (hO : OpsAre O ops) (hi : ops.toList[i]? = some oi)
    (hr : Region.ready md ops listed = [i]) (hw : Region.wanted oi (yielded ops a.tmps) = true)
    (h : ∀ K' : Act → World → Prop, Shut (∀ a w, S w → (S w → wpAnyH P md O Q S fuel (listed.setIfInBounds i true) a w) → K' a w) → oi.wp P a w K' Q) : wpAnyH P md O Q S (fuel + 1) listed a w := by
  obtain ⟨rfl⟩ := hO
  exact spk i hi hr hw h

theorem spBH (i j : Nat) {oi oj : Oper} {fuel : Nat} {listed : Array Bool} {a : Act} {w : World} (hO : OpsAre O ops) (hi : ops.toList[i]? = some oi) (hj : ops.toList[j]? = some oj)
    (hr : Region.ready md ops listed = [i, j]) (hwi : Region.wanted oi (yielded ops a.tmps) = true) (hwj : Region.wanted oj (yielded ops a.tmps) = true)
    (h : ∀ K' : Act → World → Prop, Shut (∀ a w, S w → (S w → wpAnyH P md O Q S fuel (listed.setIfInBounds i true) a w) → K' a w) → oi.wp P a w K' Q)
    (h' : ∀ K' : Act → World → Prop, Shut (∀ a w, S w → (S w → wpAnyH P md O Q S fuel (listed.setIfInBounds j true) a w) → K' a w) → oj.wp P a w K' Q) : wpAnyH P md O Q S (fuel + 1) listed a w := by
  obtain ⟨rfl⟩ := hO
  exact spB i j hi hj hr hwi hwj h h'

theorem doneH {fuel : Nat} {listed : Array Bool} {a : Act} {w : World} (hO : OpsAre O ops) (hr : Region.ready md ops listed = []) (h : Q .normal a w) : wpAnyH P md O Q S fuel listed a w := by
  obtain ⟨rfl⟩ := hO
  exact wpAnyH_done hr h _

theorem region_goH {id : Nat} {a : Act} {w : World} (S : World → Prop) (n : Nat) (hm : P.follows .mixedOrders = true) (hn : ops.size = n) (hS : S w.drew)
    (h : ∀ O, OpsAre O ops → S w.drew → wpAnyH P .any O Q S n (Array.replicate n false) a w.drew) : (Code.region id ops true).wp P Q a w := by
  subst hn
  exact region_go S hm hS (h ops ⟨rfl⟩)
end

end Go.Proofs.YtfmlhdikagogcaaDoor

namespace Go.Proofs.YtfmlhdikagogcaaDoor
open Go.RowKit
set_option maxRecDepth 20000

def nG (id : Int) : Nt := ⟨8, 0, 0, 0, 0, 0, 3, id, 0, 0, 0, 0, [], [], [], []⟩
def nGL (id : Int) : Nt := ⟨9, 0, 0, 7, 0, 2, 1, id, 0, 0, 0, 0, [], [], [], []⟩
def nGS (code : Int) (hits : List Hz) : Nt := ⟨10, 0, 0, 0, 0, 0, 1, 0, 0, 0, code, 0, [], [], [], hits⟩
def gG (n id : Int) : Gz := ⟨n, 2, 1, [⟨nGL id, 5, 3, [1 + homeZ id n], []⟩]⟩

theorem right_get (id : Int) (h : 0 ≤ id ∧ id ≤ 1099511627776) : rightN (nG id) = true := by
  have h1 : fitsB (nG id) = true := by
    unfold fitsB
    have : (nG id).flags = [false, false, false, false, false, true, decide (0 < id), false, false, false, false, false, false, false, false] := rfl
    rw [this]
    rw [show (nG id).kind = 8 from rfl]
    cases decide (0 < id) <;> decide +kernel
  have h2 : boundedB (nG id) = true := by
    unfold boundedB numsB lensB partsB bareB
    simp [nG, h.2]
  unfold rightN
  rw [h1, h2]
  rfl

theorem right_told (code : Int) (hits : List Hz) (hc : 0 ≤ code ∧ code ≤ 13) (hl : hits.length ≤ 16) (hh : ∀ h ∈ hits, badHit h = false) : rightN (nGS code hits) = true := by
  have h1 : fitsB (nGS code hits) = true := by
    unfold fitsB
    have : (nGS code hits).flags = [false, false, false, false, false, true, false, false, false, code != 0, false, false, false, false, decide (0 < hits.length)] := rfl
    rw [this]
    rw [show (nGS code hits).kind = 10 from rfl]
    cases (code != 0) <;> cases decide (0 < hits.length) <;> decide +kernel
  have h2 : boundedB (nGS code hits) = true := by
    have h3 : hits.any badHit = false := by rw [List.any_eq_false]; intro x hx; rw [hh x hx]; simp
    unfold boundedB
    rw [show (nGS code hits).hits = hits from rfl, h3]
    unfold numsB lensB partsB bareB
    simp [nGS, hc.1, hc.2, hl]
  unfold rightN
  rw [h1, h2]
  rfl

theorem get_ask (n id : Int) (h : 0 ≤ id ∧ id ≤ 1099511627776) : askZ ⟨n, 2, 0, []⟩ 5 (nG id) 7 2 = ([(1 + homeZ id n, nGL id)], gG n id) := by
  have ho : oddB 5 (nG id) 8 = false := by unfold oddB; rw [right_get id h]; rfl
  unfold askZ
  rw [ho]
  rfl

theorem get_hear (n id code : Int) (hits : List Hz) (hn : 1 ≤ n ∧ n ≤ 4) (hc : 0 ≤ code ∧ code ≤ 13) (hl : hits.length ≤ 16) (hh : ∀ h ∈ hits, badHit h = false) (hz : code ≠ 0 → hits = []) : hearZ (gG n id) (1 + homeZ id n) (nGS code hits) = ([(5, resN 7 3 code hits)], ⟨n, 2, 1, []⟩) := by
  have hr := home_range id n hn.1
  have ho : oddB (1 + homeZ id n) (nGS code hits) 10 = false := by
    unfold oddB
    rw [right_told code hits hc hl hh, decide_eq_false (show ¬ 1 + homeZ id n < 0 by omega), decide_eq_false (show ¬ 16 ≤ 1 + homeZ id n by omega)]
    rfl
  have h0 : hearZ (gG n id) (1 + homeZ id n) (nGS code hits) = hearAt (gG n id) 0 ⟨nGL id, 5, 3, [1 + homeZ id n], []⟩ (1 + homeZ id n) (nGS code hits) := by
    unfold hearZ
    rw [ho]
    rfl
  rw [h0]
  unfold hearAt
  have h1 : (hasTold ([] : List (Int × List Hz)) (1 + homeZ id n) || !([1 + homeZ id n].any fun y => decide (1 + homeZ id n = y))) = false := by simp [hasTold]
  simp only [h1]
  by_cases h2 : code = 0
  · subst h2
    simp [nGS, nGL, dropZ, gG, answerZ, toldOf, resN]
  · rw [hz h2]
    simp [nGS, nGL, dropZ, gG, h2]

theorem ok_get (n id : Int) (hn : 1 ≤ n ∧ n ≤ 4) (h : 0 ≤ id ∧ id ≤ 1099511627776) : GOk (gG n id) := by
  have := askZ_ok (ok_new n 2 0 hn) 5 (nG id) 7 2
  rwa [get_ask n id h] at this

theorem askT (B c : Nat) (F R : Nat → Prop) (g : Gz) (n : Nt) (vp vo vv vh : Value) (E : Nat → Prop) (frm stamp mark : Int) (w : World) (hT : Tab w) (hG : GAt w B c F R g) (hB : B ≤ w.heap.size) (hok : GOk g) (hv : NoteV w E n vp vo vv vh) (hkd : 0 ≤ n.kind ∧ n.kind ≤ 255) (hlen : n.parts.length ≤ 1000000 ∧ n.ops.length ≤ 1000000 ∧ n.vec.length ≤ 1000000 ∧ n.hits.length ≤ 1000000) {l : List (Int × Nt)} {g' : Gz} (hz : askZ g frm n stamp mark = (l, g')) :
    Calls Tryd.prog 11 #[.pointer (some ⟨c, 0, none⟩), .int .i64 frm, .agg (n.cells vp vo vv vh), .int .u64 stamp, .int .u64 mark] w (GTold w B c F R (fun _ => False) l g') := by
  have := ask B c F R E g n vp vo vv vh frm stamp mark w hT hG hB hok hv hkd hlen
  rw [hz] at this
  exact this

theorem hearT (B c : Nat) (F R E : Nat → Prop) (g : Gz) (n : Nt) (vp vo vv vh : Value) (frm : Int) (w : World) (hT : Tab w) (hG : GAt w B c F R g) (hB : B ≤ w.heap.size) (hok : GOk g) (hv : NoteV w E n vp vo vv vh) (hkd : 0 ≤ n.kind ∧ n.kind ≤ 255) (hlen : n.parts.length ≤ 1000000 ∧ n.ops.length ≤ 1000000 ∧ n.vec.length ≤ 1000000 ∧ n.hits.length ≤ 1000000) (hE : ∀ k, E k → k < w.heap.size ∧ ¬ F k) {l : List (Int × Nt)} {g' : Gz} (hz : hearZ g frm n = (l, g')) :
    Calls Tryd.prog 13 #[.pointer (some ⟨c, 0, none⟩), .int .i64 frm, .agg (n.cells vp vo vv vh)] w (GTold w B c F R E l g') := by
  have := hear B c F R E g n vp vo vv vh frm w hT hG hB hok hv hkd hlen hE
  rw [hz] at this
  exact this

theorem rowI32 : RowTy Tryd.prog 32 21 1 4 (.int .i32 0) := ⟨Tryd.underlying32, infoI32, rfl, by decide⟩

/-- two more behind a slice that has no room -/
theorem run_two {w : World} {xs : List Int} {vp : Option Addr} {vc mm : Nat} (h : Nums w .i32 (.slice vp xs.length vc) xs) (hm : mm ≤ xs.length) (hs : mm ≤ 2) :
    ∃ g c w', (∀ ty, (Builtin.append_ #[32, 32] ty #[.slice vp mm mm, .slice (some ⟨w.heap.size, 0, none⟩) 2 2]).run Tryd.prog (w.alloc (.cells #[.int .i32 0, .int .i32 0] 21)) = .ok (.slice (some ⟨g, 0, none⟩) (mm + 2) c) w') ∧
      w'.ownsRow w.heap.size 21 1 (.slice (some ⟨g, 0, none⟩) (mm + 2) c) (mm + 2) ((xs.take mm ++ [0, 0]).map (Value.int .i32)) ∧ Below w.heap.size w w' := by
  have hsrc := own_fresh w 21 1 2 #[.int .i32 0, .int .i32 0] rfl (by decide)
  have hb := (Below.refl w.heap.size w).alloc (Nat.le_refl _) (.cells #[.int .i32 0, .int .i32 0] 21)
  cases vp with
  | none =>
    obtain ⟨p', c', hv, h1, -, h3, -⟩ := h.slice
    obtain ⟨rfl, -, rfl⟩ := Value.slice.inj hv
    have hx : xs.length = 0 := by have := h3 rfl; omega
    obtain rfl : mm = 0 := by omega
    obtain ⟨q, k, c, w', hr, ho, hg, -⟩ := run_app rowI32 (World.ownsRow_nil (w.alloc (.cells #[.int .i32 0, .int .i32 0] 21)) w.heap.size 21 1) (by simp) (SrcAt.of_own hsrc) (by simp [Value.oneCell']) (by simp [maxLen]) (by decide)
    obtain ⟨g, cap, hv, -, -⟩ := ho.form (by omega)
    obtain ⟨rfl, rfl, rfl⟩ := Value.slice.inj hv
    exact ⟨g, _, w', hr, by simpa using ho, hb.grown hg (by simp) (fun b e => by cases e)⟩
  | some a =>
    obtain ⟨i0, hi, hz0, hz1, hz2⟩ := info_parts infoI32
    have hcell : ∀ j u, ((xs.take mm).map (Value.int .i32))[j]? = some u → (w.alloc (.cells #[.int .i32 0, .int .i32 0] 21)).cell? (a.add j) = some u := by
      intro j u hj
      rw [List.getElem?_map, Option.map_eq_some_iff] at hj
      obtain ⟨x, hx, rfl⟩ := hj
      have hj1 : j < xs.length := by
        have := (List.getElem?_eq_some_iff.1 hx).1
        simp at this
        omega
      obtain ⟨b, off, e, hc⟩ := h.elem hj1
      cases e
      have e2 : x = xs[j] := by
        have := (List.getElem?_eq_some_iff.1 hx).2
        rw [← this, List.getElem_take]
      rw [e2, Addr.add_lit]
      exact below_cells hb hc
    obtain ⟨v', w', hr, ho, hg⟩ := run_append_arg_grows (P := Tryd.prog) (w.alloc (.cells #[.int .i32 0, .int .i32 0] 21)) 32 0 21 i0 (.int .i32 0) 1 4 Tryd.underlying32 hi hz0 hz1 hz2 rfl (by decide) a mm mm ((xs.take mm).map (Value.int .i32)) (by simp; omega) hcell ⟨w.heap.size, 0, none⟩ 2 2 [.int .i32 0, .int .i32 0] rfl
      (World.news_of_block (cs := #[.int .i32 0, .int .i32 0]) (t := 21) (fr := (0, 0)) (heap_alloc_new w _)) (by omega) (by simp [maxLen]; omega) (by omega)
    obtain ⟨q, k, c, rfl⟩ := own_form ho
    obtain ⟨g, cap, hv, -, -⟩ := ho.form (by omega)
    obtain ⟨rfl, rfl, rfl⟩ := Value.slice.inj hv
    exact ⟨g, _, w', fun ty => hr, own_mono (by simpa using ho) (by simp), hb.grown hg (by simp) (fun b e => by cases e)⟩

end Go.Proofs.YtfmlhdikagogcaaDoor

namespace Go.Proofs.YtfmlhdikagogcaaDoor
open Go.RowKit
set_option maxRecDepth 20000

/-- what a part has of some hits -/
def mineZ (p : Nat) (hs : List Hz) : List Hz := (hs.take 16).mapIdx fun i h => ⟨((3 * i + p : Nat) : Int), h.dist, [1, 1]⟩

theorem mineZ_length (p : Nat) (hs : List Hz) : (mineZ p hs).length = min 16 hs.length := by simp [mineZ]

theorem mineZ_nil (p : Nat) : mineZ p [] = [] := rfl

theorem mineZ_lo (p : Nat) (hs : List Hz) (k : Nat) (hk : k < hs.length) (h16 : k < 16) : mineZ p (hs.take (k + 1)) = mineZ p (hs.take k) ++ [⟨((3 * k + p : Nat) : Int), hs[k].dist, [1, 1]⟩] := by
  have e1 : (hs.take (k + 1)).take 16 = hs.take (k + 1) := List.take_of_length_le (by rw [List.length_take]; omega)
  have e2 : (hs.take k).take 16 = hs.take k := List.take_of_length_le (by rw [List.length_take]; omega)
  unfold mineZ
  rw [e1, e2, List.take_succ_eq_append_getElem hk, List.mapIdx_append]
  simp [Nat.min_eq_left (Nat.le_of_lt hk)]

theorem mineZ_hi (p : Nat) (hs : List Hz) (k : Nat) (h16 : 16 ≤ k) : mineZ p (hs.take (k + 1)) = mineZ p (hs.take k) := by
  have e1 : (hs.take (k + 1)).take 16 = (hs.take k).take 16 := by rw [List.take_take, List.take_take, Nat.min_eq_left (by omega), Nat.min_eq_left (by omega)]
  unfold mineZ
  rw [e1]

theorem mineZ_get (p : Nat) (hs : List Hz) (i : Nat) (hi : i < (mineZ p hs).length) : ∃ d, (mineZ p hs)[i] = ⟨((3 * i + p : Nat) : Int), d, [1, 1]⟩ ∧ i < 16 := by
  refine ⟨_, by simp only [mineZ, List.getElem_mapIdx]; rfl, ?_⟩
  rw [mineZ_length] at hi
  omega

theorem mineZ_ids (p : Nat) (hs : List Hz) : Ids (mineZ p hs) := by
  unfold Ids
  rw [List.pairwise_iff_getElem]
  intro i j hi hj hij
  obtain ⟨d, e, -⟩ := mineZ_get p hs i hi
  obtain ⟨d', e', -⟩ := mineZ_get p hs j hj
  rw [e, e']
  show ((3 * i + p : Nat) : Int) ≠ ((3 * j + p : Nat) : Int)
  omega

theorem mineZ_apart {p q : Nat} (hp : p < 3) (hq : q < 3) (hpq : p ≠ q) (hs gs : List Hz) : ∀ a ∈ mineZ p hs, ∀ b ∈ mineZ q gs, a.id ≠ b.id := by
  intro a ha b hb
  obtain ⟨i, hi, rfl⟩ := List.mem_iff_getElem.1 ha
  obtain ⟨j, hj, rfl⟩ := List.mem_iff_getElem.1 hb
  obtain ⟨d, e, -⟩ := mineZ_get p hs i hi
  obtain ⟨d', e', -⟩ := mineZ_get q gs j hj
  rw [e, e']
  show ((3 * i + p : Nat) : Int) ≠ ((3 * j + q : Nat) : Int)
  omega

theorem mineZ_good (p : Nat) (hp : p < 3) (hs : List Hz) : ∀ h ∈ mineZ p hs, badHit h = false ∧ h.vec = [1, 1] := by
  intro a ha
  obtain ⟨i, hi, rfl⟩ := List.mem_iff_getElem.1 ha
  obtain ⟨d, e, h16⟩ := mineZ_get p hs i hi
  rw [e]
  refine ⟨?_, rfl⟩
  unfold badHit
  rw [decide_eq_false (show ¬ 1099511627776 < ((3 * i + p : Nat) : Int) by omega)]
  rfl

end Go.Proofs.YtfmlhdikagogcaaDoor

namespace Go.Proofs.YtfmlhdikagogcaaDoor
open Go.RowKit
set_option maxRecDepth 20000

/-- all that the first p parts have -/
def allM (ls : List (List Hz)) : Nat → List Hz
  | 0 => []
  | p + 1 => allM ls p ++ mineZ p (ls.getD p [])

theorem allM_from (ls : List (List Hz)) (p : Nat) (hp : p ≤ 3) : Ids (allM ls p) ∧ ∀ q, p ≤ q → q < 3 → ∀ gs, ∀ a ∈ allM ls p, ∀ b ∈ mineZ q gs, a.id ≠ b.id := by
  induction p with
  | zero => exact ⟨List.Pairwise.nil, fun q _ _ gs a ha => absurd ha (by simp [allM])⟩
  | succ p ih =>
    obtain ⟨h1, h2⟩ := ih (by omega)
    refine ⟨ids_app h1 (mineZ_ids p _) (h2 p (Nat.le_refl _) (by omega) _), fun q hq hq3 gs a ha b hb => ?_⟩
    rcases List.mem_append.1 ha with ha | ha
    · exact h2 q (by omega) hq3 gs a ha b hb
    · exact mineZ_apart (by omega) hq3 (by omega) _ _ a ha b hb

theorem allM_three (ls : List (List Hz)) : allM ls 3 = mineZ 0 (ls.getD 0 []) ++ mineZ 1 (ls.getD 1 []) ++ mineZ 2 (ls.getD 2 []) := rfl

/-- what the first loop keeps -/
structure TState (W3 : World) (n : Nat) (ls : List (List Hz)) (wr : World) (t p : Nat) (av : Value) (us : Nat → Value) : Prop where
  below : Below W3.heap.size W3 wr
  hi : W3.heap.size ≤ t ∧ t < wr.heap.size
  blk : wr.heap[t]? = some (.cells #[us 0, us 1, us 2] 38 (0, 0))
  all : ∃ rs, ∃ G : Nat → Prop, wr.ownsRow W3.heap.size 40 3 av rs.length (flat3 rs) ∧ Rows3 wr G rs (allM ls p) ∧ ∀ k, G k → W3.heap.size ≤ k ∧ k < wr.heap.size ∧ av.ownBlock ≠ some k ∧ k ≠ t
  told : ∀ j, j < p → HitsF wr (fun k => W3.heap.size ≤ k ∧ k < wr.heap.size ∧ av.ownBlock ≠ some k ∧ k ≠ t) (us j) ((allZ (mineZ j (ls.getD j []))).take n)
  rest : ∀ j, p ≤ j → us j = .slice none 0 0
  tav : av.ownBlock ≠ some t

def setU (us : Nat → Value) (p : Nat) (v : Value) : Nat → Value := fun j => if j = p then v else us j

theorem TState.next {W3 wr wc w5 w6 : World} {n p t : Nat} {ls : List (List Hz)} {av av5 mv v6 : Value} {us : Nat → Value} {rs rs0 : List Hv} {G H G0 : Nat → Prop} (h : TState W3 n ls wr t p av us) (hp : p < 3)
    (hmo : wc.ownsRow wr.heap.size 40 3 mv rs.length (flat3 rs)) (hmr : Rows3 wc G rs (mineZ p (ls.getD p []))) (hG : ∀ k, G k → wr.heap.size ≤ k ∧ k < wc.heap.size ∧ mv.ownBlock ≠ some k) (hbc : Below wr.heap.size wr wc)
    (o0 : wr.ownsRow W3.heap.size 40 3 av rs0.length (flat3 rs0)) (r0 : Rows3 wr G0 rs0 (allM ls p)) (g0 : ∀ k, G0 k → W3.heap.size ≤ k ∧ k < wr.heap.size ∧ av.ownBlock ≠ some k ∧ k ≠ t)
    (own5 : w5.ownsRow W3.heap.size 40 3 av5 (rs0.length + rs.length) (flat3 rs0 ++ flat3 rs)) (hg5 : wc.grownBy w5 av.ownBlock) (hv5 : av5.ownBlock = av.ownBlock ∨ av5.ownBlock = some wc.heap.size)
    (h6 : HitsF w6 H v6 ((allZ (mineZ p (ls.getD p []))).take n)) (hH : ∀ k, H k → k < w6.heap.size ∧ (wr.heap.size ≤ k ∧ k < wc.heap.size ∨ w5.heap.size ≤ k)) (hb6 : Below w5.heap.size w5 w6) :
    TState W3 n ls (w6.setCell ⟨t, p, none⟩ v6) t (p + 1) av5 (setU us p v6) := by
  have avl : ∀ k, av.ownBlock = some k → W3.heap.size ≤ k ∧ k < wr.heap.size := fun k e => o0.lt k e
  have s1 := h.below.size
  have s2 := hbc.size
  have s3 := hg5.size
  have s4 := hb6.size
  have ht := h.hi
  have av5l : ∀ k, av5.ownBlock = some k → k < w5.heap.size ∧ (av.ownBlock = some k ∨ k = wc.heap.size) := fun k e => by
    refine ⟨(own5.lt k e).2, ?_⟩
    rcases hv5 with e2 | e2
    · exact .inl (e2 ▸ e)
    · exact .inr (Option.some.inj (e.symm.trans e2))
  have old : ∀ k, k < wr.heap.size → av.ownBlock ≠ some k → w6.heap[k]? = wr.heap[k]? := fun k hk hne => by
    rw [hb6.block k (by omega), hg5.block k (by omega) (fun e => hne e.symm), hbc.block k hk]
  have mid : ∀ k, wr.heap.size ≤ k → k < wc.heap.size → w6.heap[k]? = wc.heap[k]? := fun k h1 h2 => by
    rw [hb6.block k (by omega), hg5.block k h2 (fun e => by have := (avl k e.symm).2; omega)]
  have hset : ∀ k, k ≠ t → (w6.setCell ⟨t, p, none⟩ v6).heap[k]? = w6.heap[k]? := fun k hk => set_other rfl hk p v6
  have hsz : (w6.setCell ⟨t, p, none⟩ v6).heap.size = w6.heap.size := by simp [World.setCell]
  have t5 : av5.ownBlock ≠ some t := fun e => by
    rcases (av5l t e).2 with e2 | e2
    · exact h.tav e2
    · omega
  refine ⟨?_, ⟨ht.1, by rw [hsz]; omega⟩, ?_, ?_, ?_, ?_, t5⟩
  · exact ((((h.below.trans (hbc.mono s1)).grown hg5 (by omega) (fun b e => (avl b e).1)).trans (hb6.mono (by omega))).setCell (p := ⟨t, p, none⟩) ht.1 _)
  · have := set_block ((old t ht.2 h.tav).trans h.blk) p v6
    rw [this]
    have : p = 0 ∨ p = 1 ∨ p = 2 := by omega
    rcases this with rfl | rfl | rfl <;> simp [setU]
  · refine ⟨rs0 ++ rs, fun k => G0 k ∨ G k, ?_, ?_, ?_⟩
    · have o6 := own_below own5 hb6
      rw [List.length_append, flat3_append]
      exact o6.kept (grownBy_setCells t [_] p w6) (.inr t5)
    · refine ((r0.agree (fun k hk => ?_)).mono fun _ => .inl).append ((hmr.agree (fun k hk => ?_)).mono fun _ => .inr)
      · obtain ⟨-, b, c, d⟩ := g0 k hk
        rw [hset k d, old k b c]
      · obtain ⟨a, b, -⟩ := hG k hk
        rw [hset k (by omega), mid k a b]
    · intro k hk
      rw [hsz]
      rcases hk with hk | hk
      · obtain ⟨a, b, c, d⟩ := g0 k hk
        refine ⟨a, by omega, fun e => ?_, d⟩
        rcases (av5l k e).2 with e2 | e2
        · exact c e2
        · omega
      · obtain ⟨a, b, -⟩ := hG k hk
        refine ⟨by omega, by omega, fun e => ?_, by omega⟩
        rcases (av5l k e).2 with e2 | e2
        · have := (avl k e2).2; omega
        · omega
  · intro j hj
    by_cases e : j = p
    · subst e
      have e2 : setU us j v6 j = v6 := by simp [setU]
      rw [e2]
      refine (h6.agree (fun k hk => hset k ?_)).mono fun k hk => ?_
      · have := (hH k hk).2; omega
      · have h1 := (hH k hk).1
        have h2 := (hH k hk).2
        refine ⟨by omega, by rw [hsz]; omega, fun e => ?_, by omega⟩
        obtain ⟨e1, e2⟩ := av5l k e
        rcases e2 with e2 | e2
        · have := (avl k e2).2; omega
        · omega
    · have e2 : setU us p v6 j = us j := by simp [setU, e]
      rw [e2]
      refine ((h.told j (by omega)).agree (fun k hk => ?_)).mono fun k hk => ?_
      · rw [hset k hk.2.2.2, old k hk.2.1 hk.2.2.1]
      · refine ⟨hk.1, by rw [hsz]; have := hk.2.1; omega, fun e => ?_, hk.2.2.2⟩
        rcases (av5l k e).2 with e2 | e2
        · exact hk.2.2.1 e2
        · have := hk.2.1; omega
  · intro j hj
    have : j ≠ p := by omega
    simp only [setU, this, if_false]
    exact h.rest j (by omega)

end Go.Proofs.YtfmlhdikagogcaaDoor
