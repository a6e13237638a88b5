/-
  chain's document: what nobody needs goes.
-/
import Derived.Test.YtpoophimfjfgkaaChainI
namespace Go.Proofs.Ytpoophimfjfgkaa
open Go.RowKit

theorem cntZ_below {s : Int} {l : List (Int × List Int)} {j : Nat} (h : j < cntZ s l) (hj : j < l.length) : l[j].1 ≤ s := by
  unfold cntZ at h
  induction l generalizing j with
  | nil => simp at hj
  | cons r l ih =>
    simp only [List.takeWhile_cons] at h
    split at h
    · rename_i hr
      cases j with
      | zero => simpa using hr
      | succ j => exact ih (by simpa using h) (by simpa using hj)
    · simp at h

theorem cntZ_above {s : Int} {l : List (Int × List Int)} (hr : Rising l) {j : Nat} (h : cntZ s l ≤ j) (hj : j < l.length) : s < l[j].1 := by
  unfold cntZ at h
  induction l generalizing j with
  | nil => simp at hj
  | cons r l ih =>
    have h' := List.pairwise_cons.1 hr
    simp only [List.takeWhile_cons] at h
    split at h
    · rename_i hr
      cases j with
      | zero => simp at h
      | succ j => exact ih h'.2 (by simpa using h) (by simpa using hj)
    · rename_i hr0
      have hr0 : s < r.1 := by simpa using hr0
      cases j with
      | zero => exact hr0
      | succ j =>
        have := h'.1 _ (List.getElem_mem (by simpa using hj : j < l.length))
        simp only [List.getElem_cons_succ]
        omega

/-- which stay -/
theorem stays {s : Int} {l : List (Int × List Int)} (hr : Rising l) {k : Nat} (hk : k < l.length) :
    goneN s l ≤ k ↔ s < l[k].1 ∨ ((k + 1 = l.length ∨ ∃ h : k + 1 < l.length, s < l[k + 1].1) ∧ 0 < l[k].2.length) := by
  have hle := cntZ_le s l
  constructor
  · intro h
    by_cases hc : cntZ s l ≤ k
    · exact .inl (cntZ_above hr hc hk)
    · right
      have hg : goneN s l = cntZ s l - 1 ∧ 0 < (atZ s l).length := by
        unfold goneN at h ⊢
        split at h
        · rename_i h2; rw [if_pos h2]; exact ⟨rfl, h2.2⟩
        · omega
      have hk1 : k + 1 = cntZ s l := by omega
      have ha := atZ_pos (s := s) (l := l) (by omega) (by omega)
      refine ⟨?_, ?_⟩
      · by_cases he : k + 1 = l.length
        · exact .inl he
        · exact .inr ⟨by omega, cntZ_above hr (by omega) (by omega)⟩
      · have e : cntZ s l - 1 = k := by omega
        have := hg.2
        rw [ha] at this
        simpa only [e] using this
  · rintro (h | ⟨h1, h2⟩)
    · have : cntZ s l ≤ k := by
        refine Nat.le_of_not_lt fun hlt => ?_
        have := cntZ_below hlt hk
        omega
      unfold goneN
      split <;> omega
    · have hc : cntZ s l ≤ k + 1 := by
        rcases h1 with h1 | ⟨h1, h3⟩
        · omega
        · refine Nat.le_of_not_lt fun hlt => ?_
          have := cntZ_below hlt h1
          omega
      by_cases he : cntZ s l = k + 1
      · have ha := atZ_pos (s := s) (l := l) (by omega) (by omega)
        unfold goneN
        rw [if_pos ⟨by omega, by
          rw [ha]
          have e : cntZ s l - 1 = k := by omega
          simpa only [e] using h2⟩]
        omega
      · unfold goneN
        split <;> omega

/-- what the document's Sweep tells -/
def SweptTo (w : World) (F : Nat → Prop) (n : Nat) (l : List (Int × List Int)) (e : Ending) (w' : World) : Prop :=
  ∃ v1 v2, e = .returned (.tuple #[v1, v2]) ∧ RecsF w' (Plus F w w') v1 (l.drop n) ∧ Nums w' .u64 v2 ((l.take n).map (·.1)) ∧ (∀ b, v2.ownBlock = some b → w.heap.size ≤ b ∧ b < w'.heap.size) ∧ Below w.heap.size w w'

theorem drop_take_snoc {α : Type} (l : List α) (n k : Nat) (h : k < l.length) (hn : n ≤ k) : (l.take (k + 1)).drop n = (l.take k).drop n ++ [l[k]] := by
  rw [take_snoc l k h, List.drop_append_of_le_length (by simp; omega)]

theorem drop_take_none {α : Type} (l : List α) (n k : Nat) (hn : k < n) : (l.take (k + 1)).drop n = [] ∧ (l.take k).drop n = [] :=
  ⟨List.drop_eq_nil_of_le (by simp; omega), List.drop_eq_nil_of_le (by simp; omega)⟩

theorem take_take_snoc {α : Type} (l : List α) (n k : Nat) (h : k < l.length) (hn : k < n) : (l.take (k + 1)).take n = (l.take k).take n ++ [l[k]] := by
  rw [List.take_take, List.take_take, show min n (k + 1) = k + 1 by omega, show min n k = k by omega, take_snoc l k h]

theorem take_take_same {α : Type} (l : List α) (n k : Nat) (hn : n ≤ k) : (l.take (k + 1)).take n = (l.take k).take n := by
  rw [List.take_take, List.take_take, show min n (k + 1) = n by omega, show min n k = n by omega]

theorem keep_step {w W w5 : World} {n k g5 c5 : Nat} {u6 u7 : Value} {x : Int} {y : Value} {rs : List (Int × Value)} {l : List (Int × List Int)} {o : Obj} (hn : n ≤ k) (hk : k < rs.length) (hkl : k < l.length) (hrk : rs[k] = (x, y)) (hB : w.heap.size ≤ W.heap.size)
    (hown : W.ownsRow w.heap.size 44 2 u6 (k - n) (flat2 ((rs.take k).drop n))) (hgone : W.ownsRow w.heap.size 29 1 u7 (min k n) ((((l.take k).take n).map (·.1)).map (Value.int .u64))) (hb : Below w.heap.size w W)
    (hown5 : w5.ownsRow w.heap.size 44 2 (.slice (some ⟨g5, 0, none⟩) (k - n + 1) c5) (k - n + 1) (flat2 ((rs.take k).drop n) ++ (#[.int .u64 x, y] : Array Value).toList)) (hg5 : (W.alloc o).grownBy w5 u6.ownBlock) :
    w5.ownsRow w.heap.size 44 2 (.slice (some ⟨g5, 0, none⟩) (k - n + 1) c5) (k + 1 - n) (flat2 ((rs.take (k + 1)).drop n)) ∧ w5.ownsRow w.heap.size 29 1 u7 (min (k + 1) n) ((((l.take (k + 1)).take n).map (·.1)).map (Value.int .u64)) ∧ Below w.heap.size w w5 := by
  refine ⟨?_, ?_, (hb.alloc hB o).grown hg5 (by simp; omega) (fun b hb => (hown.lt b hb).1)⟩
  · rw [drop_take_snoc rs n k hk hn, hrk, flat2_snoc, show k + 1 - n = k - n + 1 by omega]; exact hown5
  · rw [take_take_same l n k hn, show min (k + 1) n = min k n by omega]
    exact (hgone.alloc o).kept hg5 (own_apart hgone hown (by decide))

theorem gone_step {w W w6 : World} {n k g6 c6 : Nat} {u6 u7 : Value} {x : Int} {rs : List (Int × Value)} {l : List (Int × List Int)} {o : Obj} (hn : k < n) (hkl : k < l.length) (hrk : l[k].1 = x) (hB : w.heap.size ≤ W.heap.size)
    (hown : W.ownsRow w.heap.size 44 2 u6 (k - n) (flat2 ((rs.take k).drop n))) (hgone : W.ownsRow w.heap.size 29 1 u7 (min k n) ((((l.take k).take n).map (·.1)).map (Value.int .u64))) (hb : Below w.heap.size w W)
    (hown6 : w6.ownsRow w.heap.size 29 1 (.slice (some ⟨g6, 0, none⟩) (min k n + 1) c6) (min k n + 1) ((((l.take k).take n).map (·.1)).map (Value.int .u64) ++ (#[.int .u64 x] : Array Value).toList)) (hg6 : (W.alloc o).grownBy w6 u7.ownBlock) :
    w6.ownsRow w.heap.size 44 2 u6 (k + 1 - n) (flat2 ((rs.take (k + 1)).drop n)) ∧ w6.ownsRow w.heap.size 29 1 (.slice (some ⟨g6, 0, none⟩) (min k n + 1) c6) (min (k + 1) n) ((((l.take (k + 1)).take n).map (·.1)).map (Value.int .u64)) ∧ Below w.heap.size w w6 := by
  refine ⟨?_, ?_, (hb.alloc hB o).grown hg6 (by simp; omega) (fun b hb => (hgone.lt b hb).1)⟩
  · rw [(drop_take_none rs n k hn).1, ← (drop_take_none rs n k hn).2, show k + 1 - n = k - n by omega]
    exact (hown.alloc o).kept hg6 (own_apart hown hgone (by decide))
  · rw [take_take_snoc l n k hkl hn, show min (k + 1) n = min k n + 1 by omega, List.map_append, List.map_append, ← hrk] at *
    exact hown6

set_option maxHeartbeats 4000000 in
theorem refSweep (l : List (Int × List Int)) (hr : Rising l) (s : Int) (v : Value) (F : Nat → Prop) (w : World) (h : RecsF w F v l) (hn : l.length ≤ 1000000) :
    Calls Try.prog 10 #[v, .int .u64 s] w (SweptTo w F (goneN s l) l) := by
  obtain ⟨p, cap, rfl, hcap, hbig, -, -⟩ := id h
  obtain ⟨rs, hrs, hsrc⟩ := h.rows
  have H := Lib.hid h
  have R := Lib.hid hrs
  have S := Lib.hid hsrc
  have ST := Lib.hid (fun k hk => stays (s := s) hr (k := k) hk)
  have hlen := hrs.len
  have gle := goneN_le s l
  generalize goneN s l = n at *
  clear h hcap hbig hrs hsrc hr
  go_enter Try.func10, Try.ntmps10
  go_wp2_with fail
  go_loopg [6, 7, 13] l.length (fun q out gone i wr => ∃ k : Nat, q = l.length - k ∧ k ≤ l.length ∧ i = .int .i64 k ∧ wr.ownsRow w.heap.size 44 2 out (k - n) (flat2 ((rs.take k).drop n)) ∧ wr.ownsRow w.heap.size 29 1 gone (min k n) ((((l.take k).take n).map (·.1)).map (Value.int .u64)) ∧ Below w.heap.size w wr)
  case atStart => exact ⟨0, rfl, by omega, rfl, by rw [Nat.zero_sub]; simpa [flat2] using World.ownsRow_nil w w.heap.size _ 2, by rw [Nat.zero_min]; simpa using World.ownsRow_nil w w.heap.size _ 1, Below.refl _ _⟩
  case round =>
    obtain ⟨k, rfl, hk, rfl, hown, hgone, hb⟩ := hrel
    have O := Lib.hid (And.intro hown (And.intro hgone hb))
    have hsz := hb.size
    by_cases hlt : k < l.length
    · obtain ⟨b, off, up, uc, hkr, rfl, hrk, c0, c1⟩ := rows_elem H.out R.out S.out hlt
      replace c0 := below_cells hb c0
      replace c1 := below_cells hb c1
      have K := Lib.hid hrk
      have hWsz : (wr.alloc (Obj.cells #[.int .u64 l[k].1, .slice up l[k].2.length uc] 44)).heap.size = wr.heap.size + 1 := by simp
      have hbW := hb.alloc hsz (Obj.cells #[.int .u64 l[k].1, .slice up l[k].2.length uc] 44)
      obtain ⟨g5, c5, w5, hrun, hown5, hg5, hat5, -⟩ := run_push rowRef (hown.alloc (Obj.cells #[.int .u64 l[k].1, .slice up l[k].2.length uc] 44)) (by simp; omega) #[.int .u64 l[k].1, .slice up l[k].2.length uc] rfl (by simp [Value.oneCell']) (by simp [maxLen]; omega) (by omega)
      obtain ⟨g6, c6, w6, hrun6, hown6, hg6, hat6, -⟩ := run_push rowU64 (hgone.alloc (Obj.cells #[.int .u64 l[k].1, .slice up l[k].2.length uc] 44)) (by simp; omega) #[.int .u64 l[k].1] rfl (by simp [Value.oneCell']) (by simp [maxLen]; omega) (by omega)
      rw [hWsz] at hrun hrun6
      have A5 := Lib.hid (fun hn => keep_step hn hkr hlt hrk (by rw [hWsz]; omega) (hown.alloc _) (hgone.alloc _) hbW hown5 hg5)
      have A6 := Lib.hid (fun hn => gone_step (rs := rs) hn hlt rfl (by rw [hWsz]; omega) (hown.alloc _) (hgone.alloc _) hbW hown6 hg6)
      have R5 := Lib.hid hrun
      have R6 := Lib.hid hrun6
      have D := Lib.hid (ST.out k hlt)
      clear hown hgone hb hown5 hg5 hat5 hown6 hg6 hat6 hrun hrun6 hWsz hbW hrk
      by_cases e1 : k + 1 = l.length
      · have hz : (((k : Int) + 1) == (l.length : Int)) = true := by rw [beq_iff_eq]; omega
        cases t3 : decide (s < l[k].1)
        · cases t4 : decide (0 < l[k].2.length)
          · have N : Hid (k < n) := Nat.lt_of_not_le fun hh => by
              have := D.out.1 hh
              rw [decide_eq_false_iff_not] at t3 t4
              rcases this with h | h
              · exact t3 h
              · exact t4 h.2
            go_wp2_with (refine wpList_append_eq R6.out rfl _ _ rfl rfl rfl ?_)
            go_roundg (l.length - (k + 1))
            case measure => omega
            case rel =>
              have X := A6.out N.out
              exact ⟨k + 1, rfl, by omega, by go_num, X.1, X.2.1, X.2.2⟩
          · have N : Hid (n ≤ k) := D.out.2 (.inr ⟨.inl e1, by simpa using t4⟩)
            go_wp2_with (refine wpList_append_eq R5.out rfl _ _ rfl rfl rfl ?_)
            go_roundg (l.length - (k + 1))
            case measure => omega
            case rel =>
              have X := A5.out N.out
              exact ⟨k + 1, rfl, by omega, by go_num, X.1, X.2.1, X.2.2⟩
        · have N : Hid (n ≤ k) := D.out.2 (.inl (by simpa using t3))
          go_wp2_with (refine wpList_append_eq R5.out rfl _ _ rfl rfl rfl ?_)
          go_roundg (l.length - (k + 1))
          case measure => omega
          case rel =>
            have X := A5.out N.out
            exact ⟨k + 1, rfl, by omega, by go_num, X.1, X.2.1, X.2.2⟩
      · have hz : (((k : Int) + 1) == (l.length : Int)) = false := by rw [beq_eq_false_iff_ne]; omega
        have hk1 : k + 1 < l.length := by omega
        obtain ⟨b', off', up', uc', -, hp', -, f0, f1⟩ := rows_elem H.out R.out S.out hk1
        obtain ⟨rfl, rfl⟩ : b = b' ∧ off = off' := by simpa using hp'
        replace f0 := below_cells O.out.2.2 f0
        clear f1 hp'
        have fb : b < wr.heap.size := lt_of_cell f0
        cases t2 : decide (s < l[k + 1].1)
        · cases t3 : decide (s < l[k].1)
          · have N : Hid (k < n) := Nat.lt_of_not_le fun hh => by
              have := D.out.1 hh
              rw [decide_eq_false_iff_not] at t3 t2
              rcases this with h | ⟨h | ⟨_, h⟩, _⟩
              · exact t3 h
              · exact e1 h
              · exact t2 h
            go_wp2_with (refine wpList_append_eq R6.out rfl _ _ rfl rfl rfl ?_)
            go_roundg (l.length - (k + 1))
            case measure => omega
            case rel =>
              have X := A6.out N.out
              exact ⟨k + 1, rfl, by omega, by go_num, X.1, X.2.1, X.2.2⟩
          · have N : Hid (n ≤ k) := D.out.2 (.inl (by simpa using t3))
            go_wp2_with (refine wpList_append_eq R5.out rfl _ _ rfl rfl rfl ?_)
            go_roundg (l.length - (k + 1))
            case measure => omega
            case rel =>
              have X := A5.out N.out
              exact ⟨k + 1, rfl, by omega, by go_num, X.1, X.2.1, X.2.2⟩
        · have L2 : Hid (∃ h : k + 1 < l.length, s < l[k + 1].1) := ⟨hk1, by simpa using t2⟩
          cases t3 : decide (s < l[k].1)
          · cases t4 : decide (0 < l[k].2.length)
            · have N : Hid (k < n) := Nat.lt_of_not_le fun hh => by
                have := D.out.1 hh
                rw [decide_eq_false_iff_not] at t3 t4
                rcases this with h | h
                · exact t3 h
                · exact t4 h.2
              go_wp2_with (refine wpList_append_eq R6.out rfl _ _ rfl rfl rfl ?_)
              go_roundg (l.length - (k + 1))
              case measure => omega
              case rel =>
                have X := A6.out N.out
                exact ⟨k + 1, rfl, by omega, by go_num, X.1, X.2.1, X.2.2⟩
            · have N : Hid (n ≤ k) := D.out.2 (.inr ⟨.inr L2.out, by simpa using t4⟩)
              go_wp2_with (refine wpList_append_eq R5.out rfl _ _ rfl rfl rfl ?_)
              go_roundg (l.length - (k + 1))
              case measure => omega
              case rel =>
                have X := A5.out N.out
                exact ⟨k + 1, rfl, by omega, by go_num, X.1, X.2.1, X.2.2⟩
          · have N : Hid (n ≤ k) := D.out.2 (.inl (by simpa using t3))
            go_wp2_with (refine wpList_append_eq R5.out rfl _ _ rfl rfl rfl ?_)
            go_roundg (l.length - (k + 1))
            case measure => omega
            case rel =>
              have X := A5.out N.out
              exact ⟨k + 1, rfl, by omega, by go_num, X.1, X.2.1, X.2.2⟩
    · obtain rfl : l.length = k := by omega
      clear hown hgone hb
      go_wp2_with fail
      go_ret2
      refine ⟨_, _, rfl, ?_, ?_, O.out.2.1.lt, O.out.2.2⟩
      · have ho := O.out.1
        rw [← hlen, List.take_length] at ho
        exact (((R.out.drop n).below O.out.2.2).mono fun _ => .inl).recs ho fun b hb => .inr (ho.lt b hb)
      · have ho := O.out.2.1
        rw [List.take_length] at ho
        exact Nums.of_own ho

end Go.Proofs.Ytpoophimfjfgkaa
