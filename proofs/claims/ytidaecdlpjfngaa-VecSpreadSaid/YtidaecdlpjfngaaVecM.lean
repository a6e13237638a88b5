import Derived.Test.YtidaecdlpjfngaaVecK
import Derived.Test.YtidaecdlpjfngaaVecJ
import Derived.Test.YtidaecdlpjfngaaMapsB
namespace Go.Proofs.Ytidaecdlpjfngaa
open Go.RowKit

/-- how many of the first k have the shard a -/
def cnt (x n : Int) (a : Int) : Nat → Nat
  | 0 => 0
  | k + 1 => cnt x n a k + if homeZ (x + k) n = a then 1 else 0

theorem cnt_le (x n a : Int) (k : Nat) : cnt x n a k ≤ k := by
  induction k with
  | zero => simp [cnt]
  | succ k ih => simp only [cnt]; split <;> omega

theorem cnt_full (x n a : Int) (k : Nat) (h : cnt x n a k = k) : ∀ j : Nat, j < k → homeZ (x + j) n = a := by
  induction k with
  | zero => omega
  | succ k ih =>
    have h1 := cnt_le x n a k
    simp only [cnt] at h
    split at h
    · rename_i hk
      intro j hj
      by_cases e : j = k
      · subst e; exact hk
      · exact ih (by omega) j (by omega)
    · omega

/-- what the map holds behind k of them -/
def tally (x n : Int) : Nat → List (Int × Value)
  | 0 => []
  | k + 1 => putK (tally x n k) (homeZ (x + k) n) (.int .i64 ((cnt x n (homeZ (x + k) n) k : Nat) + 1 : Int))

theorem getK_tally (x n a : Int) (k : Nat) : getK (tally x n k) a = if cnt x n a k = 0 then none else some (.int .i64 (cnt x n a k : Nat)) := by
  induction k with
  | zero => simp [tally, cnt, getK]
  | succ k ih =>
    simp only [tally, getK_put, cnt]
    by_cases h : a = homeZ (x + k) n
    · subst h
      simp
    · have h' : ¬ homeZ (x + k) n = a := fun e => h e.symm
      simp [h, h', ih]

theorem mem_getK {α : Type} [DecidableEq α] {L : List (α × Value)} (hn : (L.map (·.1)).Nodup) {a : α} {v : Value} (h : (a, v) ∈ L) : getK L a = some v := by
  unfold getK
  induction L with
  | nil => simp at h
  | cons p L ih =>
    simp only [List.map_cons, List.nodup_cons] at hn
    rcases List.mem_cons.1 h with h | h
    · subst h; simp
    · have : p.1 ≠ a := fun e => hn.1 (List.mem_map.2 ⟨_, h, e.symm⟩)
      simp only [List.find?_cons, this, decide_false]
      exact ih hn.2 h

theorem tally_mem {x n a : Int} {v : Value} (hn : n = 2 ∨ n = 3 ∨ n = 4) (hnd : ((tally x n 64).map (·.1)).Nodup) (h : (a, v) ∈ tally x n 64) :
    0 ≤ a ∧ a < n ∧ ∃ c : Nat, v = .int .i64 c ∧ c < 64 := by
  have hg := mem_getK hnd h
  rw [getK_tally] at hg
  split at hg
  · cases hg
  · rename_i h0
    simp only [Option.some.injEq] at hg
    have hle := cnt_le x n a 64
    have hlt : cnt x n a 64 < 64 := by
      refine Nat.lt_of_le_of_ne hle fun he => ?_
      have hall := cnt_full x n a 64 he
      obtain ⟨j, hj, hne⟩ := spread x n hn
      have h1 := hall j (by omega)
      have h2 := hall 0 (by omega)
      simp only [Int.natCast_zero, Int.add_zero] at h2
      exact hne (by rw [h1, h2])
    have hex : ∃ j : Nat, homeZ (x + j) n = a := by
      refine Classical.byContradiction fun hno => h0 ?_
      have : ∀ k, cnt x n a k = 0 := by
        intro k
        induction k with
        | zero => rfl
        | succ k ih => simp only [cnt]; rw [ih, if_neg fun e => hno ⟨k, e⟩]
      exact this 64
    obtain ⟨j, hj⟩ := hex
    have hr := home_range (x + j) n (by omega)
    exact ⟨by omega, by omega, _, hg.symm, hlt⟩

theorem zeroInt (w : World) : (zeroValue 3).run Try.prog w = .ok (.int .i64 0) w := by kernel_rfl

theorem vecSpread (frm shards : Int) (w : World) (hf : 0 ≤ frm ∧ frm ≤ 18446744073709551615) (hs : 0 ≤ shards ∧ shards ≤ 255) :
    Calls Try.prog 4 #[.int .u64 frm, .int .u8 shards] w fun r w' => r = .returned (.bool true) ∧ Below w.heap.size w w' := by
  have hn : 2 ≤ 2 + shards % 3 ∧ 2 + shards % 3 ≤ 4 := by omega
  have hx : 0 ≤ frm % 1099511627776 ∧ frm % 1099511627776 < 1099511627776 := by omega
  have KO : KeyOf Try.prog 3 (Value.int .i64) := int_keyOf Try.underlying3
  have hmm := @run_makeMap Try.prog
  go_enter Try.func4, Try.ntmps4
  go_wp2_with fail
  refine (awake_true _).mono ?_
  rintro r w1 ⟨rfl, hb1⟩
  have B1 := Lib.hid hb1
  clear hb1
  go_wp2_with fail
  have M1 := Lib.hid (MapAt.made (mk := Value.int .i64) w1)
  go_loopw [7, 17] (fun _ i wr => ∃ k : Nat, k ≤ 64 ∧ i = .int .u64 k ∧ MapAt wr (Value.int .i64) w1.heap.size (tally (frm % 1099511627776) (2 + shards % 3) k) ∧ Below w.heap.size w wr) (fun _ i _ => 64 - (intOf i).toNat)
  case atStart => exact ⟨0, by omega, rfl, M1.out, B1.out.alloc B1.out.size _⟩
  case round =>
    obtain ⟨k, hk, rfl, hm, hb⟩ := hrel
    by_cases hlt : k < 64
    · have hh := home_yes (frm % 1099511627776 + k) (2 + shards % 3)
      have hl := run_look KO Try.underlying30 hm (zeroInt wr) (homeZ (frm % 1099511627776 + k) (2 + shards % 3)) false
      have hv : (getK (tally (frm % 1099511627776) (2 + shards % 3) k) (homeZ (frm % 1099511627776 + k) (2 + shards % 3))).getD (.int .i64 0) = .int .i64 (cnt (frm % 1099511627776) (2 + shards % 3) (homeZ (frm % 1099511627776 + k) (2 + shards % 3)) k : Nat) := by
        rw [getK_tally]
        split
        · rename_i h0; rw [h0]; rfl
        · rfl
      have hc := cnt_le (frm % 1099511627776) (2 + shards % 3) (homeZ (frm % 1099511627776 + k) (2 + shards % 3)) k
      simp only [Bool.false_eq_true, if_false] at hl
      rw [hv] at hl
      obtain ⟨w2, hp, hm2, hg2, -⟩ := run_put KO Try.underlying30 hm (homeZ (frm % 1099511627776 + k) (2 + shards % 3)) (.int .i64 ((cnt (frm % 1099511627776) (2 + shards % 3) (homeZ (frm % 1099511627776 + k) (2 + shards % 3)) k : Nat) + 1 : Int))
      have A := Lib.hid (show MapAt w2 (Value.int .i64) w1.heap.size (tally (frm % 1099511627776) (2 + shards % 3) (k + 1)) ∧ Below w.heap.size w w2 from ⟨hm2, hb.grown hg2 hb.size (by rintro j ⟨⟩; exact B1.out.size)⟩)
      clear hm hb hm2 hg2 hv
      generalize cnt (frm % 1099511627776) (2 + shards % 3) (homeZ (frm % 1099511627776 + k) (2 + shards % 3)) k = c at *
      generalize homeZ (frm % 1099511627776 + k) (2 + shards % 3) = a at *
      have HH := Lib.hid hh
      clear hh
      go_wp2_with (go_at_call 14; refine (HH.out _ (by omega) (by omega)).mono ?_; rintro e w' ⟨rfl, rfl⟩)
      go_roundw
      case rel => exact ⟨k + 1, by omega, by go_num, A.out⟩
      case measure => simp [intOf]; omega
    · obtain rfl : k = 64 := by omega
      rw [show ((64 : Nat) : Int) = 64 from rfl]
      obtain ⟨wo, rfl⟩ : ∃ wo : World, wo = wr := ⟨_, rfl⟩
      have X := Lib.hid (And.intro hm hb)
      obtain ⟨w2, hr, hi, hg, hsz⟩ := run_range Try.underlying30 hm
      have hlt2 := hm.lt
      have hnd : ((tally (frm % 1099511627776) (2 + shards % 3) 64).map (·.1)).Nodup := by obtain ⟨_, _, h⟩ := hm; exact h.keys
      have I := Lib.hid (show IterAt w2 (Value.int .i64) w1.heap.size wo.heap.size (tally (frm % 1099511627776) (2 + shards % 3) 64) (tally (frm % 1099511627776) (2 + shards % 3) 64) ∧ Below w.heap.size w w2 from ⟨hi, hb.grown hg hb.size (by simp)⟩)
      have N := Lib.hid hnd
      have hwr : w.heap.size ≤ wo.heap.size := hb.size
      clear hm hb hi hg hnd X
      go_wp2
      go_loopg [8] (tally (frm % 1099511627776) (2 + shards % 3) 64).length (fun q _ wq => ∃ R, R.length = q ∧ (∀ p ∈ R, p ∈ tally (frm % 1099511627776) (2 + shards % 3) 64) ∧ IterAt wq (Value.int .i64) w1.heap.size wo.heap.size (tally (frm % 1099511627776) (2 + shards % 3) 64) R ∧ Below w.heap.size w wq)
      case atStart => exact ⟨_, rfl, fun p hp => hp, I.out⟩
      case round =>
        obtain ⟨R, hq, hR, hi, hb⟩ := hrel
        cases R with
        | nil =>
          have hnx := run_next_over (P := Try.prog) hi
          have F := Lib.hid hb
          clear hi hb hq hR
          go_wp2
          go_ret
          exact ⟨rfl, F.out⟩
        | cons p R =>
          obtain ⟨w3, R1, a, v, R2, hnx, hsp, hi3, he3, hg3, -⟩ := run_next_some (P := Try.prog) hi (by simp)
          have hen := run_entry (P := Try.prog) he3
          have hmem := hR (a, v) (by rw [hsp]; simp)
          obtain ⟨ha0, han, c, rfl, hc64⟩ := tally_mem (by omega) N.out hmem
          have F := Lib.hid (show (R1 ++ R2).length < gk ∧ (∀ p ∈ R1 ++ R2, p ∈ tally (frm % 1099511627776) (2 + shards % 3) 64) ∧ IterAt w3 (Value.int .i64) w1.heap.size wo.heap.size (tally (frm % 1099511627776) (2 + shards % 3) 64) (R1 ++ R2) ∧ Below w.heap.size w w3 from
            ⟨by rw [← hq, hsp]; simp, fun p hp => hR p (by rw [hsp]; simp at hp ⊢; rcases hp with hp | hp <;> simp [hp]), hi3, hb.grown hg3 hb.size (by rintro j ⟨⟩; exact hwr)⟩)
          clear hi hb hq hR hsp hi3 he3 hg3 hmem
          have hc : ((c : Int) == 64) = false := by simp; omega
          have hd1 : decide (a < 0) = false := by simp; omega
          have hd2 : decide (2 + shards % 3 ≤ a) = false := by simp; omega
          go_wp2
          go_roundg (R1 ++ R2).length
          case measure => exact F.out.1
          case rel => exact ⟨_, rfl, F.out.2⟩

end Go.Proofs.Ytidaecdlpjfngaa
