/-
  slices.Sorted(maps.Keys(m)) at uint64.
-/
import Derived.Test.YtdbeekdnehojnaaJ20
import Derived.Test.YtdbeekdnehojnaaJ02
import Derived.Shelf.Abstract
namespace Go.Proofs.Ytdbeekdnehojnaa
open Go.RowKit Go.Maps Go.Sort Go.ChangeMaps

def iterLeft (w : World) (b r : Nat) : Nat :=
  match w.heap[b]?, w.heap[r]? with
  | some (.map es _), some (.mapIter _ _ seen _) => (es.toList.filter fun e => !seen.contains e.born).length
  | _, _ => 0

theorem IterAt.left_eq {α : Type} {mk : α → Value} {w : World} {b r : Nat} {L R : List (α × Value)} (h : IterAt w mk b r L R) : iterLeft w b r = R.length := by
  obtain ⟨es, c, s, h1, h2, h3⟩ := h
  simp only [iterLeft, h1.obj, h2]
  simpa using congrArg List.length h3

theorem IterAt.walk {α : Type} {mk : α → Value} {w : World} {b r : Nat} {L R : List (α × Value)} (h : IterAt w mk b r L R) : ∃ o : Obj, w.heap[r]? = some o ∧ o.isWalk = true := by
  obtain ⟨es, c, s, h1, h2, h3⟩ := h
  exact ⟨_, h2, rfl⟩

theorem IterAt.walks {α : Type} {mk : α → Value} {w w' : World} {b r : Nat} {L R : List (α × Value)} (h : IterAt w mk b r L R) (hk : KeepsWalks w w') : IterAt w' mk b r L R := by
  have h' := h
  obtain ⟨es, c, s, h1, h2, h3⟩ := h
  exact h'.kept ((hk.same b _ h1.obj rfl).trans h1.obj.symm) ((hk.same r _ h2 rfl).trans h2.symm)

theorem sort_perm {ss ts : List Int} (h : ss.Perm ts) : (ss.mergeSort fun x y => decide (x ≤ y)) = ts.mergeSort fun x y => decide (x ≤ y) := by
  refine List.Perm.eq_of_pairwise (le := fun x y => decide (x ≤ y) = true) (fun a b _ _ h1 h2 => by simp at h1 h2; omega) ?_ ?_ ?_
  · exact List.pairwise_mergeSort (fun a b c h1 h2 => by simp at h1 h2 ⊢; omega) (fun a b => by simp; omega) ss
  · exact List.pairwise_mergeSort (fun a b c h1 h2 => by simp at h1 h2 ⊢; omega) (fun a b => by simp; omega) ts
  · exact ((List.mergeSort_perm ss _).trans h).trans (List.mergeSort_perm ts _).symm

theorem sortsU (m : Nat) : SortsIn Fence.wide m :=
  ⟨fun blk off cap ss W hH hblk hsz => callsIn_wide.2 (srt blk off cap ss W hH hblk hsz), fun p cap W => callsIn_wide.2 (srt_Sort_int_nil p cap W)⟩

set_option maxRecDepth 100000 in
set_option maxHeartbeats 1000000 in
theorem keysA1 (F : Fence) (n : Nat) (h10 : F.fn 43) (hro : F.round = none) (hn : 1 ≤ n) (l Bm b : Nat) (L : List (Int × Value)) (J : List Int → World → Prop)
    (hY : ∀ pre x W, J pre W → pre.length < L.length → YieldAt F (n - 1) Try.prog l #[encU x] W fun e W' => e = .returned (.bool true) ∧ J (pre ++ [x]) W' ∧ KeepsWalks W W')
    (W : World) (hJ : AbidesFrom W.heap.size J) (hm : W.cell? ⟨Bm, 0, none⟩ = some (.map (some b))) (hown : MapAt W (Value.int .u64) b L) (h0 : J [] W) :
    CallsIn F n Try.prog 43 #[.func (.yield l) #[] #[], .pointer (some ⟨Bm, 0, none⟩)] W fun e W' => (∃ v, e = .returned v) ∧ ∃ ss : List Int, ss.Perm (L.map (·.1)) ∧ J ss W' := by
  refine callsIn_of_wp Try.func43 rfl h10 ?_ hro
  simp only [Try.ntmps43, List.size_toArray, List.length_cons, List.length_nil, Nat.reduceAdd, Nat.reduceSub, Array.replicate_succ, Array.replicate_zero, List.push_toArray, List.append_toArray, List.nil_append, List.cons_append]
  obtain ⟨w0, hr0, hit0, hg0, hs0⟩ := run_range (P := Try.prog) Try.underlying45 hown
  gi_wp2
  clear hr0
  gi_loopw [3] (fun _ wr => ∃ (R : List (Int × Value)) (ss : List Int), IterAt wr (Value.int .u64) b W.heap.size L R ∧ (ss ++ R.map (·.1)).Perm (L.map (·.1)) ∧ J ss wr)
    (fun _ wr => iterLeft wr b W.heap.size)
  case atStart => exact ⟨L, [], hit0, by simp, hJ [] W w0 none h0 hg0 (fun r e => by cases e)⟩
  case round =>
    obtain ⟨R, ss, hit, hp, hJs⟩ := hrel
    by_cases hR : R = []
    · subst hR
      have hnx := fun ty => run_next_over (P := Try.prog) hit ty
      gi_wp2
      go_end0
      exact ⟨⟨_, rfl⟩, ss, by simpa using hp, hJs⟩
    · obtain ⟨w2, R1, a, v, R2, hnx, rfl, hit2, hen, hg2, hs2⟩ := run_next_some (P := Try.prog) hit hR
      have hent := run_entry (P := Try.prog) hen
      have hJ2 : J ss w2 := hJ ss wr w2 (some W.heap.size) hJs hg2 (fun r e => by cases e; exact ⟨Nat.le_refl _, hit.walk⟩)
      have hlen : ss.length < L.length := by
        have := hp.length_eq
        simp at this
        omega
      obtain ⟨fn, tmps, assign, body, hy, hR'⟩ := hY ss a w2 hJ2 hlen
      simp only [encU] at hy
      clear hs2 hg2
      gi_wp2
      refine hR'.mono ?_
      rintro e W3 ⟨rfl, hJ3, hk3⟩
      gi_wp2
      have hit3 := hit2.walks hk3
      go_roundw
      case rel => exact ⟨R1 ++ R2, ss ++ [a], hit3, by refine List.Perm.trans ?_ hp; simp only [List.map_append, List.map_cons, List.append_assoc, List.singleton_append, List.append_cancel_left_eq]; exact List.Perm.append_left ss List.perm_middle.symm, hJ3⟩
      case measure => rw [hit3.left_eq, hit.left_eq]; simp

theorem keysAGives (F : Fence) (n : Nat) (h10 : F.fn 43) (hro : F.round = none) (hn : 1 ≤ n) (Bm b : Nat) (L : List (Int × Value)) (w : World) (hBm : Bm < w.heap.size)
    (hm : w.cell? ⟨Bm, 0, none⟩ = some (.map (some b))) (hown : MapAt w (Value.int .u64) b L) :
    SeqGives F n Try.prog 43 #[.pointer (some ⟨Bm, 0, none⟩)] encU (fun ss => ss.Perm (L.map (·.1))) L.length w := fun l J W hW hJ hY h0 =>
  keysA1 F n h10 hro hn l Bm b L J hY W hJ ((hW.cell (p := ⟨Bm, 0, none⟩) hBm).trans hm) (hown.kept (hW.block b hown.lt)) h0

theorem keysA (mb : Option Nat) (w : World) :
    Calls Try.prog 35 #[.map mb] w fun e w' => e = .returned (.func (.func 43) #[] #[.pointer (some ⟨w.heap.size, 0, none⟩)]) ∧ w' = w.alloc (.cells #[.map mb] 45) := by
  go_enter Try.func35, Try.ntmps35
  go_wp2
  go_ret
  exact ⟨rfl, rfl⟩

/-- slices.Sorted(maps.Keys(m)): the iterator's value is what keysA hands back -/
theorem sortedKeysA (Bm b : Nat) (L : List (Int × Value)) (w : World) (hBm : Bm < w.heap.size) (hm : w.cell? ⟨Bm, 0, none⟩ = some (.map (some b))) (hown : MapAt w (Value.int .u64) b L) (hmax : L.length ≤ 1000000) :
    Calls Try.prog 34 #[.func (.func 43) #[] #[.pointer (some ⟨Bm, 0, none⟩)]] w fun e w' => ∃ v : Value, e = .returned v ∧
      w'.ownsRow w.heap.size 31 1 v L.length (((L.map (·.1)).mergeSort fun x y => decide (x ≤ y)).map (Value.int .u64)) ∧ Below w.heap.size w w' := by
  refine (callsIn_wide (n := 5)).1 ?_
  refine (sorted_in Fence.wide 5 trivial trivial trivial trivial rfl (by omega) (sortsU _) (enters_of Try.func42 (by kernel_rfl) rfl) 43 #[.pointer (some ⟨Bm, 0, none⟩)] trivial (enters_of Try.func43 (by kernel_rfl) rfl) _ L.length (by have : maxLen = 9223372036854775807 := rfl; omega) (by omega) w (keysAGives Fence.wide _ trivial rfl (by omega) Bm b L w hBm hm hown)).mono ?_
  rintro e w' ⟨v, ss, rfl, hp, hrow, -, hb⟩
  have h1 : ss.length = L.length := by simpa using hp.length_eq
  rw [h1, sort_perm hp] at hrow
  exact ⟨v, rfl, hrow, hb⟩

set_option maxRecDepth 100000 in
set_option maxHeartbeats 1000000 in
theorem keysB1 (F : Fence) (n : Nat) (h10 : F.fn 44) (hro : F.round = none) (hn : 1 ≤ n) (l Bm b : Nat) (L : List (Int × Value)) (J : List Int → World → Prop)
    (hY : ∀ pre x W, J pre W → pre.length < L.length → YieldAt F (n - 1) Try.prog l #[encU x] W fun e W' => e = .returned (.bool true) ∧ J (pre ++ [x]) W' ∧ KeepsWalks W W')
    (W : World) (hJ : AbidesFrom W.heap.size J) (hm : W.cell? ⟨Bm, 0, none⟩ = some (.map (some b))) (hown : MapAt W (Value.int .u64) b L) (h0 : J [] W) :
    CallsIn F n Try.prog 44 #[.func (.yield l) #[] #[], .pointer (some ⟨Bm, 0, none⟩)] W fun e W' => (∃ v, e = .returned v) ∧ ∃ ss : List Int, ss.Perm (L.map (·.1)) ∧ J ss W' := by
  refine callsIn_of_wp Try.func44 rfl h10 ?_ hro
  simp only [Try.ntmps44, List.size_toArray, List.length_cons, List.length_nil, Nat.reduceAdd, Nat.reduceSub, Array.replicate_succ, Array.replicate_zero, List.push_toArray, List.append_toArray, List.nil_append, List.cons_append]
  obtain ⟨w0, hr0, hit0, hg0, hs0⟩ := run_range (P := Try.prog) Try.underlying55 hown
  gi_wp2
  clear hr0
  gi_loopw [3] (fun _ wr => ∃ (R : List (Int × Value)) (ss : List Int), IterAt wr (Value.int .u64) b W.heap.size L R ∧ (ss ++ R.map (·.1)).Perm (L.map (·.1)) ∧ J ss wr)
    (fun _ wr => iterLeft wr b W.heap.size)
  case atStart => exact ⟨L, [], hit0, by simp, hJ [] W w0 none h0 hg0 (fun r e => by cases e)⟩
  case round =>
    obtain ⟨R, ss, hit, hp, hJs⟩ := hrel
    by_cases hR : R = []
    · subst hR
      have hnx := fun ty => run_next_over (P := Try.prog) hit ty
      gi_wp2
      go_end0
      exact ⟨⟨_, rfl⟩, ss, by simpa using hp, hJs⟩
    · obtain ⟨w2, R1, a, v, R2, hnx, rfl, hit2, hen, hg2, hs2⟩ := run_next_some (P := Try.prog) hit hR
      have hent := run_entry (P := Try.prog) hen
      have hJ2 : J ss w2 := hJ ss wr w2 (some W.heap.size) hJs hg2 (fun r e => by cases e; exact ⟨Nat.le_refl _, hit.walk⟩)
      have hlen : ss.length < L.length := by
        have := hp.length_eq
        simp at this
        omega
      obtain ⟨fn, tmps, assign, body, hy, hR'⟩ := hY ss a w2 hJ2 hlen
      simp only [encU] at hy
      clear hs2 hg2
      gi_wp2
      refine hR'.mono ?_
      rintro e W3 ⟨rfl, hJ3, hk3⟩
      gi_wp2
      have hit3 := hit2.walks hk3
      go_roundw
      case rel => exact ⟨R1 ++ R2, ss ++ [a], hit3, by refine List.Perm.trans ?_ hp; simp only [List.map_append, List.map_cons, List.append_assoc, List.singleton_append, List.append_cancel_left_eq]; exact List.Perm.append_left ss List.perm_middle.symm, hJ3⟩
      case measure => rw [hit3.left_eq, hit.left_eq]; simp

theorem keysBGives (F : Fence) (n : Nat) (h10 : F.fn 44) (hro : F.round = none) (hn : 1 ≤ n) (Bm b : Nat) (L : List (Int × Value)) (w : World) (hBm : Bm < w.heap.size)
    (hm : w.cell? ⟨Bm, 0, none⟩ = some (.map (some b))) (hown : MapAt w (Value.int .u64) b L) :
    SeqGives F n Try.prog 44 #[.pointer (some ⟨Bm, 0, none⟩)] encU (fun ss => ss.Perm (L.map (·.1))) L.length w := fun l J W hW hJ hY h0 =>
  keysB1 F n h10 hro hn l Bm b L J hY W hJ ((hW.cell (p := ⟨Bm, 0, none⟩) hBm).trans hm) (hown.kept (hW.block b hown.lt)) h0

theorem keysB (mb : Option Nat) (w : World) :
    Calls Try.prog 37 #[.map mb] w fun e w' => e = .returned (.func (.func 44) #[] #[.pointer (some ⟨w.heap.size, 0, none⟩)]) ∧ w' = w.alloc (.cells #[.map mb] 55) := by
  go_enter Try.func37, Try.ntmps37
  go_wp2
  go_ret
  exact ⟨rfl, rfl⟩

/-- slices.Sorted(maps.Keys(m)): the iterator's value is what keysB hands back -/
theorem sortedKeysB (Bm b : Nat) (L : List (Int × Value)) (w : World) (hBm : Bm < w.heap.size) (hm : w.cell? ⟨Bm, 0, none⟩ = some (.map (some b))) (hown : MapAt w (Value.int .u64) b L) (hmax : L.length ≤ 1000000) :
    Calls Try.prog 34 #[.func (.func 44) #[] #[.pointer (some ⟨Bm, 0, none⟩)]] w fun e w' => ∃ v : Value, e = .returned v ∧
      w'.ownsRow w.heap.size 31 1 v L.length (((L.map (·.1)).mergeSort fun x y => decide (x ≤ y)).map (Value.int .u64)) ∧ Below w.heap.size w w' := by
  refine (callsIn_wide (n := 5)).1 ?_
  refine (sorted_in Fence.wide 5 trivial trivial trivial trivial rfl (by omega) (sortsU _) (enters_of Try.func42 (by kernel_rfl) rfl) 44 #[.pointer (some ⟨Bm, 0, none⟩)] trivial (enters_of Try.func44 (by kernel_rfl) rfl) _ L.length (by have : maxLen = 9223372036854775807 := rfl; omega) (by omega) w (keysBGives Fence.wide _ trivial rfl (by omega) Bm b L w hBm hm hown)).mono ?_
  rintro e w' ⟨v, ss, rfl, hp, hrow, -, hb⟩
  have h1 : ss.length = L.length := by simpa using hp.length_eq
  rw [h1, sort_perm hp] at hrow
  exact ⟨v, rfl, hrow, hb⟩

end Go.Proofs.Ytdbeekdnehojnaa
