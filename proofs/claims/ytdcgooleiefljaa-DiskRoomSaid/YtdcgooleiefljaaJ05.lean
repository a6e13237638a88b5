/-
  disk: the shelf's contracts laid at this program; the keys of a map of strings.
-/
import Derived.Test.YtdcgooleiefljaaJ04
import Derived.Shelf.SlIter.Nil
import Derived.Shelf.SlIter.Sorted
import Derived.Shelf.SortM.Plain
import Derived.Shelf.SortM.SortNone
import Derived.Shelf.Bytes.SlJoin
import Derived.Shelf.Bytes.SlClone
import Derived.Shelf.Abstract
namespace Go.Proofs.Ytdcgooleiefljaa
open Go.RowKit Go.Maps Go.Sort Go.ChangeMaps Go.Shelf

def laySorted_ren : Go.Shelf.Ren := ⟨fun x => match x with | 6 => 27 | 8 => 37 | 9 => 38 | 11 => 40 | _ => 0, fun x => match x with | 0 => 0 | 24 => 29 | 26 => 9 | 28 => 66 | 33 => 62 | _ => 0, fun x => x⟩

theorem laySorted : SlLaysZ.n6 Try.prog laySorted_ren where
  mixed := by kernel_rfl
  f6 := ⟨ "slices.Sorted[string]", by decide, Try.func27.trans (congrArg some (by kernel_rfl))⟩
  f8 := ⟨ "slices.Collect[string]", by decide, Try.func37.trans (congrArg some (by kernel_rfl))⟩
  f11 := ⟨ "slices.AppendSeq[[]string,string]", by decide, Try.func40.trans (congrArg some (by kernel_rfl))⟩
  t0 := Try.underlying0
  a0 := Try.isAgg0
  z0 := Try.sizeOf0
  v0 := Try.zeroValue0
  t24 := Try.underlying29
  a24 := Try.isAgg29
  z24 := Try.sizeOf29
  v24 := Try.zeroValue29
  t26 := Try.underlying9
  a26 := Try.isAgg9
  z26 := Try.sizeOf9
  v26 := Try.zeroValue9
  t28 := Try.underlying66
  a28 := Try.isAgg66
  z28 := Try.sizeOf66
  v28 := Try.zeroValue66
  i26 := by kernel_rfl


def laySort_ren : Go.Shelf.Ren := ⟨fun x => match x with | 6 => 38 | 8 => 42 | 9 => 41 | 19 => 52 | 20 => 53 | 21 => 43 | 22 => 44 | 23 => 45 | 24 => 46 | 25 => 47 | 26 => 48 | 27 => 49 | 28 => 50 | 29 => 51 | 31 => 55 | 32 => 56 | 36 => 54 | 37 => 57 | 38 => 58 | 39 => 59 | 41 => 60 | _ => 0, fun x => match x with | 0 => 0 | 3 => 3 | 4 => 4 | 5 => 5 | 9 => 9 | 26 => 29 | 27 => 29 | 29 => 9 | 32 => 75 | 35 => 77 | 36 => 78 | 41 => 83 | 44 => 86 | 46 => 88 | 53 => 89 | 57 => 93 | 63 => 95 | 64 => 96 | _ => 0, fun x => x⟩

theorem laySort : SlLaysM.n6 Try.prog laySort_ren where
  mixed := by kernel_rfl
  f6 := ⟨ "slices.Sort[[]string,string]", by decide, Try.func38.trans (congrArg some (by kernel_rfl))⟩
  f8 := Try.func42.trans (congrArg some (by kernel_rfl))
  f9 := ⟨ "slices.pdqsortOrdered[string]", by decide, Try.func41.trans (congrArg some (by kernel_rfl))⟩
  f19 := Try.func52.trans (congrArg some (by kernel_rfl))
  f20 := Try.func53.trans (congrArg some (by kernel_rfl))
  f21 := ⟨ "slices.insertionSortOrdered[string]", by decide, Try.func43.trans (congrArg some (by kernel_rfl))⟩
  f22 := ⟨ "slices.heapSortOrdered[string]", by decide, Try.func44.trans (congrArg some (by kernel_rfl))⟩
  f23 := ⟨ "slices.breakPatternsOrdered[string]", by decide, Try.func45.trans (congrArg some (by kernel_rfl))⟩
  f24 := ⟨ "slices.choosePivotOrdered[string]", by decide, Try.func46.trans (congrArg some (by kernel_rfl))⟩
  f25 := ⟨ "slices.reverseRangeOrdered[string]", by decide, Try.func47.trans (congrArg some (by kernel_rfl))⟩
  f26 := ⟨ "slices.partialInsertionSortOrdered[string]", by decide, Try.func48.trans (congrArg some (by kernel_rfl))⟩
  f27 := ⟨ "cmp.Less[string]", by decide, Try.func49.trans (congrArg some (by kernel_rfl))⟩
  f28 := ⟨ "slices.partitionEqualOrdered[string]", by decide, Try.func50.trans (congrArg some (by kernel_rfl))⟩
  f29 := ⟨ "slices.partitionOrdered[string]", by decide, Try.func51.trans (congrArg some (by kernel_rfl))⟩
  f31 := Try.func55.trans (congrArg some (by kernel_rfl))
  f32 := Try.func56.trans (congrArg some (by kernel_rfl))
  f36 := ⟨ "slices.siftDownOrdered[string]", by decide, Try.func54.trans (congrArg some (by kernel_rfl))⟩
  f37 := ⟨ "slices.medianAdjacentOrdered[string]", by decide, Try.func57.trans (congrArg some (by kernel_rfl))⟩
  f38 := ⟨ "slices.medianOrdered[string]", by decide, Try.func58.trans (congrArg some (by kernel_rfl))⟩
  f39 := ⟨ "cmp.isNaN[string]", by decide, Try.func59.trans (congrArg some (by kernel_rfl))⟩
  f41 := ⟨ "slices.order2Ordered[string]", by decide, Try.func60.trans (congrArg some (by kernel_rfl))⟩
  t0 := Try.underlying0
  a0 := Try.isAgg0
  z0 := Try.sizeOf0
  v0 := Try.zeroValue0
  t3 := Try.underlying3
  a3 := Try.isAgg3
  z3 := Try.sizeOf3
  v3 := Try.zeroValue3
  t4 := Try.underlying4
  a4 := Try.isAgg4
  z4 := Try.sizeOf4
  v4 := Try.zeroValue4
  t5 := Try.underlying5
  a5 := Try.isAgg5
  z5 := Try.sizeOf5
  v5 := Try.zeroValue5
  t9 := Try.underlying9
  a9 := Try.isAgg9
  z9 := Try.sizeOf9
  v9 := Try.zeroValue9
  t26 := Try.underlying29
  a26 := Try.isAgg29
  z26 := Try.sizeOf29
  v26 := Try.zeroValue29
  t27 := Try.underlying29
  a27 := Try.isAgg29
  z27 := Try.sizeOf29
  v27 := Try.zeroValue29
  t29 := Try.underlying9
  a29 := Try.isAgg9
  z29 := Try.sizeOf9
  v29 := Try.zeroValue9
  t32 := Try.underlying75
  a32 := Try.isAgg75
  z32 := Try.sizeOf75
  v32 := Try.zeroValue75
  t35 := Try.underlying77
  a35 := Try.isAgg77
  z35 := Try.sizeOf77
  v35 := Try.zeroValue77
  t36 := Try.underlying78
  a36 := Try.isAgg78
  z36 := Try.sizeOf78
  v36 := Try.zeroValue78
  t41 := Try.underlying83
  a41 := Try.isAgg83
  z41 := Try.sizeOf83
  v41 := Try.zeroValue83
  t44 := Try.underlying86
  a44 := Try.isAgg86
  z44 := Try.sizeOf86
  v44 := Try.zeroValue86
  t46 := Try.underlying88
  a46 := Try.isAgg88
  z46 := Try.sizeOf88
  v46 := Try.zeroValue88
  t53 := Try.underlying89
  a53 := Try.isAgg89
  z53 := Try.sizeOf89
  v53 := Try.zeroValue89
  t57 := Try.underlying93
  a57 := Try.isAgg93
  z57 := Try.sizeOf93
  v57 := Try.zeroValue93
  t63 := Try.underlying95
  a63 := Try.isAgg95
  z63 := Try.sizeOf95
  v63 := Try.zeroValue95
  t64 := Try.underlying96
  a64 := Try.isAgg96
  z64 := Try.sizeOf96
  v64 := Try.zeroValue96


def layJoin_ren : Go.Shelf.Ren := ⟨fun x => match x with | 14 => 25 | 15 => 36 | _ => 0, fun x => match x with | 0 => 0 | 3 => 3 | 4 => 4 | 5 => 5 | 9 => 9 | 20 => 20 | 22 => 37 | 26 => 30 | _ => 0, fun x => x⟩

theorem layJoin : SlLaysJ.n14 Try.prog layJoin_ren where
  mixed := by kernel_rfl
  f14 := Try.func25.trans (congrArg some (by kernel_rfl))
  f15 := Try.func36.trans (congrArg some (by kernel_rfl))
  t0 := Try.underlying0
  a0 := Try.isAgg0
  z0 := Try.sizeOf0
  v0 := Try.zeroValue0
  t3 := Try.underlying3
  a3 := Try.isAgg3
  z3 := Try.sizeOf3
  v3 := Try.zeroValue3
  t4 := Try.underlying4
  a4 := Try.isAgg4
  z4 := Try.sizeOf4
  v4 := Try.zeroValue4
  t9 := Try.underlying9
  a9 := Try.isAgg9
  z9 := Try.sizeOf9
  v9 := Try.zeroValue9
  t20 := Try.underlying20
  a20 := Try.isAgg20
  z20 := Try.sizeOf20
  v20 := Try.zeroValue20
  t22 := Try.underlying37
  a22 := Try.isAgg37
  z22 := Try.sizeOf37
  v22 := Try.zeroValue37
  t26 := Try.underlying30
  a26 := Try.isAgg30
  z26 := Try.sizeOf30
  v26 := Try.zeroValue30
  t5 := Try.underlying5
  z5 := Try.sizeOf5
  i5 := by kernel_rfl


def layClone_ren : Go.Shelf.Ren := ⟨fun x => match x with | 4 => 32 | _ => 0, fun x => match x with | 4 => 4 | 5 => 5 | 22 => 37 | _ => 0, fun x => x⟩

theorem layClone : SlLaysK.n4 Try.prog layClone_ren where
  mixed := by kernel_rfl
  f4 := Try.func32.trans (congrArg some (by kernel_rfl))
  t4 := Try.underlying4
  a4 := Try.isAgg4
  z4 := Try.sizeOf4
  v4 := Try.zeroValue4
  t22 := Try.underlying37
  a22 := Try.isAgg37
  z22 := Try.sizeOf37
  v22 := Try.zeroValue37
  t5 := Try.underlying5
  i5 := by kernel_rfl


def iterLeft (w : World) (b r : Nat) : Nat :=
  match w.heap[b]?, w.heap[r]? with
  | some (.map es _), some (.mapIter _ _ seen _) => (es.toList.filter fun e => !seen.contains e.born).length
  | _, _ => 0

theorem IterAt.left_eq {α : Type} {mk : α → Value} {w : World} {b r : Nat} {L R : List (α × Value)} (h : IterAt w mk b r L R) : iterLeft w b r = R.length := by
  obtain ⟨es, c, s, h1, h2, h3⟩ := h
  simp only [iterLeft, h1.obj, h2]
  simpa using congrArg List.length h3

theorem IterAt.walk {α : Type} {mk : α → Value} {w : World} {b r : Nat} {L R : List (α × Value)} (h : IterAt w mk b r L R) : ∃ o : Obj, w.heap[r]? = some o ∧ o.isWalk = true := by
  obtain ⟨es, c, s, h1, h2, h3⟩ := h
  exact ⟨_, h2, rfl⟩

theorem IterAt.walks {α : Type} {mk : α → Value} {w w' : World} {b r : Nat} {L R : List (α × Value)} (h : IterAt w mk b r L R) (hk : KeepsWalks w w') : IterAt w' mk b r L R := by
  have h' := h
  obtain ⟨es, c, s, h1, h2, h3⟩ := h
  exact h'.kept ((hk.same b _ h1.obj rfl).trans h1.obj.symm) ((hk.same r _ h2 rfl).trans h2.symm)

set_option maxRecDepth 100000 in
set_option maxHeartbeats 1000000 in
theorem keysA1 (F : Fence) (n : Nat) (h10 : F.fn 39) (hro : F.round = none) (hn : 1 ≤ n) (l Bm b : Nat) (L : List (List UInt8 × Value)) (J : List (List UInt8) → World → Prop)
    (hY : ∀ pre x W, J pre W → pre.length < L.length → YieldAt F (n - 1) Try.prog l #[encStr x] W fun e W' => e = .returned (.bool true) ∧ J (pre ++ [x]) W' ∧ KeepsWalks W W')
    (W : World) (hJ : AbidesFrom W.heap.size J) (hm : W.cell? ⟨Bm, 0, none⟩ = some (.map (some b))) (hown : MapAt W strV b L) (h0 : J [] W) :
    CallsIn F n Try.prog 39 #[.func (.yield l) #[] #[], .pointer (some ⟨Bm, 0, none⟩)] W fun e W' => (∃ v, e = .returned v) ∧ ∃ ss : List (List UInt8), ss.Perm (L.map (·.1)) ∧ J ss W' := by
  refine callsIn_of_wp Try.func39 rfl h10 ?_ hro
  simp only [Try.ntmps39, List.size_toArray, List.length_cons, List.length_nil, Nat.reduceAdd, Nat.reduceSub, Array.replicate_succ, Array.replicate_zero, List.push_toArray, List.append_toArray, List.nil_append, List.cons_append]
  obtain ⟨w0, hr0, hit0, hg0, hs0⟩ := run_range (P := Try.prog) Try.underlying54 hown
  gi_wp2
  clear hr0
  gi_loopw [3] (fun _ wr => ∃ (R : List (List UInt8 × Value)) (ss : List (List UInt8)), IterAt wr strV b W.heap.size L R ∧ (ss ++ R.map (·.1)).Perm (L.map (·.1)) ∧ J ss wr)
    (fun _ wr => iterLeft wr b W.heap.size)
  case atStart => exact ⟨L, [], hit0, by simp, hJ [] W w0 none h0 hg0 (fun r e => by cases e)⟩
  case round =>
    obtain ⟨R, ss, hit, hp, hJs⟩ := hrel
    by_cases hR : R = []
    · subst hR
      have hnx := fun ty => run_next_over (P := Try.prog) hit ty
      gi_wp2
      go_end0
      exact ⟨⟨_, rfl⟩, ss, by simpa using hp, hJs⟩
    · obtain ⟨w2, R1, a, v, R2, hnx, rfl, hit2, hen, hg2, hs2⟩ := run_next_some (P := Try.prog) hit hR
      have hent := run_entry (P := Try.prog) hen
      have hJ2 : J ss w2 := hJ ss wr w2 (some W.heap.size) hJs hg2 (fun r e => by cases e; exact ⟨Nat.le_refl _, hit.walk⟩)
      have hlen : ss.length < L.length := by
        have := hp.length_eq
        simp at this
        omega
      obtain ⟨fn, tmps, assign, body, hy, hR'⟩ := hY ss a w2 hJ2 hlen
      simp only [show encStr a = strV a from rfl] at hy
      clear hs2 hg2
      gi_wp2
      refine hR'.mono ?_
      rintro e W3 ⟨rfl, hJ3, hk3⟩
      gi_wp2
      have hit3 := hit2.walks hk3
      go_roundw
      case rel => exact ⟨R1 ++ R2, ss ++ [a], hit3, by refine List.Perm.trans ?_ hp; simp only [List.map_append, List.map_cons, List.append_assoc, List.singleton_append, List.append_cancel_left_eq]; exact List.Perm.append_left ss List.perm_middle.symm, hJ3⟩
      case measure => rw [hit3.left_eq, hit.left_eq]; simp

theorem keysAGives (F : Fence) (n : Nat) (h10 : F.fn 39) (hro : F.round = none) (hn : 1 ≤ n) (Bm b : Nat) (L : List (List UInt8 × Value)) (w : World) (hBm : Bm < w.heap.size)
    (hm : w.cell? ⟨Bm, 0, none⟩ = some (.map (some b))) (hown : MapAt w strV b L) :
    SeqGives F n Try.prog 39 #[.pointer (some ⟨Bm, 0, none⟩)] encStr (fun ss => ss.Perm (L.map (·.1))) L.length w := fun l J W hW hJ hY h0 =>
  keysA1 F n h10 hro hn l Bm b L J hY W hJ ((hW.cell (p := ⟨Bm, 0, none⟩) hBm).trans hm) (hown.kept (hW.block b hown.lt)) h0

theorem keysA (mb : Option Nat) (w : World) :
    Calls Try.prog 28 #[.map mb] w fun e w' => e = .returned (.func (.func 39) #[] #[.pointer (some ⟨w.heap.size, 0, none⟩)]) ∧ w' = w.alloc (.cells #[.map mb] 54) := by
  go_enter Try.func28, Try.ntmps28
  go_wp2
  go_ret
  exact ⟨rfl, rfl⟩


/-- slices.Sort's two contracts -/
theorem sortsS (m : Nat) : AnyZ.SortsIn Try.prog laySorted_ren Fence.wide m :=
  ⟨fun blk off cap ss W hH hblk hsz => callsIn_wide.2 (AnyM.slices_Sort_string laySort blk off cap ss W hH hblk hsz),
   fun p cap W => callsIn_wide.2 (AnyM.slices_Sort_string_none laySort p cap W)⟩

def sortS (l : List (List UInt8)) : List (List UInt8) := l.mergeSort fun x y => decide (x ≤ y)

/-- the keys, sorted: a new slice -/
theorem sortedKeysA (Bm b : Nat) (L : List (List UInt8 × Value)) (w : World) (hBm : Bm < w.heap.size) (hm : w.cell? ⟨Bm, 0, none⟩ = some (.map (some b))) (hown : MapAt w strV b L) (hmax : L.length ≤ 1000000) :
    Calls Try.prog 27 #[.func (.func 39) #[] #[.pointer (some ⟨Bm, 0, none⟩)]] w fun e w' => ∃ (v : Value) (ss : List (List UInt8)), e = .returned v ∧ ss.Perm (L.map (·.1)) ∧
      w'.ownsRow w.heap.size 9 1 v ss.length ((sortS ss).map strV) ∧ Below w.heap.size w w' := by
  refine (callsIn_wide (n := 5)).1 ?_
  have cS := AnyZ.sorted_in laySorted Fence.wide 5 trivial trivial trivial trivial rfl (by omega) (sortsS _) (enters_of Try.func38 (by kernel_rfl) rfl) 39 #[.pointer (some ⟨Bm, 0, none⟩)] trivial (enters_of Try.func39 (by kernel_rfl) rfl) _ L.length (by have : maxLen = 9223372036854775807 := rfl; omega) (by omega) w (keysAGives Fence.wide _ trivial rfl (by omega) Bm b L w hBm hm hown)
  change CallsIn _ _ Try.prog 27 _ _ _ at cS
  refine cS.mono ?_
  rintro e w' ⟨v, ss, rfl, hp, hrow, -, hb⟩
  exact ⟨v, ss, rfl, hp, hrow, hb⟩

end Go.Proofs.Ytdcgooleiefljaa
