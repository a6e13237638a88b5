/- slices.Sort at uint64: the whole. slices.Sorted at uint64, over whatever iterator value. slices.Sort at uint64: a slice of no element. slices.Sorted(maps.Keys(m)) at uint64. slices.Sorted(maps.Keys(m)) at uint64, of a nil map. graph: Near, Keys. graph: Keys. -/
import Derived.Test.YtpjbkaibgajpcaaGreatJ22
import Derived.Test.YtpjbkaibgajpcaaGreatJ23
import Derived.Test.YtpjbkaibgajpcaaGreatJ24
import Derived.Test.YtpjbkaibgajpcaaGreatJ25
import Derived.Test.YtpjbkaibgajpcaaGreatJ26
import Derived.Test.YtpjbkaibgajpcaaGreatJ27
import Derived.Sort.AssemblyPlain
import Derived.Test.YtpjbkaibgajpcaaGreatJ21
import Derived.RangeFuncBound
import Derived.Sort.OwnSorted
import Derived.Test.YtpjbkaibgajpcaaGreatJ08
import Derived.Shelf.Abstract
import Derived.Test.YtpjbkaibgajpcaaGreatJ18
namespace Go.Proofs.YtpjbkaibgajpcaaGreat
open Go.RowKit Go.Sort
set_option maxRecDepth 20000

theorem srtCallees : Callees13 where
  ins := srt_insertionSort
  brk := srt_breakPatterns
  piv := srt_choosePivot
  par := srt_partialInsertionSort
  peq := srt_partitionEqualOrdered
  prt := srt_partitionOrdered

theorem srtPlain : Go.Proofs.Plain13 where
  swo := swo_ltInt
  ins := insertionSort_holds
  par := partialInsertionSort_holds
  prt := partition_holds _
  peq := partitionEqual_holds _
  pdq := pdq_sorts _

def pdqWalk_int : Prop := ∀ (blk off cap a b limit : Nat) (d : Array Int) (w : World), Holds (Value.int .u64) w blk off d → blk < w.heap.size → a ≤ b → b ≤ d.size → d.size < 4611686018427387904 → limit < 4611686018427387904 → Below ltInt a b d →
  Calls Tryz.prog 81 #[.slice (some ⟨blk, off, none⟩) d.size cap, .int .i64 a, .int .i64 b, .int .i64 limit] w fun e w' =>
    e = .returned (.tuple #[]) ∧ ∃ n os, w' = grow (putRow (Value.int .u64) (Sort.ahead w n) blk off (Sort.pdq ltInt d a b limit true true)) os

theorem srtPdq : pdqWalk_int := fun blk off cap a b limit d w hH hb hab hbd hsz hl hB =>
  srt_pdqsort srtCallees srtPlain (b - a + 1) blk off cap a b limit d w (by omega) hH hb hab hbd hsz hl hB

theorem srt_eq (zs : List Int) : Sort.sort ltInt zs.toArray = (zs.mergeSort fun x y => decide (x ≤ y)).toArray := by
  rw [← sortInt zs]

set_option maxHeartbeats 4000000 in
set_option maxRecDepth 100000 in
theorem srt_Sort (hpdq : pdqWalk_int) (blk off cap : Nat) (d : Array Int) (w : World) (hH : Holds (Value.int .u64) w blk off d) (hblk : blk < w.heap.size) (hsz : d.size < 4611686018427387904) :
    Calls Tryz.prog 55 #[.slice (some ⟨blk, off, none⟩) d.size cap] w fun e w' => e = .returned (.tuple #[]) ∧ ∃ n os, w' = grow (putRow (Value.int .u64) (Sort.ahead w n) blk off (Sort.sort ltInt d)) os := by
  have HH : Hid (Holds (Value.int .u64) w blk off d) := hH
  clear hH
  have hLen : ∀ w, Calls Tryz.prog 82 #[.int .u64 (d.size : Int)] w fun e w' => e = .returned (.int .i64 (bitsLen d.size : Nat)) ∧ w' = w := fun w => by
    have h := srt_bits_Len (d.size : Int) w (by omega) (by omega)
    rwa [Int.toNat_natCast, bitLen_eq _ (by omega)] at h
  have hk : bitsLen d.size ≤ 62 := (bitsLen_le_iff d.size 62).2 (by omega)
  go_enter Tryz.func55, Tryz.ntmps55
  go_wp2_with (first
    | (go_at_call 82; refine (hLen _).mono ?_; rintro e w' ⟨rfl, rfl⟩)
    | (go_at_call 81; refine (hpdq blk off cap 0 d.size (bitsLen d.size) d _ (by exact HH.out) (by exact hblk) (Nat.zero_le _) (Nat.le_refl _) hsz (by omega) (Or.inl rfl)).mono ?_; rintro e w' ⟨rfl, n, os, rfl⟩))
  go_end0
  exact ⟨rfl, n, os, rfl⟩

theorem srt (blk off cap : Nat) (zs : List Int) (w : World) (hH : Holds (Value.int .u64) w blk off zs.toArray) (hblk : blk < w.heap.size) (hsz : zs.length < 4611686018427387904) :
    Calls Tryz.prog 55 #[.slice (some ⟨blk, off, none⟩) zs.length cap] w fun e w' =>
      e = .returned (.tuple #[]) ∧ ∃ n os, w' = grow (putRow (Value.int .u64) (Sort.ahead w n) blk off (zs.mergeSort fun x y => decide (x ≤ y)).toArray) os := by
  have h := srt_Sort srtPdq blk off cap zs.toArray w hH hblk (by simpa using hsz)
  rw [srt_eq] at h
  simpa using h

end Go.Proofs.YtpjbkaibgajpcaaGreat

namespace Go.Proofs.YtpjbkaibgajpcaaGreat
open Go.RowKit Go.Maps Go.Sort
set_option maxRecDepth 20000

theorem holds_of_blockU {w : World} {g : Nat} {cur : Array Value} {e : TypeId} {ss : List Int} (hb : w.heap[g]? = some (.cells cur e (0, 0))) (ht : cur.toList.take ss.length = ss.map encU) : Holds encU w g 0 ss.toArray := by
  intro j hj
  have hj' : j < ss.length := by simpa using hj
  refine ⟨?_, by simp [World.frozen?, hb]⟩
  have h1 : (cur.toList.take ss.length)[j]? = (ss.map encU)[j]? := by rw [ht]
  rw [List.getElem?_take_of_lt hj'] at h1
  simp only [World.cell?, hb, Nat.zero_add]
  simp only [Option.isSome_none, Bool.false_eq_true, if_false]
  rw [← Array.getElem?_toList, h1]
  simp [hj']

theorem heap_sortedU {w : World} {g n : Nat} {os : Array Obj} {cur : Array Value} {e : TypeId} {fr : Nat × Nat} (d : Array Int) (hb : w.heap[g]? = some (.cells cur e fr)) :
    (grow (putRow encU (Sort.ahead w n) g 0 d) os).heap[g]? = some (.cells (putCells encU 0 d cur) e fr) := by
  have hg : g < w.heap.size := (Array.getElem?_eq_some_iff.1 hb).1
  rw [heap_grow_old _ _ (by simpa using hg)]
  simp [putRow, mapBlock, Sort.ahead, Array.getElem?_modify, hb, onCells]

theorem grownBy_sortedU {w : World} {g n : Nat} {os : Array Obj} (d : Array Int) : w.grownBy (grow (putRow encU (Sort.ahead w n) g 0 d) os) (some g) := by
  refine ⟨rfl, rfl, rfl, by simp, fun k hk hne => ?_⟩
  rw [heap_grow_old _ _ (by simpa using hk)]
  have : g ≠ k := fun e => hne (by rw [e])
  simp [putRow, mapBlock, Sort.ahead, Array.getElem?_modify, this]

theorem take_putCellsU (cur : Array Value) (ts : List Int) (h : ts.length ≤ cur.size) : (putCells encU 0 ts.toArray cur).toList.take ts.length = ts.map encU := by
  apply List.ext_getElem?
  intro j
  by_cases hj : j < ts.length
  · rw [List.getElem?_take_of_lt hj, Array.getElem?_toList]
    simp [putCells, hj, show j < cur.size by omega]
  · rw [List.getElem?_take_eq_none (by omega), List.getElem?_eq_none (by simp; omega)]

theorem ownsRow_sortedU {w : World} {base g cap n : Nat} {e : TypeId} {os : Array Obj} {cur : Array Value} {ss ts : List Int} (hl : ts.length = ss.length) (hbase : base ≤ g) (hb : w.heap[g]? = some (.cells cur e (0, 0)))
    (h1 : ss.length ≤ cap) (h2 : cap ≤ maxLen) (h3 : cur.size = cap * 1) :
    (grow (putRow encU (Sort.ahead w n) g 0 ts.toArray) os).ownsRow base e 1 (.slice (some ⟨g, 0, none⟩) ss.length cap) ss.length (ts.map encU) :=
  ⟨by simp [hl], .inr ⟨g, cap, _, rfl, hbase, heap_sortedU _ hb, h1, h2, by simp [putCells, h3], by rw [Nat.mul_one, ← hl]; exact take_putCellsU cur ts (by omega)⟩⟩

def SortsIn (F : Fence) (m : Nat) : Prop :=
  (∀ (blk off cap : Nat) (ss : List Int) (W : World), Holds encU W blk off ss.toArray → blk < W.heap.size → ss.length < 4611686018427387904 →
    CallsIn F m Tryz.prog 55 #[.slice (some ⟨blk, off, none⟩) ss.length cap] W fun e w' => e = .returned (.tuple #[]) ∧ ∃ k os, w' = grow (putRow encU (Sort.ahead W k) blk off (ss.mergeSort fun x y => decide (x ≤ y)).toArray) os) ∧
  (∀ (p : Option Addr) (cap : Nat) (W : World), CallsIn F m Tryz.prog 55 #[.slice p 0 cap] W fun e w' => e = .returned (.tuple #[]) ∧ w' = W)

set_option maxRecDepth 100000 in
set_option maxHeartbeats 2000000 in
theorem sorted_in (F : Fence) (n : Nat) (h6 : F.fn 73) (h8 : F.fn 99) (h9 : F.fn 55) (h11 : F.fn 121) (hro : F.round = none) (hn : 4 ≤ n) (hsort : SortsIn F (n - 1)) (e9 : ∀ args w, (callFunc 55 args).run Tryz.prog w = .ok (.enter 55 args) w) (g : Nat) (lb : Array Value) (hFg : F.fn g) (eg : ∀ args w, (callFunc g args).run Tryz.prog w = .ok (.enter g args) w)
    (S : List Int → Prop) (N : Nat) (hN : N ≤ maxLen) (hNb : N * 8 ≤ 140737488355328) (w : World) (hseq : SeqGives F (n - 1 - 1 - 1) Tryz.prog g lb encU S N w) :
    CallsIn F n Tryz.prog 73 #[.func (.func g) #[] lb] w fun e w' => ∃ (v : Value) (ss : List Int), e = .returned v ∧ S ss ∧
      w'.ownsRow w.heap.size 36 1 v ss.length ((ss.mergeSort (fun x y => decide (x ≤ y))).map encU) ∧ (v = .slice none 0 0 ↔ ss = []) ∧ Below w.heap.size w w' := by
  have h1 : 1 ≤ n := by omega
  refine callsIn_of_wp Tryz.func73 rfl h6 ?_ hro
  simp only [Tryz.ntmps73, List.size_toArray, List.length_cons, List.length_nil, Nat.reduceAdd, Nat.reduceSub, Array.replicate_succ, Array.replicate_zero, List.push_toArray, List.append_toArray, List.nil_append, List.cons_append]
  gi_wp2_with (gi_at_call 99; refine (collect_in F (n - 1) h8 h11 hro (by omega) g lb hFg eg _ N hN hNb _ hseq.bounded).mono ?_; rintro e W ⟨v, ss, rfl, ⟨hS, hlen⟩, hrow, hnil, hb⟩)
  rcases hrow.2 with ⟨rfl, hz⟩ | ⟨gb, cap, cur, rfl, hbase, hgb, r1, r2, r3, r4⟩
  · -- nothing came: the nil slice is sorted and handed back
    have hss : ss = [] := List.eq_nil_of_length_eq_zero hz
    subst hss
    gi_wp2_with (gi_at_call 55; refine (hsort.2 none 0 W).mono ?_; rintro e w' ⟨rfl, rfl⟩)
    go_ret
    exact ⟨.slice none 0 0, [], rfl, hS, by simpa using hrow, by simp, hb⟩
  · have hH : Holds encU W gb 0 ss.toArray := holds_of_blockU hgb (by simpa using r4)
    have hgl : gb < W.heap.size := (Array.getElem?_eq_some_iff.1 hgb).1
    have hsz : ss.length < 4611686018427387904 := by omega
    have cS := hsort.1 gb 0 cap ss W hH hgl hsz
    gi_wp2_with (gi_at_call 55; refine cS.mono ?_; rintro e w' ⟨rfl, nn, os, rfl⟩)
    go_ret
    exact ⟨_, ss, rfl, hS, ownsRow_sortedU (by simp) hbase hgb r1 r2 r3, hnil, hb.grown (grownBy_sortedU _) hb.size (fun j hj => by cases hj; exact hbase)⟩

end Go.Proofs.YtpjbkaibgajpcaaGreat

namespace Go.Proofs.YtpjbkaibgajpcaaGreat
open Go.RowKit Go.Sort
set_option maxRecDepth 20000

set_option maxHeartbeats 4000000 in
theorem srt_insertionSort_int_nil (p : Option Addr) (cap : Nat) (w : World) :
    Calls Tryz.prog 105 #[.slice p 0 cap, .int .i64 0, .int .i64 0] w fun e w' => e = .returned (.tuple #[]) ∧ w' = w := by
  go_enter Tryz.func105, Tryz.ntmps105
  go_wp2
  refine wp_loop_rounds 1 ?_
  rw [rounds_succ]
  go_wp2
  go_end0
  exact ⟨rfl, rfl⟩

set_option maxHeartbeats 4000000 in
set_option maxRecDepth 100000 in
theorem srt_pdqsort_int_nil (p : Option Addr) (cap : Nat) (w : World) :
    Calls Tryz.prog 81 #[.slice p 0 cap, .int .i64 0, .int .i64 0, .int .i64 0] w fun e w' => e = .returned (.tuple #[]) ∧ w' = w := by
  go_enter Tryz.func81, Tryz.ntmps81
  go_wp2
  refine wp_loop_rounds 1 ?_
  rw [rounds_succ]
  go_wp2_with (first | (go_at_call 105; refine (srt_insertionSort_int_nil p cap _).mono ?_; rintro e w' ⟨rfl, rfl⟩))
  refine bodyPost_ret (results_none rfl _ _ _) rfl ?_      -- an explicit 'return' in a function without results
  exact ⟨rfl, rfl⟩

set_option maxHeartbeats 4000000 in
set_option maxRecDepth 100000 in
theorem srt_Sort_int_nil (p : Option Addr) (cap : Nat) (w : World) :
    Calls Tryz.prog 55 #[.slice p 0 cap] w fun e w' => e = .returned (.tuple #[]) ∧ w' = w := by
  have hLen : ∀ w, Calls Tryz.prog 82 #[.int .u64 0] w fun e w' => e = .returned (.int .i64 0) ∧ w' = w := fun w => srt_bits_Len 0 w (by omega) (by omega)
  go_enter Tryz.func55, Tryz.ntmps55
  go_wp2_with (first
    | (go_at_call 82; refine (hLen _).mono ?_; rintro e w' ⟨rfl, rfl⟩)
    | (go_at_call 81; refine (srt_pdqsort_int_nil p cap _).mono ?_; rintro e w' ⟨rfl, rfl⟩))
  go_end0
  exact ⟨rfl, rfl⟩

end Go.Proofs.YtpjbkaibgajpcaaGreat

namespace Go.Proofs.YtpjbkaibgajpcaaGreat
open Go.RowKit Go.Maps Go.Sort Go.ChangeMaps
set_option maxRecDepth 20000

def iterLeft (w : World) (b r : Nat) : Nat :=
  match w.heap[b]?, w.heap[r]? with
  | some (.map es _), some (.mapIter _ _ seen _) => (es.toList.filter fun e => !seen.contains e.born).length
  | _, _ => 0

theorem IterAt.left_eq {α : Type} {mk : α → Value} {w : World} {b r : Nat} {L R : List (α × Value)} (h : IterAt w mk b r L R) : iterLeft w b r = R.length := by
  obtain ⟨es, c, s, h1, h2, h3⟩ := h
  simp only [iterLeft, h1.obj, h2]
  simpa using congrArg List.length h3

theorem IterAt.walk {α : Type} {mk : α → Value} {w : World} {b r : Nat} {L R : List (α × Value)} (h : IterAt w mk b r L R) : ∃ o : Obj, w.heap[r]? = some o ∧ o.isWalk = true := by
  obtain ⟨es, c, s, h1, h2, h3⟩ := h
  exact ⟨_, h2, rfl⟩

theorem IterAt.walks {α : Type} {mk : α → Value} {w w' : World} {b r : Nat} {L R : List (α × Value)} (h : IterAt w mk b r L R) (hk : KeepsWalks w w') : IterAt w' mk b r L R := by
  have h' := h
  obtain ⟨es, c, s, h1, h2, h3⟩ := h
  exact h'.kept ((hk.same b _ h1.obj rfl).trans h1.obj.symm) ((hk.same r _ h2 rfl).trans h2.symm)

theorem sort_perm {ss ts : List Int} (h : ss.Perm ts) : (ss.mergeSort fun x y => decide (x ≤ y)) = ts.mergeSort fun x y => decide (x ≤ y) := by
  refine List.Perm.eq_of_pairwise (le := fun x y => decide (x ≤ y) = true) (fun a b _ _ h1 h2 => by simp at h1 h2; omega) ?_ ?_ ?_
  · exact List.pairwise_mergeSort (fun a b c h1 h2 => by simp at h1 h2 ⊢; omega) (fun a b => by simp; omega) ss
  · exact List.pairwise_mergeSort (fun a b c h1 h2 => by simp at h1 h2 ⊢; omega) (fun a b => by simp; omega) ts
  · exact ((List.mergeSort_perm ss _).trans h).trans (List.mergeSort_perm ts _).symm

theorem sortsU (m : Nat) : SortsIn Fence.wide m :=
  ⟨fun blk off cap ss W hH hblk hsz => callsIn_wide.2 (srt blk off cap ss W hH hblk hsz), fun p cap W => callsIn_wide.2 (srt_Sort_int_nil p cap W)⟩

set_option maxRecDepth 100000 in
set_option maxHeartbeats 1000000 in
theorem keysA1 (F : Fence) (n : Nat) (h10 : F.fn 102) (hro : F.round = none) (hn : 1 ≤ n) (l Bm b : Nat) (L : List (Int × Value)) (J : List Int → World → Prop)
    (hY : ∀ pre x W, J pre W → pre.length < L.length → YieldAt F (n - 1) Tryz.prog l #[encU x] W fun e W' => e = .returned (.bool true) ∧ J (pre ++ [x]) W' ∧ KeepsWalks W W')
    (W : World) (hJ : AbidesFrom W.heap.size J) (hm : W.cell? ⟨Bm, 0, none⟩ = some (.map (some b))) (hown : MapAt W (Value.int .u64) b L) (h0 : J [] W) :
    CallsIn F n Tryz.prog 102 #[.func (.yield l) #[] #[], .pointer (some ⟨Bm, 0, none⟩)] W fun e W' => (∃ v, e = .returned v) ∧ ∃ ss : List Int, ss.Perm (L.map (·.1)) ∧ J ss W' := by
  refine callsIn_of_wp Tryz.func102 rfl h10 ?_ hro
  simp only [Tryz.ntmps102, List.size_toArray, List.length_cons, List.length_nil, Nat.reduceAdd, Nat.reduceSub, Array.replicate_succ, Array.replicate_zero, List.push_toArray, List.append_toArray, List.nil_append, List.cons_append]
  obtain ⟨w0, hr0, hit0, hg0, hs0⟩ := run_range (P := Tryz.prog) Tryz.underlying117 hown
  gi_wp2
  clear hr0
  gi_loopw [3] (fun _ wr => ∃ (R : List (Int × Value)) (ss : List Int), IterAt wr (Value.int .u64) b W.heap.size L R ∧ (ss ++ R.map (·.1)).Perm (L.map (·.1)) ∧ J ss wr)
    (fun _ wr => iterLeft wr b W.heap.size)
  case atStart => exact ⟨L, [], hit0, by simp, hJ [] W w0 none h0 hg0 (fun r e => by cases e)⟩
  case round =>
    obtain ⟨R, ss, hit, hp, hJs⟩ := hrel
    by_cases hR : R = []
    · subst hR
      have hnx := fun ty => run_next_over (P := Tryz.prog) hit ty
      gi_wp2
      go_end0
      exact ⟨⟨_, rfl⟩, ss, by simpa using hp, hJs⟩
    · obtain ⟨w2, R1, a, v, R2, hnx, rfl, hit2, hen, hg2, hs2⟩ := run_next_some (P := Tryz.prog) hit hR
      have hent := run_entry (P := Tryz.prog) hen
      have hJ2 : J ss w2 := hJ ss wr w2 (some W.heap.size) hJs hg2 (fun r e => by cases e; exact ⟨Nat.le_refl _, hit.walk⟩)
      have hlen : ss.length < L.length := by
        have := hp.length_eq
        simp at this
        omega
      obtain ⟨fn, tmps, assign, body, hy, hR'⟩ := hY ss a w2 hJ2 hlen
      simp only [encU] at hy
      clear hs2 hg2
      gi_wp2
      refine hR'.mono ?_
      rintro e W3 ⟨rfl, hJ3, hk3⟩
      gi_wp2
      have hit3 := hit2.walks hk3
      go_roundw
      case rel => exact ⟨R1 ++ R2, ss ++ [a], hit3, by refine List.Perm.trans ?_ hp; simp only [List.map_append, List.map_cons, List.append_assoc, List.singleton_append]; exact List.Perm.append_left ss List.perm_middle.symm, hJ3⟩
      case measure => rw [hit3.left_eq, hit.left_eq]; simp

theorem keysAGives (F : Fence) (n : Nat) (h10 : F.fn 102) (hro : F.round = none) (hn : 1 ≤ n) (Bm b : Nat) (L : List (Int × Value)) (w : World) (hBm : Bm < w.heap.size)
    (hm : w.cell? ⟨Bm, 0, none⟩ = some (.map (some b))) (hown : MapAt w (Value.int .u64) b L) :
    SeqGives F n Tryz.prog 102 #[.pointer (some ⟨Bm, 0, none⟩)] encU (fun ss => ss.Perm (L.map (·.1))) L.length w := fun l J W hW hJ hY h0 =>
  keysA1 F n h10 hro hn l Bm b L J hY W hJ ((hW.cell (p := ⟨Bm, 0, none⟩) hBm).trans hm) (hown.kept (hW.block b hown.lt)) h0

theorem keysA (mb : Option Nat) (w : World) :
    Calls Tryz.prog 77 #[.map mb] w fun e w' => e = .returned (.func (.func 102) #[] #[.pointer (some ⟨w.heap.size, 0, none⟩)]) ∧ w' = w.alloc (.cells #[.map mb] 117) := by
  go_enter Tryz.func77, Tryz.ntmps77
  go_wp2
  go_ret
  exact ⟨rfl, rfl⟩

theorem sortedKeysA (Bm b : Nat) (L : List (Int × Value)) (w : World) (hBm : Bm < w.heap.size) (hm : w.cell? ⟨Bm, 0, none⟩ = some (.map (some b))) (hown : MapAt w (Value.int .u64) b L) (hmax : L.length ≤ 1000000) :
    Calls Tryz.prog 73 #[.func (.func 102) #[] #[.pointer (some ⟨Bm, 0, none⟩)]] w fun e w' => ∃ v : Value, e = .returned v ∧
      w'.ownsRow w.heap.size 36 1 v L.length (((L.map (·.1)).mergeSort fun x y => decide (x ≤ y)).map (Value.int .u64)) ∧ Below w.heap.size w w' := by
  refine (callsIn_wide (n := 5)).1 ?_
  refine (sorted_in Fence.wide 5 trivial trivial trivial trivial rfl (by omega) (sortsU _) (enters_of Tryz.func55 (by kernel_rfl) rfl) 102 #[.pointer (some ⟨Bm, 0, none⟩)] trivial (enters_of Tryz.func102 (by kernel_rfl) rfl) _ L.length (by have : maxLen = 9223372036854775807 := rfl; omega) (by omega) w (keysAGives Fence.wide _ trivial rfl (by omega) Bm b L w hBm hm hown)).mono ?_
  rintro e w' ⟨v, ss, rfl, hp, hrow, -, hb⟩
  have h1 : ss.length = L.length := by simpa using hp.length_eq
  rw [h1, sort_perm hp] at hrow
  exact ⟨v, rfl, hrow, hb⟩

set_option maxRecDepth 100000 in
set_option maxHeartbeats 1000000 in
theorem keysB1 (F : Fence) (n : Nat) (h10 : F.fn 100) (hro : F.round = none) (hn : 1 ≤ n) (l Bm b : Nat) (L : List (Int × Value)) (J : List Int → World → Prop)
    (hY : ∀ pre x W, J pre W → pre.length < L.length → YieldAt F (n - 1) Tryz.prog l #[encU x] W fun e W' => e = .returned (.bool true) ∧ J (pre ++ [x]) W' ∧ KeepsWalks W W')
    (W : World) (hJ : AbidesFrom W.heap.size J) (hm : W.cell? ⟨Bm, 0, none⟩ = some (.map (some b))) (hown : MapAt W (Value.int .u64) b L) (h0 : J [] W) :
    CallsIn F n Tryz.prog 100 #[.func (.yield l) #[] #[], .pointer (some ⟨Bm, 0, none⟩)] W fun e W' => (∃ v, e = .returned v) ∧ ∃ ss : List Int, ss.Perm (L.map (·.1)) ∧ J ss W' := by
  refine callsIn_of_wp Tryz.func100 rfl h10 ?_ hro
  simp only [Tryz.ntmps100, List.size_toArray, List.length_cons, List.length_nil, Nat.reduceAdd, Nat.reduceSub, Array.replicate_succ, Array.replicate_zero, List.push_toArray, List.append_toArray, List.nil_append, List.cons_append]
  obtain ⟨w0, hr0, hit0, hg0, hs0⟩ := run_range (P := Tryz.prog) Tryz.underlying123 hown
  gi_wp2
  clear hr0
  gi_loopw [3] (fun _ wr => ∃ (R : List (Int × Value)) (ss : List Int), IterAt wr (Value.int .u64) b W.heap.size L R ∧ (ss ++ R.map (·.1)).Perm (L.map (·.1)) ∧ J ss wr)
    (fun _ wr => iterLeft wr b W.heap.size)
  case atStart => exact ⟨L, [], hit0, by simp, hJ [] W w0 none h0 hg0 (fun r e => by cases e)⟩
  case round =>
    obtain ⟨R, ss, hit, hp, hJs⟩ := hrel
    by_cases hR : R = []
    · subst hR
      have hnx := fun ty => run_next_over (P := Tryz.prog) hit ty
      gi_wp2
      go_end0
      exact ⟨⟨_, rfl⟩, ss, by simpa using hp, hJs⟩
    · obtain ⟨w2, R1, a, v, R2, hnx, rfl, hit2, hen, hg2, hs2⟩ := run_next_some (P := Tryz.prog) hit hR
      have hent := run_entry (P := Tryz.prog) hen
      have hJ2 : J ss w2 := hJ ss wr w2 (some W.heap.size) hJs hg2 (fun r e => by cases e; exact ⟨Nat.le_refl _, hit.walk⟩)
      have hlen : ss.length < L.length := by
        have := hp.length_eq
        simp at this
        omega
      obtain ⟨fn, tmps, assign, body, hy, hR'⟩ := hY ss a w2 hJ2 hlen
      simp only [encU] at hy
      clear hs2 hg2
      gi_wp2
      refine hR'.mono ?_
      rintro e W3 ⟨rfl, hJ3, hk3⟩
      gi_wp2
      have hit3 := hit2.walks hk3
      go_roundw
      case rel => exact ⟨R1 ++ R2, ss ++ [a], hit3, by refine List.Perm.trans ?_ hp; simp only [List.map_append, List.map_cons, List.append_assoc, List.singleton_append]; exact List.Perm.append_left ss List.perm_middle.symm, hJ3⟩
      case measure => rw [hit3.left_eq, hit.left_eq]; simp

theorem keysBGives (F : Fence) (n : Nat) (h10 : F.fn 100) (hro : F.round = none) (hn : 1 ≤ n) (Bm b : Nat) (L : List (Int × Value)) (w : World) (hBm : Bm < w.heap.size)
    (hm : w.cell? ⟨Bm, 0, none⟩ = some (.map (some b))) (hown : MapAt w (Value.int .u64) b L) :
    SeqGives F n Tryz.prog 100 #[.pointer (some ⟨Bm, 0, none⟩)] encU (fun ss => ss.Perm (L.map (·.1))) L.length w := fun l J W hW hJ hY h0 =>
  keysB1 F n h10 hro hn l Bm b L J hY W hJ ((hW.cell (p := ⟨Bm, 0, none⟩) hBm).trans hm) (hown.kept (hW.block b hown.lt)) h0

theorem keysB (mb : Option Nat) (w : World) :
    Calls Tryz.prog 74 #[.map mb] w fun e w' => e = .returned (.func (.func 100) #[] #[.pointer (some ⟨w.heap.size, 0, none⟩)]) ∧ w' = w.alloc (.cells #[.map mb] 123) := by
  go_enter Tryz.func74, Tryz.ntmps74
  go_wp2
  go_ret
  exact ⟨rfl, rfl⟩

theorem sortedKeysB (Bm b : Nat) (L : List (Int × Value)) (w : World) (hBm : Bm < w.heap.size) (hm : w.cell? ⟨Bm, 0, none⟩ = some (.map (some b))) (hown : MapAt w (Value.int .u64) b L) (hmax : L.length ≤ 1000000) :
    Calls Tryz.prog 73 #[.func (.func 100) #[] #[.pointer (some ⟨Bm, 0, none⟩)]] w fun e w' => ∃ v : Value, e = .returned v ∧
      w'.ownsRow w.heap.size 36 1 v L.length (((L.map (·.1)).mergeSort fun x y => decide (x ≤ y)).map (Value.int .u64)) ∧ Below w.heap.size w w' := by
  refine (callsIn_wide (n := 5)).1 ?_
  refine (sorted_in Fence.wide 5 trivial trivial trivial trivial rfl (by omega) (sortsU _) (enters_of Tryz.func55 (by kernel_rfl) rfl) 100 #[.pointer (some ⟨Bm, 0, none⟩)] trivial (enters_of Tryz.func100 (by kernel_rfl) rfl) _ L.length (by have : maxLen = 9223372036854775807 := rfl; omega) (by omega) w (keysBGives Fence.wide _ trivial rfl (by omega) Bm b L w hBm hm hown)).mono ?_
  rintro e w' ⟨v, ss, rfl, hp, hrow, -, hb⟩
  have h1 : ss.length = L.length := by simpa using hp.length_eq
  rw [h1, sort_perm hp] at hrow
  exact ⟨v, rfl, hrow, hb⟩

end Go.Proofs.YtpjbkaibgajpcaaGreat

namespace Go.Proofs.YtpjbkaibgajpcaaGreat
open Go.RowKit Go.Maps Go.Sort Go.ChangeMaps
set_option maxRecDepth 20000

set_option maxRecDepth 100000 in
set_option maxHeartbeats 1000000 in
theorem keysA1_nil (F : Fence) (n : Nat) (h10 : F.fn 102) (hro : F.round = none) (l Bm : Nat) (J : List Int → World → Prop) (W : World) (hJ : AbidesFrom W.heap.size J)
    (hm : W.cell? ⟨Bm, 0, none⟩ = some (.map none)) (h0 : J [] W) :
    CallsIn F n Tryz.prog 102 #[.func (.yield l) #[] #[], .pointer (some ⟨Bm, 0, none⟩)] W fun e W' => (∃ v, e = .returned v) ∧ ∃ ss : List Int, ss = [] ∧ J ss W' := by
  refine callsIn_of_wp Tryz.func102 rfl h10 ?_ hro
  simp only [Tryz.ntmps102, List.size_toArray, List.length_cons, List.length_nil, Nat.reduceAdd, Nat.reduceSub, Array.replicate_succ, Array.replicate_zero, List.push_toArray, List.append_toArray, List.nil_append, List.cons_append]
  have hrg := run_range_nilMap (P := Tryz.prog) W 117 36 4 Tryz.underlying117
  have hnx : ∀ ty, (Instr.next (.pointer (some ⟨W.heap.size, 0, none⟩)) false ty).run Tryz.prog (W.alloc (.mapIter none 0 #[] 0)) = _ := fun ty => run_next_nilMap _ ty 0 0 #[]
  gi_wp2
  refine wpIn_loop_rounds 1 ?_
  rw [roundsIn_succ]
  gi_wp2
  go_end0
  exact ⟨⟨_, rfl⟩, [], rfl, hJ [] W _ none h0 (World.grownBy_alloc W _ none) (fun r e => by cases e)⟩

theorem keysA_gives_nil (F : Fence) (n : Nat) (h10 : F.fn 102) (hro : F.round = none) (Bm : Nat) (w : World) (hBm : Bm < w.heap.size) (hm : w.cell? ⟨Bm, 0, none⟩ = some (.map none)) :
    SeqGives F n Tryz.prog 102 #[.pointer (some ⟨Bm, 0, none⟩)] encU (fun ss : List Int => ss = []) 0 w := fun l J W hW hJ _ h0 =>
  keysA1_nil F n h10 hro l Bm J W hJ ((hW.cell (p := ⟨Bm, 0, none⟩) hBm).trans hm) h0

theorem sortedKeysA_nil (Bm : Nat) (w : World) (hBm : Bm < w.heap.size) (hm : w.cell? ⟨Bm, 0, none⟩ = some (.map none)) :
    Calls Tryz.prog 73 #[.func (.func 102) #[] #[.pointer (some ⟨Bm, 0, none⟩)]] w fun e w' => e = .returned (.slice none 0 0) ∧ Below w.heap.size w w' := by
  refine (callsIn_wide (n := 5)).1 ?_
  refine (sorted_in Fence.wide 5 trivial trivial trivial trivial rfl (by omega) (sortsU _) (enters_of Tryz.func55 (by kernel_rfl) rfl) 102 #[.pointer (some ⟨Bm, 0, none⟩)] trivial (enters_of Tryz.func102 (by kernel_rfl) rfl) _ 0 (Nat.zero_le _) (by omega) w (keysA_gives_nil Fence.wide _ trivial rfl Bm w hBm hm)).mono ?_
  rintro e w' ⟨v, ss, rfl, rfl, -, hn, hb⟩
  exact ⟨by rw [hn.2 rfl], hb⟩

end Go.Proofs.YtpjbkaibgajpcaaGreat

namespace Go.Proofs.YtpjbkaibgajpcaaGreat
open Go.RowKit Go.ChangeMaps
set_option maxRecDepth 20000

def sortZ (l : List Int) : List Int := l.mergeSort fun x y => decide (x ≤ y)

def NewNumsG (w : World) (l : List Int) (e : Ending) (w' : World) : Prop :=
  ∃ v : Value, e = .returned v ∧ w'.ownsRow w.heap.size 36 1 v l.length (l.map (Value.int .u64)) ∧ Below w.heap.size w w'

def nearZ (Q : Gr) (k : Int) : List Int := ((Q.find? fun q => decide (q.1 = k)).map fun q => sortZ (q.2.2.map (·.1))).getD []

set_option maxRecDepth 100000 in
set_option maxHeartbeats 4000000 in
theorem gNear (w : World) (p m : Nat) (Q : Gr) (k : Int) (h : GrAt w p m Q) (hQ : ∀ q ∈ Q, q.2.2.length ≤ 1000000) :
    Calls Tryz.prog 45 #[.pointer (some ⟨p, 0, none⟩), .int .u64 k] w (NewNumsG w (nearZ Q k)) := by
  have hc := h.get
  cases hb : hasB Q k with
  | true =>
    obtain ⟨q, hq, rfl, hf, -⟩ := getK_outer_some hb
    have hl := h.look hq
    have cK := keysA (some q.2.1) w
    have hi := h.inner q hq
    have hi' : MapAt (w.alloc (.cells #[.map (some q.2.1)] 117)) (Value.int .u64) q.2.1 (innerL q.2.2) := hi.kept (heap_alloc_old _ _ hi.lt)
    have cS := sortedKeysA w.heap.size q.2.1 (innerL q.2.2) (w.alloc (.cells #[.map (some q.2.1)] 117)) (by simp) (by simp) hi' (by simpa [innerL] using hQ q hq)
    have hz : nearZ Q q.1 = sortZ (q.2.2.map (·.1)) := by unfold nearZ; rw [hf]; rfl
    have hn : (innerL q.2.2).map (·.1) = q.2.2.map (·.1) := by simp [innerL, Function.comp_def]
    rw [hz]
    rw [hn] at cS
    have hlen : (innerL q.2.2).length = (sortZ (q.2.2.map (·.1))).length := by simp [innerL, sortZ]
    rw [hlen] at cS
    clear h hi hi' hz hn hlen
    go_enter Tryz.func45, Tryz.ntmps45
    go_wp2_with (first
      | (go_at_call 77; refine cK.mono ?_; rintro e w' ⟨rfl, rfl⟩)
      | (go_at_call 73; refine cS.mono ?_; rintro e w2 ⟨v, rfl, hr, hbl⟩; have HR := Lib.hid hr; have HB := Lib.hid hbl; clear hr hbl))
    go_ret
    exact ⟨v, rfl, own_mono HR.out (by simp), ((Below.refl _ w).alloc (Nat.le_refl _) _).trans (HB.out.mono (by simp))⟩
  | false =>
    have hl := run_look KO64 Tryz.underlying123 h.outer (zeroM w) k false
    rw [getK_outer_none hb] at hl
    simp only [Option.getD_none, Bool.false_eq_true, if_false] at hl
    have cK := keysA none w
    have cS := sortedKeysA_nil w.heap.size (w.alloc (.cells #[.map none] 117)) (by simp) (by simp)
    have hz : nearZ Q k = [] := by
      unfold nearZ
      rw [List.find?_eq_none.2]
      · rfl
      · intro q hq
        simp only [hasB, List.any_eq_false] at hb
        exact hb q hq
    rw [hz]
    clear h
    go_enter Tryz.func45, Tryz.ntmps45
    go_wp2_with (first
      | (go_at_call 77; refine cK.mono ?_; rintro e w' ⟨rfl, rfl⟩)
      | (go_at_call 73; refine cS.mono ?_; rintro e w2 ⟨rfl, hbl⟩; have HB := Lib.hid hbl; clear hbl))
    go_ret
    exact ⟨.slice none 0 0, rfl, ⟨rfl, .inl ⟨rfl, rfl⟩⟩, ((Below.refl _ w).alloc (Nat.le_refl _) _).trans (HB.out.mono (by simp))⟩

end Go.Proofs.YtpjbkaibgajpcaaGreat

namespace Go.Proofs.YtpjbkaibgajpcaaGreat
open Go.RowKit Go.ChangeMaps
set_option maxRecDepth 20000

set_option maxRecDepth 100000 in
set_option maxHeartbeats 4000000 in
theorem gKeys (w : World) (p m : Nat) (Q : Gr) (h : GrAt w p m Q) (hQ : Q.length ≤ 1000000) :
    Calls Tryz.prog 43 #[.pointer (some ⟨p, 0, none⟩)] w (NewNumsG w (sortZ (Q.map (·.1)))) := by
  have hc := h.get
  have cK := keysB (some m) w
  have hi := h.outer
  have hi' : MapAt (w.alloc (.cells #[.map (some m)] 123)) (Value.int .u64) m (outerL Q) := hi.kept (heap_alloc_old _ _ hi.lt)
  have cS := sortedKeysB w.heap.size m (outerL Q) (w.alloc (.cells #[.map (some m)] 123)) (by simp) (by simp) hi' (by simpa [outerL] using hQ)
  have hn : (outerL Q).map (·.1) = Q.map (·.1) := by simp [outerL, Function.comp_def]
  rw [hn] at cS
  have hlen : (outerL Q).length = (sortZ (Q.map (·.1))).length := by simp [outerL, sortZ]
  rw [hlen] at cS
  clear h hi hi' hn hlen
  go_enter Tryz.func43, Tryz.ntmps43
  go_wp2_with (first
    | (go_at_call 74; refine cK.mono ?_; rintro e w' ⟨rfl, rfl⟩)
    | (go_at_call 73; refine cS.mono ?_; rintro e w2 ⟨v, rfl, hr, hbl⟩; have HR := Lib.hid hr; have HB := Lib.hid hbl; clear hr hbl))
  go_ret
  exact ⟨v, rfl, own_mono HR.out (by simp), ((Below.refl _ w).alloc (Nat.le_refl _) _).trans (HB.out.mono (by simp))⟩

end Go.Proofs.YtpjbkaibgajpcaaGreat
