/-
  slices.Sorted(maps.Keys(m)) at uint64, of a nil map.
  graph: Near, Keys.
  graph: Keys.
  graph: New.
  graph: to go through all that can be come to: what is kept on the way.
  graph: Soft: of the near ones those whose edges aren't needed.
  graph: Soft.
  graph's document: Reach.
-/
import Derived.Test.YtpjbkaibgajpcaaJ35
import Derived.Test.YtpjbkaibgajpcaaJ24
import Derived.Test.YtpjbkaibgajpcaaJ10
import Derived.Lib.OwnBridge
import Derived.Shelf.SlicesE.DeleteFunc
import Derived.Test.YtpjbkaibgajpcaaJ19
import Derived.Test.YtpjbkaibgajpcaaJ01
namespace Go.Proofs.Ytpjbkaibgajpcaa
open Go.RowKit Go.Maps Go.Sort Go.ChangeMaps

set_option maxRecDepth 100000 in
set_option maxHeartbeats 1000000 in
theorem keysA1_nil (F : Fence) (n : Nat) (h10 : F.fn 74) (hro : F.round = none) (l Bm : Nat) (J : List Int → World → Prop) (W : World) (hJ : AbidesFrom W.heap.size J)
    (hm : W.cell? ⟨Bm, 0, none⟩ = some (.map none)) (h0 : J [] W) :
    CallsIn F n Try.prog 74 #[.func (.yield l) #[] #[], .pointer (some ⟨Bm, 0, none⟩)] W fun e W' => (∃ v, e = .returned v) ∧ ∃ ss : List Int, ss = [] ∧ J ss W' := by
  refine callsIn_of_wp Try.func74 rfl h10 ?_ hro
  simp only [Try.ntmps74, List.size_toArray, List.length_cons, List.length_nil, Nat.reduceAdd, Nat.reduceSub, Array.replicate_succ, Array.replicate_zero, List.push_toArray, List.append_toArray, List.nil_append, List.cons_append]
  have hrg := run_range_nilMap (P := Try.prog) W 71 22 4 Try.underlying71
  have hnx : ∀ ty, (Instr.next (.pointer (some ⟨W.heap.size, 0, none⟩)) false ty).run Try.prog (W.alloc (.mapIter none 0 #[] 0)) = _ := fun ty => run_next_nilMap _ ty 0 0 #[]
  gi_wp2
  refine wpIn_loop_rounds 1 ?_
  rw [roundsIn_succ]
  gi_wp2
  go_end0
  exact ⟨⟨_, rfl⟩, [], rfl, hJ [] W _ none h0 (World.grownBy_alloc W _ none) (fun r e => by cases e)⟩

theorem keysA_gives_nil (F : Fence) (n : Nat) (h10 : F.fn 74) (hro : F.round = none) (Bm : Nat) (w : World) (hBm : Bm < w.heap.size) (hm : w.cell? ⟨Bm, 0, none⟩ = some (.map none)) :
    SeqGives F n Try.prog 74 #[.pointer (some ⟨Bm, 0, none⟩)] encU (fun ss : List Int => ss = []) 0 w := fun l J W hW hJ _ h0 =>
  keysA1_nil F n h10 hro l Bm J W hJ ((hW.cell (p := ⟨Bm, 0, none⟩) hBm).trans hm) h0

theorem sortedKeysA_nil (Bm : Nat) (w : World) (hBm : Bm < w.heap.size) (hm : w.cell? ⟨Bm, 0, none⟩ = some (.map none)) :
    Calls Try.prog 47 #[.func (.func 74) #[] #[.pointer (some ⟨Bm, 0, none⟩)]] w fun e w' => e = .returned (.slice none 0 0) ∧ Below w.heap.size w w' := by
  refine (callsIn_wide (n := 5)).1 ?_
  refine (sorted_in Fence.wide 5 trivial trivial trivial trivial rfl (by omega) (sortsU _) (enters_of Try.func21 (by kernel_rfl) rfl) 74 #[.pointer (some ⟨Bm, 0, none⟩)] trivial (enters_of Try.func74 (by kernel_rfl) rfl) _ 0 (Nat.zero_le _) (by omega) w (keysA_gives_nil Fence.wide _ trivial rfl Bm w hBm hm)).mono ?_
  rintro e w' ⟨v, ss, rfl, rfl, -, hn, hb⟩
  exact ⟨by rw [hn.2 rfl], hb⟩

end Go.Proofs.Ytpjbkaibgajpcaa

namespace Go.Proofs.Ytpjbkaibgajpcaa
open Go.RowKit Go.ChangeMaps

/-- rising -/
def sortZ (l : List Int) : List Int := l.mergeSort fun x y => decide (x ≤ y)

/-- a list of numbers of the call's own -/
def NewNumsG (w : World) (l : List Int) (e : Ending) (w' : World) : Prop :=
  ∃ v : Value, e = .returned v ∧ w'.ownsRow w.heap.size 22 1 v l.length (l.map (Value.int .u64)) ∧ Below w.heap.size w w'

def nearZ (Q : Gr) (k : Int) : List Int := ((Q.find? fun q => decide (q.1 = k)).map fun q => sortZ (q.2.2.map (·.1))).getD []

set_option maxRecDepth 100000 in
set_option maxHeartbeats 4000000 in
theorem gNear (w : World) (p m : Nat) (Q : Gr) (k : Int) (h : GrAt w p m Q) (hQ : ∀ q ∈ Q, q.2.2.length ≤ 1000000) :
    Calls Try.prog 29 #[.pointer (some ⟨p, 0, none⟩), .int .u64 k] w (NewNumsG w (nearZ Q k)) := by
  have hc := h.get
  cases hb : hasB Q k with
  | true =>
    obtain ⟨q, hq, rfl, hf, -⟩ := getK_outer_some hb
    have hl := h.look hq
    have cK := keysA (some q.2.1) w
    have hi := h.inner q hq
    have hi' : MapAt (w.alloc (.cells #[.map (some q.2.1)] 71)) (Value.int .u64) q.2.1 (innerL q.2.2) := hi.kept (heap_alloc_old _ _ hi.lt)
    have cS := sortedKeysA w.heap.size q.2.1 (innerL q.2.2) (w.alloc (.cells #[.map (some q.2.1)] 71)) (by simp) (by simp) hi' (by simpa [innerL] using hQ q hq)
    have hz : nearZ Q q.1 = sortZ (q.2.2.map (·.1)) := by unfold nearZ; rw [hf]; rfl
    have hn : (innerL q.2.2).map (·.1) = q.2.2.map (·.1) := by simp [innerL, Function.comp_def]
    rw [hz]
    rw [hn] at cS
    have hlen : (innerL q.2.2).length = (sortZ (q.2.2.map (·.1))).length := by simp [innerL, sortZ]
    rw [hlen] at cS
    clear h hi hi' hz hn hlen
    go_enter Try.func29, Try.ntmps29
    go_wp2_with (first
      | (go_at_call 48; refine cK.mono ?_; rintro e w' ⟨rfl, rfl⟩)
      | (go_at_call 47; refine cS.mono ?_; rintro e w2 ⟨v, rfl, hr, hbl⟩; have HR := Lib.hid hr; have HB := Lib.hid hbl; clear hr hbl))
    go_ret
    exact ⟨v, rfl, own_mono HR.out (by simp), ((Below.refl _ w).alloc (Nat.le_refl _) _).trans (HB.out.mono (by simp))⟩
  | false =>
    have hl := run_look KO64 Try.underlying80 h.outer (zeroM w) k false
    rw [getK_outer_none hb] at hl
    simp only [Option.getD_none, Bool.false_eq_true, if_false] at hl
    have cK := keysA none w
    have cS := sortedKeysA_nil w.heap.size (w.alloc (.cells #[.map none] 71)) (by simp) (by simp)
    have hz : nearZ Q k = [] := by
      unfold nearZ
      rw [List.find?_eq_none.2]
      · rfl
      · intro q hq
        simp only [hasB, List.any_eq_false] at hb
        exact hb q hq
    rw [hz]
    clear h
    go_enter Try.func29, Try.ntmps29
    go_wp2_with (first
      | (go_at_call 48; refine cK.mono ?_; rintro e w' ⟨rfl, rfl⟩)
      | (go_at_call 47; refine cS.mono ?_; rintro e w2 ⟨rfl, hbl⟩; have HB := Lib.hid hbl; clear hbl))
    go_ret
    exact ⟨.slice none 0 0, rfl, ⟨rfl, .inl ⟨rfl, rfl⟩⟩, ((Below.refl _ w).alloc (Nat.le_refl _) _).trans (HB.out.mono (by simp))⟩

end Go.Proofs.Ytpjbkaibgajpcaa

namespace Go.Proofs.Ytpjbkaibgajpcaa
open Go.RowKit Go.ChangeMaps

set_option maxRecDepth 100000 in
set_option maxHeartbeats 4000000 in
theorem gKeys (w : World) (p m : Nat) (Q : Gr) (h : GrAt w p m Q) (hQ : Q.length ≤ 1000000) :
    Calls Try.prog 31 #[.pointer (some ⟨p, 0, none⟩)] w (NewNumsG w (sortZ (Q.map (·.1)))) := by
  have hc := h.get
  have cK := keysB (some m) w
  have hi := h.outer
  have hi' : MapAt (w.alloc (.cells #[.map (some m)] 80)) (Value.int .u64) m (outerL Q) := hi.kept (heap_alloc_old _ _ hi.lt)
  have cS := sortedKeysB w.heap.size m (outerL Q) (w.alloc (.cells #[.map (some m)] 80)) (by simp) (by simp) hi' (by simpa [outerL] using hQ)
  have hn : (outerL Q).map (·.1) = Q.map (·.1) := by simp [outerL, Function.comp_def]
  rw [hn] at cS
  have hlen : (outerL Q).length = (sortZ (Q.map (·.1))).length := by simp [outerL, sortZ]
  rw [hlen] at cS
  clear h hi hi' hn hlen
  go_enter Try.func31, Try.ntmps31
  go_wp2_with (first
    | (go_at_call 51; refine cK.mono ?_; rintro e w' ⟨rfl, rfl⟩)
    | (go_at_call 47; refine cS.mono ?_; rintro e w2 ⟨v, rfl, hr, hbl⟩; have HR := Lib.hid hr; have HB := Lib.hid hbl; clear hr hbl))
  go_ret
  exact ⟨v, rfl, own_mono HR.out (by simp), ((Below.refl _ w).alloc (Nat.le_refl _) _).trans (HB.out.mono (by simp))⟩

end Go.Proofs.Ytpjbkaibgajpcaa

namespace Go.Proofs.Ytpjbkaibgajpcaa
open Go.RowKit Go.ChangeMaps

/-- nodes, each once, in the order of their first coming -/
def addAll (l : List Int) (xs : List Int) : List Int := xs.foldl (fun l x => if x ∈ l then l else l ++ [x]) l

theorem hasB_mem (Q : Gr) (k : Int) : hasB Q k = decide (k ∈ Q.map (·.1)) := by
  rw [Bool.eq_iff_iff]
  simp only [hasB, List.any_eq_true, decide_eq_true_eq, List.mem_map]

theorem addAll_snoc (l xs : List Int) (x : Int) : addAll l (xs ++ [x]) = if x ∈ addAll l xs then addAll l xs else addAll l xs ++ [x] := by
  unfold addAll
  rw [List.foldl_append]
  rfl

/-- a graph of the call's own, whose nodes have no edges -/
structure NewGr (B : Nat) (w : World) (p m : Nat) (Q : Gr) (ks : List Int) : Prop where
  at_ : GrAt w p m Q
  nodes : Q.map (·.1) = ks
  bare : ∀ q ∈ Q, q.2.2 = [] ∧ B ≤ q.2.1
  base : B ≤ p ∧ B ≤ m

set_option maxRecDepth 100000 in
set_option maxHeartbeats 4000000 in
theorem gNew (w : World) (xs : List Int) (v : Value) (hN : Nums w .u64 v xs) (hb : LiesIn (fun b => b < w.heap.size) v xs.length) (hn : xs.length ≤ 1000000) :
    Calls Try.prog 23 #[v] w fun e w' => ∃ p m Q, e = .returned (.pointer (some ⟨p, 0, none⟩)) ∧ NewGr w.heap.size w' p m Q (addAll [] xs) ∧ Below w.heap.size w w' := by
  have hmm := @run_makeMap Try.prog
  obtain ⟨sp, cap, rfl, hcap, hbig, -, hc⟩ := hN.slice
  have hl : xs.length ≤ 9223372036854775807 := by omega
  clear hcap hbig hN
  go_enter Try.func23, Try.ntmps23
  go_wp2_with fail
  go_loopg [11] xs.length (fun q i wr => ∃ (k : Nat) (Q : Gr), q = xs.length - k ∧ k ≤ xs.length ∧ i = .int .i64 k ∧ NewGr w.heap.size wr (w.heap.size + 1) w.heap.size Q (addAll [] (xs.take k)) ∧ Below w.heap.size w wr)
  case atStart =>
    have hB : Below w.heap.size w ((w.alloc (.map #[] 0)).alloc (.cells #[.map (some w.heap.size)] 82)) := ((Below.refl _ w).alloc (Nat.le_refl _) _).alloc (by simp) _
    refine ⟨0, [], by simp, by omega, rfl, ⟨⟨?_, ?_, by simp, by simp⟩, rfl, by simp, by omega⟩, hB⟩
    · have := World.alloc_heap_new (w.alloc (.map #[] 0)) (.cells #[.map (some w.heap.size)] 82)
      rwa [World.size_alloc] at this
    · exact (MapAt.made w).kept (heap_alloc_old _ _ (by simp))
  case round =>
    obtain ⟨k, Q, rfl, hk, rfl, hG, hB⟩ := hrel
    have HG := Lib.hid hG
    have HB := Lib.hid hB
    have HC := Lib.hid hc
    clear hG hB hc
    by_cases hlt : k < xs.length
    · obtain ⟨b, off, rfl, hcell⟩ := HC.out k hlt
      have hbl : b < w.heap.size := hb (by omega) b rfl
      have hc1 : wr.cell? ⟨b, off + k, none⟩ = some (.int .u64 xs[k]) := (HB.out.cell (p := ⟨b, off + k, none⟩) hbl).trans hcell
      have cA := gAdd wr (w.heap.size + 1) w.heap.size Q xs[k] HG.out.at_
      have ht : xs.take (k + 1) = xs.take k ++ [xs[k]] := by rw [List.take_add_one, List.getElem?_eq_getElem hlt]; rfl
      clear hcell
      go_wp2_with (go_at_call 24; refine cA.mono ?_; rintro e w' (⟨hh, rfl, rfl⟩ | ⟨hh, rfl, hA, hM⟩))
      · have HN : NewGr w.heap.size w' (w.heap.size + 1) w.heap.size Q (addAll [] (xs.take (k + 1))) := by
          rw [ht, addAll_snoc, if_pos]
          · exact HG.out
          · rw [hasB_mem, HG.out.nodes] at hh; simpa using hh
        go_roundg (xs.length - (k + 1))
        case measure => omega
        case rel => exact ⟨k + 1, Q, rfl, by omega, by go_num, HN, HB.out⟩
      · have hs := HB.out.size
        have HN : NewGr w.heap.size w' (w.heap.size + 1) w.heap.size (Q ++ [(xs[k], wr.heap.size, [])]) (addAll [] (xs.take (k + 1))) := by
          rw [ht, addAll_snoc, if_neg]
          · refine ⟨hA, by rw [List.map_append, HG.out.nodes]; rfl, fun q hq => ?_, HG.out.base⟩
            rcases List.mem_append.1 hq with hq | hq
            · exact HG.out.bare q hq
            · rw [List.mem_singleton.1 hq]; exact ⟨rfl, hs⟩
          · rw [hasB_mem, HG.out.nodes] at hh; simpa using hh
        have hB2 := HB.out.trans (hM.below hs (fun k e => by omega))
        go_roundg (xs.length - (k + 1))
        case measure => omega
        case rel => exact ⟨k + 1, _, rfl, by omega, by go_num, HN, hB2⟩
    · go_wp2_with fail
      go_ret
      exact ⟨_, _, Q, rfl, by have := HG.out; rwa [List.take_of_length_le (by omega)] at this, HB.out⟩

end Go.Proofs.Ytpjbkaibgajpcaa

namespace Go.Proofs.Ytpjbkaibgajpcaa
open Go.RowKit Go.ChangeMaps

/-- a way -/
inductive Way (R : Int → Int → Prop) (a : Int) : Int → Prop
  | here : Way R a a
  | step {b c : Int} : Way R a b → R b c → Way R a c

/-- from each node edges lead to nodes -/
def ShutQ (Q : Gr) : Prop := ∀ q ∈ Q, ∀ x ∈ q.2.2, x.1 ∈ Q.map (·.1)

/-- L: what the search has found, in the order in which it was found; it has gone on from the first i -/
structure Found (Q : Gr) (k : Int) (L : List Int) (i : Nat) : Prop where
  nodup : L.Nodup
  start : k ∈ L
  le : i ≤ L.length
  done : ∀ j (hj : j < L.length), j < i → ∀ y ∈ nearZ Q L[j], y ∈ L
  way : ∀ x ∈ L, Way (fun a b => b ∈ nearZ Q a) k x
  node : ∀ x ∈ L, x ∈ Q.map (·.1)

theorem mem_sortZ {l : List Int} {x : Int} : x ∈ sortZ l ↔ x ∈ l := (List.mergeSort_perm l _).mem_iff

theorem nodup_sortZ {l : List Int} : (sortZ l).Nodup ↔ l.Nodup := (List.mergeSort_perm l _).nodup_iff

theorem near_node {Q : Gr} (h : ShutQ Q) {a x : Int} (hx : x ∈ nearZ Q a) : x ∈ Q.map (·.1) := by
  unfold nearZ at hx
  cases hf : Q.find? fun q => decide (q.1 = a) with
  | none => rw [hf] at hx; simp at hx
  | some q =>
    rw [hf] at hx
    simp only [Option.map_some, Option.getD_some] at hx
    rw [mem_sortZ, List.mem_map] at hx
    obtain ⟨e, he, rfl⟩ := hx
    exact h q (List.mem_of_find?_eq_some hf) e he

theorem mem_addAll {l xs : List Int} {x : Int} : x ∈ addAll l xs ↔ x ∈ l ∨ x ∈ xs := by
  induction xs generalizing l with
  | nil => simp [addAll]
  | cons y xs ih =>
    show x ∈ addAll (if y ∈ l then l else l ++ [y]) xs ↔ _
    rw [ih]
    split
    · next h =>
      rw [List.mem_cons]
      constructor
      · rintro (h1 | h1)
        · exact .inl h1
        · exact .inr (.inr h1)
      · rintro (h1 | rfl | h1)
        · exact .inl h1
        · exact .inl h
        · exact .inr h1
    · rw [List.mem_append, List.mem_singleton, List.mem_cons, or_assoc]

theorem nodup_addAll {l xs : List Int} (h : l.Nodup) : (addAll l xs).Nodup := by
  induction xs generalizing l with
  | nil => exact h
  | cons y xs ih =>
    show (addAll (if y ∈ l then l else l ++ [y]) xs).Nodup
    refine ih ?_
    split
    · exact h
    · next hy =>
      rw [List.nodup_append]
      exact ⟨h, by simp, fun a ha b hb => by rw [List.mem_singleton] at hb; rintro rfl; exact hy (hb ▸ ha)⟩

theorem addAll_more (l xs : List Int) : ∃ t, addAll l xs = l ++ t := by
  induction xs generalizing l with
  | nil => exact ⟨[], by simp [addAll]⟩
  | cons y xs ih =>
    show ∃ t, addAll (if y ∈ l then l else l ++ [y]) xs = l ++ t
    split
    · exact ih l
    · obtain ⟨t, ht⟩ := ih (l ++ [y])
      exact ⟨y :: t, by rw [ht, List.append_assoc]; rfl⟩

theorem Found.first {Q : Gr} {k : Int} (h : hasB Q k = true) : Found Q k [k] 0 := by
  refine ⟨by simp, by simp, by simp, fun j _ h => absurd h (Nat.not_lt_zero _), fun x hx => ?_, fun x hx => ?_⟩
  · rw [List.mem_singleton] at hx; subst hx; exact .here
  · rw [List.mem_singleton] at hx; subst hx; rw [hasB_mem] at h; simpa using h

theorem Found.next {Q : Gr} {k : Int} {L : List Int} {i : Nat} (h : Found Q k L i) (hs : ShutQ Q) (hi : i < L.length) : Found Q k (addAll L (nearZ Q L[i])) (i + 1) := by
  obtain ⟨t, ht⟩ := addAll_more L (nearZ Q L[i])
  refine ⟨nodup_addAll h.nodup, mem_addAll.2 (.inl h.start), by rw [ht, List.length_append]; omega, fun j hj hji y hy => ?_, fun x hx => ?_, fun x hx => ?_⟩
  · have hjl : j < L.length := by omega
    have e : (addAll L (nearZ Q L[i]))[j] = L[j] := by
      have : (addAll L (nearZ Q L[i]))[j]? = L[j]? := by rw [ht, List.getElem?_append_left hjl]
      rw [List.getElem?_eq_getElem hj, List.getElem?_eq_getElem hjl] at this
      exact Option.some.inj this
    rw [e] at hy
    rw [mem_addAll]
    rcases Nat.lt_or_ge j i with h1 | h1
    · exact .inl (h.done j hjl h1 y hy)
    · obtain rfl : j = i := by omega
      exact .inr hy
  · rcases mem_addAll.1 hx with h1 | h1
    · exact h.way x h1
    · exact .step (h.way _ (List.getElem_mem hi)) h1
  · rcases mem_addAll.1 hx with h1 | h1
    · exact h.node x h1
    · exact near_node hs h1

theorem nodup_le : ∀ {l K : List Int}, l.Nodup → (∀ x ∈ l, x ∈ K) → l.length ≤ K.length
  | [], _, _, _ => Nat.zero_le _
  | a :: l, K, hn, hs => by
    rw [List.nodup_cons] at hn
    have ha : a ∈ K := hs a (List.mem_cons_self ..)
    have := nodup_le (l := l) (K := K.erase a) hn.2 fun x hx => (List.mem_erase_of_ne (by rintro rfl; exact hn.1 hx)).2 (hs x (List.mem_cons_of_mem _ hx))
    rw [List.length_erase_of_mem ha] at this
    have := List.length_pos_of_mem ha
    simp only [List.length_cons]
    omega

theorem Found.len {Q : Gr} {k : Int} {L : List Int} {i : Nat} (h : Found Q k L i) : L.length ≤ Q.length := by
  have := nodup_le h.nodup h.node
  simpa using this

theorem Found.part {Q : Gr} {k : Int} {L : List Int} {i : Nat} (h : Found Q k L i) (hs : ShutQ Q) (hi : i < L.length) (j : Nat) : (addAll L ((nearZ Q L[i]).take j)).length ≤ Q.length := by
  have := nodup_le (l := addAll L ((nearZ Q L[i]).take j)) (K := Q.map (·.1)) (nodup_addAll h.nodup) (fun x hx => by
    rcases mem_addAll.1 hx with h1 | h1
    · exact h.node x h1
    · exact near_node hs (List.mem_of_mem_take h1))
  simpa using this

/-- all that can be come to, and no other -/
theorem Found.all {Q : Gr} {k : Int} {L : List Int} (h : Found Q k L L.length) (x : Int) : x ∈ L ↔ Way (fun a b => b ∈ nearZ Q a) k x := by
  refine ⟨h.way x, fun hw => ?_⟩
  induction hw with
  | here => exact h.start
  | step _ hr ih =>
    obtain ⟨j, hj, rfl⟩ := List.mem_iff_getElem.1 ih
    exact h.done j hj hj _ hr

/-- what has been seen -/
def seenL (L : List Int) : List (Int × Value) := L.map fun x => (x, .bool true)

theorem getK_seen (L : List Int) (x : Int) : getK (seenL L) x = if x ∈ L then some (.bool true) else none := by
  induction L with
  | nil => simp [getK, seenL]
  | cons y L ih =>
    unfold getK seenL at *
    by_cases h : y = x
    · subst h; simp
    · have h2 : ¬ x = y := fun e => h e.symm
      simp only [List.map_cons, List.find?_cons, h, decide_false, List.mem_cons, h2, false_or]
      exact ih

theorem seen_new {L : List Int} {x : Int} (h : x ∉ L) : putK (seenL L) x (.bool true) = seenL (L ++ [x]) := by
  rw [putK_new]
  · simp [seenL]
  · rw [List.findIdx?_eq_none_iff]
    intro e he
    simp only [seenL, List.mem_map] at he
    obtain ⟨y, hy, rfl⟩ := he
    simp only [decide_eq_false_iff_not]
    rintro rfl
    exact h hy

theorem rowU : RowTy Try.prog 38 22 1 8 (.int .u64 0) := ⟨Try.underlying38, by kernel_rfl, rfl, by decide⟩

/-- the search's own: what has been seen (map sm), what is to do (from i on) -/
structure SearchI (B p m sm g off cap : Nat) (Q : Gr) (L : List Int) (i : Nat) (w : World) : Prop where
  gr : GrAt w p m Q
  seen : MapAt w (Value.int .u64) sm (seenL L)
  q : Queue w B 22 g off cap ((L.drop i).map (Value.int .u64))
  low : B ≤ sm
  big : B ≤ w.heap.size
  graph : p < B ∧ m < B ∧ ∀ q ∈ Q, q.2.1 < B

theorem SearchI.ne {B p m sm g off cap : Nat} {Q : Gr} {L : List Int} {i : Nat} {w : World} (h : SearchI B p m sm g off cap Q L i w) : g ≠ sm := by
  obtain ⟨cur, h1, -⟩ := h.q.blk
  obtain ⟨es, c, hi⟩ := h.seen
  rintro rfl
  rw [hi.obj] at h1
  cases h1

theorem own_not_map {w : World} {B e s n b : Nat} {v : Value} {xs : List Value} {α : Type} {mk : α → Value} {L : List (α × Value)} (h : w.ownsRow B e s v n xs) (hm : MapAt w mk b L) : v.ownBlock ≠ some b := by
  intro he
  obtain ⟨es, c, hi⟩ := hm
  rcases h.2 with ⟨hv, -⟩ | ⟨g, cap, cur, hv, -, hg, -⟩
  · rw [hv] at he; cases he
  · rw [hv] at he
    obtain rfl : g = b := by simpa [Value.ownBlock] using he
    rw [hi.obj] at hg
    cases hg

/-- the blocks below B, the map, the queue are as they were -/
theorem SearchI.kept {B p m sm g off cap : Nat} {Q : Gr} {L : List Int} {i : Nat} {w w' : World} (h : SearchI B p m sm g off cap Q L i w) (hb : Below w.heap.size w w') : SearchI B p m sm g off cap Q L i w' :=
  ⟨h.gr.kept fun k hk => hb.block k hk, h.seen.kept (hb.block _ h.seen.lt), h.q.kept (hb.block _ h.q.lt), h.low, Nat.le_trans h.big hb.size, h.graph⟩

theorem GrAt.low {w w' : World} {p m B : Nat} {Q : Gr} (h : GrAt w p m Q) (hl : p < B ∧ m < B ∧ ∀ q ∈ Q, q.2.1 < B) (hk : ∀ k, k < B → w'.heap[k]? = w.heap[k]?) : GrAt w' p m Q :=
  ⟨(hk p hl.1).trans h.cell, h.outer.kept (hk m hl.2.1), fun q hq => (h.inner q hq).kept (hk _ (hl.2.2 q hq)), h.apart⟩

/-- one more is seen, and to do -/
theorem SearchI.more {B p m sm g off cap : Nat} {Q : Gr} {L : List Int} {i n : Nat} {w : World} (h : SearchI B p m sm g off cap Q L i w) {x : Int} (hx : x ∉ L) (hi : i ≤ L.length) (hl : L.length ≤ 900000) (hn : n = L.length - i) :
    ∃ w5 g' off' cap' w7, (Instr.mapUpdate 71 (.map (some sm)) (.int .u64 x) (.bool true)).run Try.prog w = .ok () w5 ∧
      (∀ ty, (Builtin.append_ #[38, 38] ty #[.slice (some ⟨g, off, none⟩) n cap, .slice (some ⟨w5.heap.size, 0, none⟩) 1 1]).run Try.prog (w5.alloc (.cells #[.int .u64 x] 22)) = .ok (.slice (some ⟨g', off', none⟩) (n + 1) cap') w7) ∧
      SearchI B p m sm g' off' cap' Q (L ++ [x]) i w7 ∧ Below B w w7 ∧ w.heap.size ≤ w7.heap.size ∧ (∀ b, b < w.heap.size → b ≠ g → b ≠ sm → w7.heap[b]? = w.heap[b]?) ∧ (g' = g ∨ w.heap.size ≤ g') := by
  obtain ⟨w5, h5, hm5, hg5, hs5⟩ := run_put KO64 Try.underlying71 h.seen x (.bool true)
  rw [seen_new hx] at hm5
  have hne := h.ne
  have hq5 : Queue w5 B 22 g off cap ((L.drop i).map (Value.int .u64)) := h.q.kept (hg5.block _ h.q.lt (fun e => hne (by cases e; rfl)))
  have hq6 : Queue (w5.alloc (.cells #[.int .u64 x] 22)) B 22 g off cap ((L.drop i).map (Value.int .u64)) := hq5.kept (heap_alloc_old _ _ hq5.lt)
  have hB := h.big
  obtain ⟨g', off', cap', w7, h7, hq7, hg7, hgg⟩ := run_queue (bytes := 8) rowU hq6 (heap_alloc_new w5 (.cells #[.int .u64 x] 22)) rfl (by simp; omega) (by omega) (by simp; omega)
  have hlen : ((L.drop i).map (Value.int .u64)).length = n := by simp [hn]
  rw [hlen] at h7
  have hold : ∀ b, b < w.heap.size → b ≠ g → b ≠ sm → w7.heap[b]? = w.heap[b]? := fun b hb h1 h2 =>
    (hg7.block b (by simp; omega) (fun e => h1 (by cases e; rfl))).trans ((heap_alloc_old w5 _ (by omega)).trans (hg5.block b hb (fun e => h2 (by cases e; rfl))))
  have hsz : w.heap.size ≤ w7.heap.size := by have := hg7.size; rw [World.size_alloc] at this; omega
  have hgB := h.q.own
  have hsB := h.low
  have hbel : Below B w w7 := ⟨hg7.os.trans hg5.os, hg7.tape.trans hg5.tape, hg7.output.trans hg5.output, hsz, fun k hk => by
    rcases Nat.lt_or_ge k w.heap.size with h1 | h1
    · exact hold k h1 (by omega) (by omega)
    · omega⟩
  refine ⟨w5, g', off', cap', w7, h5, h7, ⟨h.gr.low h.graph fun k hk => hbel.block k hk, ?_, ?_, h.low, Nat.le_trans hB hsz, h.graph⟩, hbel, hsz, hold, ?_⟩
  · refine hm5.kept ((hg7.block sm (by simp; have := h.seen.lt; omega) (fun e => hne (by cases e; rfl))).trans (heap_alloc_old w5 _ (by have := h.seen.lt; omega)))
  · rw [List.drop_append_of_le_length hi, List.map_append]
    exact hq7
  · rcases hgg with h1 | h1
    · exact .inl h1
    · right; rw [h1, World.size_alloc]; omega

end Go.Proofs.Ytpjbkaibgajpcaa

namespace Go.Proofs.Ytpjbkaibgajpcaa
open Go.RowKit Go.ChangeMaps Go.Shelf Go.Sort Go.Lib

def delRen : Go.Shelf.Ren := ⟨fun x => if x = 6 then 75 else 49, fun x => match x with | 0 => 0 | 3 => 3 | 4 => 4 | 22 => 38 | 23 => 22 | _ => 42, fun x => x⟩

theorem layDel : SlLaysH.n10 Try.prog delRen where
  mixed := by kernel_rfl
  f6 := ⟨ "slices.IndexFunc[[]uint64,uint64]", by decide, Try.func75.trans (congrArg some (by kernel_rfl))⟩
  f10 := ⟨ "slices.DeleteFunc[[]uint64,uint64]", by decide, Try.func49.trans (congrArg some (by kernel_rfl))⟩
  t0 := Try.underlying0
  a0 := Try.isAgg0
  z0 := Try.sizeOf0
  v0 := Try.zeroValue0
  t3 := Try.underlying3
  a3 := Try.isAgg3
  z3 := Try.sizeOf3
  v3 := Try.zeroValue3
  t4 := Try.underlying4
  a4 := Try.isAgg4
  z4 := Try.sizeOf4
  v4 := Try.zeroValue4
  t22 := Try.underlying38
  a22 := Try.isAgg38
  z22 := Try.sizeOf38
  v22 := Try.zeroValue38
  a23 := Try.isAgg22
  z23 := Try.sizeOf22
  t25 := Try.underlying42
  a25 := Try.isAgg42
  z25 := Try.sizeOf42
  v25 := Try.zeroValue42

/-- is the edge from q to x needed? -/
def needB (E : List (Int × Bool)) (x : Int) : Bool := (edgeO E x).getD false

/-- what the closure reads -/
structure SoftS (Bg Bk p m : Nat) (q : Int × Nat × List (Int × Bool)) (x : Int) (w : World) : Prop where
  g : w.cell? ⟨Bg, 0, none⟩ = some (.pointer (some ⟨p, 0, none⟩))
  k : w.cell? ⟨Bk, 0, none⟩ = some (.int .u64 q.1)
  c : w.cell? ⟨p, 0, none⟩ = some (.map (some m))
  l : (Instr.lookup 80 (.map (some m)) (.int .u64 q.1) false).run Try.prog w = .ok (.map (some q.2.1)) w
  e : (Instr.lookup 71 (.map (some q.2.1)) (.int .u64 x) false).run Try.prog w = .ok (.bool (needB q.2.2 x)) w

set_option maxHeartbeats 2000000 in
theorem soft1 (Bg Bk p m : Nat) (q : Int × Nat × List (Int × Bool)) (x : Int) (w : World) (h : SoftS Bg Bk p m q x w.drew) :
    FnGives Try.prog 50 #[.pointer (some ⟨Bg, 0, none⟩), .pointer (some ⟨Bk, 0, none⟩)] #[.int .u64 x] (.bool (needB q.2.2 x)) w := by
  show Calls Try.prog 50 #[.int .u64 x, .pointer (some ⟨Bg, 0, none⟩), .pointer (some ⟨Bk, 0, none⟩)] w _
  obtain ⟨W, hW⟩ : ∃ W, W = w.drew := ⟨_, rfl⟩
  rw [← hW] at h
  have HW := Lib.hid hW
  obtain ⟨h1, h2, h3, h4, h5⟩ := h
  clear hW
  go_enter Try.func50, Try.ntmps50
  go_wp2_with fail
  refine region_go (fun w' => w'.cell? ⟨Bg, 0, none⟩ = some (.pointer (some ⟨p, 0, none⟩)) ∧ w'.cell? ⟨Bk, 0, none⟩ = some (.int .u64 q.1) ∧ w'.cell? ⟨p, 0, none⟩ = some (.map (some m)) ∧ (Instr.lookup 80 (.map (some m)) (.int .u64 q.1) false).run Try.prog w' = .ok (.map (some q.2.1)) w' ∧ (Instr.lookup 71 (.map (some q.2.1)) (.int .u64 x) false).run Try.prog w' = .ok (.bool (needB q.2.2 x)) w') (by kernel_rfl) ?hS0 (fun hH => ?_)
  case hS0 =>
    rw [← HW.out]; exact ⟨h1, h2, h3, h4, h5⟩
  rw [← HW.out] at hH ⊢
  refine kY 0 hH ?_
  repeat simp only [Act.put, uA1, uB1, uC1]
  refine kY 1 hH ?_
  repeat simp only [Act.put, uA1, uB1, uC1]
  refine kY 2 hH ?_
  repeat simp only [Act.put, uA1, uB1, uC1]
  refine kY 3 hH ?_
  repeat simp only [Act.put, uA1, uB1, uC1]
  refine kY 4 hH ?_
  repeat simp only [Act.put, uA1, uB1, uC1]
  refine kY 5 hH ?_
  repeat simp only [Act.put, uA1, uB1, uC1]
  refine kY 6 hH ?_
  repeat simp only [Act.put, uA1, uB1, uC1]
  refine kY 7 hH ?_
  repeat simp only [Act.put, uA1, uB1, uC1]
  refine kY 8 hH ?_
  repeat simp only [Act.put, uA1, uB1, uC1]
  refine wpAnyH_done (by decide +kernel) ?_ _
  go_wp2
  go_ret
  exact ⟨rfl, 1, HW.out⟩

/-- where the closure reads nothing has turned -/
theorem SoftS.of {Bg Bk p m : Nat} {Q : Gr} {q : Int × Nat × List (Int × Bool)} {w : World} (hG : GrAt w p m Q) (hq : q ∈ Q) (h1 : w.cell? ⟨Bg, 0, none⟩ = some (.pointer (some ⟨p, 0, none⟩))) (h2 : w.cell? ⟨Bk, 0, none⟩ = some (.int .u64 q.1)) (x : Int) : SoftS Bg Bk p m q x w := by
  refine ⟨h1, h2, hG.get, hG.look hq, ?_⟩
  have := hG.edge hq x false
  simpa [needB] using this

theorem del_nil (w : World) (lb : Array Value) (g : Nat) :
    Calls Try.prog 49 #[.slice none 0 0, .func (.func g) #[] lb] w fun e w' => e = .returned (.slice none 0 0) ∧ w' = w := by
  have c1 : Calls Try.prog 75 #[.slice none 0 0, .func (.func g) #[] lb] w fun e w' => e = .returned (.int .i64 (-1)) ∧ w' = w := by
    go_enter Try.func75, Try.ntmps75
    go_wp2_with fail
    refine wp_loop_once ?_
    go_wp2
    go_ret
    exact ⟨rfl, rfl⟩
  go_enter Try.func49, Try.ntmps49
  go_wp2_with (go_at_call 75; refine c1.mono ?_; rintro e w' ⟨rfl, rfl⟩)
  go_ret
  exact ⟨rfl, rfl⟩

end Go.Proofs.Ytpjbkaibgajpcaa

namespace Go.Proofs.Ytpjbkaibgajpcaa
open Go.RowKit Go.ChangeMaps Go.Shelf Go.Sort Go.Lib

def softZ (Q : Gr) (k : Int) : List Int := ((Q.find? fun q => decide (q.1 = k)).map fun q => (sortZ (q.2.2.map (·.1))).filter fun x => !needB q.2.2 x).getD []

theorem softZ_eq {Q : Gr} {k : Int} {q : Int × Nat × List (Int × Bool)} (hf : Q.find? (fun q => decide (q.1 = k)) = some q) : softZ Q k = (nearZ Q k).filter fun x => !needB q.2.2 x := by
  unfold softZ nearZ
  rw [hf]; rfl

theorem softZ_none {Q : Gr} {k : Int} (hb : hasB Q k = false) : softZ Q k = [] ∧ nearZ Q k = [] := by
  unfold softZ nearZ
  rw [List.find?_eq_none.2]
  · exact ⟨rfl, rfl⟩
  · intro q hq
    simp only [hasB, List.any_eq_false] at hb
    exact hb q hq

/-- DeleteFunc on a row of the call's own, by the closure of Soft -/
theorem del_own (w0 w : World) (Bg Bk p m : Nat) (Q : Gr) (q : Int × Nat × List (Int × Bool)) (hq : q ∈ Q) (v : Value) (l : List Int) (hG : GrAt w0 p m Q) (h1 : w0.cell? ⟨Bg, 0, none⟩ = some (.pointer (some ⟨p, 0, none⟩))) (h2 : w0.cell? ⟨Bk, 0, none⟩ = some (.int .u64 q.1))
    (hv : w.ownsRow w0.heap.size 22 1 v l.length (l.map (Value.int .u64))) (hb : Below w0.heap.size w0 w) (hl : l.length ≤ 1000000) :
    Calls Try.prog 49 #[v, .func (.func 50) #[] #[.pointer (some ⟨Bg, 0, none⟩), .pointer (some ⟨Bk, 0, none⟩)]] w fun e w' =>
      ∃ u, e = .returned u ∧ w'.ownsRow w0.heap.size 22 1 u (l.filter fun x => !needB q.2.2 x).length ((l.filter fun x => !needB q.2.2 x).map (Value.int .u64)) ∧ Below w0.heap.size w0 w' := by
  by_cases hn : v = .slice none 0 0
  · subst hn
    have hl0 : l = [] := by
      have := hv.2
      rcases this with ⟨-, h0⟩ | ⟨g, cap, cur, he, -⟩
      · exact List.eq_nil_of_length_eq_zero h0
      · cases he
    subst hl0
    refine (del_nil w _ _).mono ?_
    rintro e w' ⟨rfl, rfl⟩
    exact ⟨_, rfl, hv, hb⟩
  · obtain ⟨g, cap, rfl, hg, hgl, hcap, hmax, -, hH⟩ := holds_of_ownsRow (enc := Value.int .u64) hv hn
    have hGp : ∀ W, Below w0.heap.size w0 W → ∀ x, SoftS Bg Bk p m q x W := fun W hW x =>
      SoftS.of (hG.kept fun k hk => hW.block k hk) hq (below_cells hW h1) (below_cells hW h2) x
    have eg : ∀ args w, (callFunc 50 args).run Try.prog w = .ok (.enter 50 args) w := enters_of Try.func50 (by kernel_rfl) rfl
    have hp : PredAt Try.prog 50 #[.pointer (some ⟨Bg, 0, none⟩), .pointer (some ⟨Bk, 0, none⟩)] (Value.int .u64) (fun x => needB q.2.2 x) w := fun W x hW =>
      soft1 Bg Bk p m q x W (hGp _ ((hb.trans (hW.mono hb.size)).drew) x)
    have hpo : PredOver Try.prog 50 #[.pointer (some ⟨Bg, 0, none⟩), .pointer (some ⟨Bk, 0, none⟩)] (Value.int .u64) (fun x => needB q.2.2 x) g 0 l.toArray.size w := fun n os dk x _ =>
      soft1 Bg Bk p m q x _ (hGp _ (Below.drew (hb.grown (grownBy_sortedU (n := n) (os := os) dk) hb.size (fun b e => by cases e; exact hg))) x)
    have hc := AnyE.slices_DeleteFunc layDel (Value.int .u64) (fun _ => rfl) (fun x => needB q.2.2 x) 50 #[.pointer (some ⟨Bg, 0, none⟩), .pointer (some ⟨Bk, 0, none⟩)] eg 0 Try.zeroValue22 g 0 cap l.toArray w hp hpo hH (by simp; omega) (by simpa using hcap)
    change Calls Try.prog 49 _ _ _ at hc
    simp only [List.size_toArray] at hc
    refine hc.mono ?_
    rintro e w' ⟨rfl, n, rfl⟩
    have hle : (l.filter fun x => !needB q.2.2 x).length ≤ l.length := List.length_filter_le _ _
    have := ownsRow_putRow (q := n) (k := (l.filter fun x => !needB q.2.2 x).length) (ys := (l.filter fun x => !needB q.2.2 x) ++ List.replicate (l.length - (l.filter fun x => !needB q.2.2 x).length) 0) hv (by simp; omega) hle
    rw [List.take_left'  rfl] at this
    exact ⟨_, rfl, this, below_putRow hb hg⟩

theorem near_none (w : World) (p m : Nat) (Q : Gr) (k : Int) (h : GrAt w p m Q) (hb : hasB Q k = false) :
    Calls Try.prog 29 #[.pointer (some ⟨p, 0, none⟩), .int .u64 k] w fun e w' => e = .returned (.slice none 0 0) ∧ Below w.heap.size w w' := by
  have hc := h.get
  have hl := run_look KO64 Try.underlying80 h.outer (zeroM w) k false
  rw [getK_outer_none hb] at hl
  simp only [Option.getD_none, Bool.false_eq_true, if_false] at hl
  have cK := keysA none w
  have cS := sortedKeysA_nil w.heap.size (w.alloc (.cells #[.map none] 71)) (by simp) (by simp)
  clear h
  go_enter Try.func29, Try.ntmps29
  go_wp2_with (first
    | (go_at_call 48; refine cK.mono ?_; rintro e w' ⟨rfl, rfl⟩)
    | (go_at_call 47; refine cS.mono ?_; rintro e w2 ⟨rfl, hbl⟩; have HB := Lib.hid hbl; clear hbl))
  go_ret
  exact ⟨rfl, ((Below.refl _ w).alloc (Nat.le_refl _) _).trans (HB.out.mono (by simp))⟩

set_option maxRecDepth 100000 in
set_option maxHeartbeats 4000000 in
theorem gSoft (w : World) (p m : Nat) (Q : Gr) (k : Int) (h : GrAt w p m Q) (hQ : ∀ q ∈ Q, q.2.2.length ≤ 1000000) :
    Calls Try.prog 30 #[.pointer (some ⟨p, 0, none⟩), .int .u64 k] w (NewNumsG w (softZ Q k)) := by
  obtain ⟨W1, hW1⟩ : ∃ W1, W1 = (w.alloc (.cells #[.pointer (some ⟨p, 0, none⟩)] 46)).alloc (.cells #[.int .u64 k] 22) := ⟨_, rfl⟩
  have hb1 : Below w.heap.size w W1 := by rw [hW1]; exact ((Below.refl _ w).alloc (Nat.le_refl _) _).alloc (by simp) _
  have hs1 : W1.heap.size = w.heap.size + 2 := by rw [hW1]; simp
  have hG1 : GrAt W1 p m Q := h.kept fun j hj => hb1.block j hj
  have c1 : W1.cell? ⟨w.heap.size, 0, none⟩ = some (.pointer (some ⟨p, 0, none⟩)) := by
    rw [hW1]
    simp
  have c2 : W1.cell? ⟨w.heap.size + 1, 0, none⟩ = some (.int .u64 k) := by
    rw [hW1]
    have := World.alloc_heap_new (w.alloc (.cells #[.pointer (some ⟨p, 0, none⟩)] 46)) (.cells #[.int .u64 k] 22)
    rw [World.size_alloc] at this
    rw [World.cell?, this]
    rfl
  have HW := Lib.hid hW1
  cases hbk : hasB Q k with
  | true =>
    obtain ⟨q, hq, rfl, hf, -⟩ := getK_outer_some hbk
    have hlen : (nearZ Q q.1).length ≤ 1000000 := by
      have := hQ q hq
      unfold nearZ
      rw [hf]
      simpa [sortZ] using this
    have cN := gNear W1 p m Q q.1 hG1 hQ
    have cD : ∀ (v : Value) (w2 : World), w2.ownsRow W1.heap.size 22 1 v (nearZ Q q.1).length ((nearZ Q q.1).map (Value.int .u64)) → Below W1.heap.size W1 w2 →
        Calls Try.prog 49 #[v, .func (.func 50) #[] #[.pointer (some ⟨w.heap.size, 0, none⟩), .pointer (some ⟨w.heap.size + 1, 0, none⟩)]] w2 fun e w' => NewNumsG w (softZ Q q.1) e w' := by
      intro v w2 hv hb
      refine (del_own W1 w2 w.heap.size (w.heap.size + 1) p m Q q hq v (nearZ Q q.1) hG1 c1 c2 hv hb hlen).mono ?_
      rintro e w' ⟨u, rfl, hu, hbu⟩
      rw [softZ_eq hf]
      exact ⟨u, rfl, own_mono hu (by omega), hb1.trans (hbu.mono (by omega))⟩
    clear hW1 hG1 c1 c2 h hb1 hs1 hlen hf
    go_enter Try.func30, Try.ntmps30
    go_wp2_with (first
      | (go_at_call 29; rw [← HW.out]; refine cN.mono ?_; rintro e w' ⟨v, rfl, hr, hbl⟩; have HD := cD v w' hr hbl; clear hr hbl)
      | (go_at_call 49; refine HD.mono ?_; rintro e w2 ⟨u, rfl, hr, hbl⟩; have HR := Lib.hid hr; have HB2 := Lib.hid hbl; clear hr hbl))
    go_ret
    exact ⟨u, rfl, HR.out, HB2.out⟩
  | false =>
    have cN := near_none W1 p m Q k hG1 hbk
    have cD : ∀ w2, _ := fun w2 => del_nil w2 #[.pointer (some ⟨w.heap.size, 0, none⟩), .pointer (some ⟨w.heap.size + 1, 0, none⟩)] 50
    rw [(softZ_none hbk).1]
    have HB := Lib.hid (And.intro hb1 hs1)
    clear hW1 hG1 c1 c2 h hb1 hs1
    go_enter Try.func30, Try.ntmps30
    go_wp2_with (first
      | (go_at_call 29; rw [← HW.out]; refine cN.mono ?_; rintro e w' ⟨rfl, hbl⟩; have HB2 := Lib.hid hbl; clear hbl)
      | (go_at_call 49; refine (cD _).mono ?_; rintro e w2 ⟨rfl, rfl⟩))
    go_ret
    exact ⟨.slice none 0 0, rfl, ⟨rfl, .inl ⟨rfl, rfl⟩⟩, HB.out.1.trans (HB2.out.mono (by have := HB.out.2; omega))⟩

end Go.Proofs.Ytpjbkaibgajpcaa

namespace Go.Proofs.Ytpjbkaibgajpcaa
open Go.RowKit

/-- one edge on the way -/
def reachStep (needed : Bool) (l : List Int) (e : Int × Int × Bool) : List Int :=
  if (needed && !e.2.2) = true then l else if e.1 ∈ l ∧ e.2.1 ∉ l then putZ l e.2.1 else if e.2.1 ∈ l ∧ e.1 ∉ l then putZ l e.1 else l

def reachRound (E : Eg) (needed : Bool) (l : List Int) : List Int := E.foldl (reachStep needed) l

def reachN (E : Eg) (needed : Bool) (k : Int) : Nat → List Int
  | 0 => [k]
  | n + 1 => reachRound E needed (reachN E needed k n)

def reachD (N : List Int) (E : Eg) (k : Int) (needed : Bool) : List Int := if k ∈ N then reachN E needed k N.length else []

theorem mem_putZ {l : List Int} {k x : Int} : x ∈ putZ l k ↔ x = k ∨ x ∈ l := by
  unfold putZ
  have := List.takeWhile_append_dropWhile (p := fun x => decide (x < k)) (l := l)
  constructor
  · intro h
    rcases List.mem_append.1 h with h | h
    · exact .inr (this ▸ List.mem_append_left _ h)
    · rcases List.mem_cons.1 h with h | h
      · exact .inl h
      · exact .inr (this ▸ List.mem_append_right _ h)
  · rintro (rfl | h)
    · simp
    · rw [← this] at h
      rcases List.mem_append.1 h with h | h
      · exact List.mem_append_left _ h
      · exact List.mem_append_right _ (List.mem_cons_of_mem _ h)

theorem putZ_perm (l : List Int) (k : Int) : (putZ l k).Perm (k :: l) := by
  unfold putZ
  have := List.takeWhile_append_dropWhile (p := fun x => decide (x < k)) (l := l)
  refine List.perm_middle.trans ?_
  rw [this]

theorem nodup_putZ {l : List Int} {k : Int} (h : l.Nodup) (hk : k ∉ l) : (putZ l k).Nodup :=
  (putZ_perm l k).nodup_iff.2 (List.nodup_cons.2 ⟨hk, h⟩)

theorem reachStep_ok {needed : Bool} {l : List Int} {e : Int × Int × Bool} {K : List Int} (hn : l.Nodup) (hs : ∀ x ∈ l, x ∈ K) (h1 : e.1 ∈ K) (h2 : e.2.1 ∈ K) : (reachStep needed l e).Nodup ∧ ∀ x ∈ reachStep needed l e, x ∈ K := by
  unfold reachStep
  split
  · exact ⟨hn, hs⟩
  · split
    · next h =>
      exact ⟨nodup_putZ hn h.2, fun x hx => (mem_putZ.1 hx).elim (fun e => e ▸ h2) (hs x)⟩
    · split
      · next h =>
        exact ⟨nodup_putZ hn h.2, fun x hx => (mem_putZ.1 hx).elim (fun e => e ▸ h1) (hs x)⟩
      · exact ⟨hn, hs⟩

theorem reachFold_ok {needed : Bool} {K : List Int} : ∀ {E : Eg} {l : List Int}, l.Nodup → (∀ x ∈ l, x ∈ K) → (∀ e ∈ E, e.1 ∈ K ∧ e.2.1 ∈ K) → (E.foldl (reachStep needed) l).Nodup ∧ ∀ x ∈ E.foldl (reachStep needed) l, x ∈ K
  | [], _, hn, hs, _ => ⟨hn, hs⟩
  | e :: E, l, hn, hs, hE => by
    have h := hE e (List.mem_cons_self ..)
    have := reachStep_ok (needed := needed) hn hs h.1 h.2
    exact reachFold_ok (E := E) (l := reachStep needed l e) this.1 this.2 fun e' he => hE e' (List.mem_cons_of_mem _ he)

/-- k and all ends of edges -/
def endsOf (E : Eg) (k : Int) : List Int := k :: (E.map (·.1) ++ E.map (·.2.1))

theorem ends_mem {E : Eg} {k : Int} : ∀ e ∈ E, e.1 ∈ endsOf E k ∧ e.2.1 ∈ endsOf E k := fun e he =>
  ⟨List.mem_cons_of_mem _ (List.mem_append_left _ (List.mem_map_of_mem he)), List.mem_cons_of_mem _ (List.mem_append_right _ (List.mem_map.2 ⟨e, he, rfl⟩))⟩

theorem reachN_ok (E : Eg) (needed : Bool) (k : Int) : ∀ n, (reachN E needed k n).Nodup ∧ ∀ x ∈ reachN E needed k n, x ∈ endsOf E k
  | 0 => ⟨by simp [reachN], fun x hx => by simp only [reachN, List.mem_singleton] at hx; subst hx; exact List.mem_cons_self ..⟩
  | n + 1 => reachFold_ok (reachN_ok E needed k n).1 (reachN_ok E needed k n).2 ends_mem

end Go.Proofs.Ytpjbkaibgajpcaa
