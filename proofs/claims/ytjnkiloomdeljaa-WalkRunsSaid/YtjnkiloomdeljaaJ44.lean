/-
  graph's document: Reach.
-/
import Derived.Test.YtjnkiloomdeljaaJ23
import Derived.Test.YtjnkiloomdeljaaJ43
import Derived.Test.YtjnkiloomdeljaaJ02
namespace Go.Proofs.Ytjnkiloomdeljaa
open Go.RowKit

/-- one edge on the way -/
def reachStep (needed : Bool) (l : List Int) (e : Int × Int × Bool) : List Int :=
  if (needed && !e.2.2) = true then l else if e.1 ∈ l ∧ e.2.1 ∉ l then putZ l e.2.1 else if e.2.1 ∈ l ∧ e.1 ∉ l then putZ l e.1 else l

def reachRound (E : Eg) (needed : Bool) (l : List Int) : List Int := E.foldl (reachStep needed) l

def reachN (E : Eg) (needed : Bool) (k : Int) : Nat → List Int
  | 0 => [k]
  | n + 1 => reachRound E needed (reachN E needed k n)

def reachD (N : List Int) (E : Eg) (k : Int) (needed : Bool) : List Int := if k ∈ N then reachN E needed k N.length else []

theorem mem_putZ {l : List Int} {k x : Int} : x ∈ putZ l k ↔ x = k ∨ x ∈ l := by
  unfold putZ
  have := List.takeWhile_append_dropWhile (p := fun x => decide (x < k)) (l := l)
  constructor
  · intro h
    rcases List.mem_append.1 h with h | h
    · exact .inr (this ▸ List.mem_append_left _ h)
    · rcases List.mem_cons.1 h with h | h
      · exact .inl h
      · exact .inr (this ▸ List.mem_append_right _ h)
  · rintro (rfl | h)
    · simp
    · rw [← this] at h
      rcases List.mem_append.1 h with h | h
      · exact List.mem_append_left _ h
      · exact List.mem_append_right _ (List.mem_cons_of_mem _ h)

theorem putZ_perm (l : List Int) (k : Int) : (putZ l k).Perm (k :: l) := by
  unfold putZ
  have := List.takeWhile_append_dropWhile (p := fun x => decide (x < k)) (l := l)
  refine List.perm_middle.trans ?_
  rw [this]

theorem nodup_putZ {l : List Int} {k : Int} (h : l.Nodup) (hk : k ∉ l) : (putZ l k).Nodup :=
  (putZ_perm l k).nodup_iff.2 (List.nodup_cons.2 ⟨hk, h⟩)

theorem reachStep_ok {needed : Bool} {l : List Int} {e : Int × Int × Bool} {K : List Int} (hn : l.Nodup) (hs : ∀ x ∈ l, x ∈ K) (h1 : e.1 ∈ K) (h2 : e.2.1 ∈ K) : (reachStep needed l e).Nodup ∧ ∀ x ∈ reachStep needed l e, x ∈ K := by
  unfold reachStep
  split
  · exact ⟨hn, hs⟩
  · split
    · next h =>
      exact ⟨nodup_putZ hn h.2, fun x hx => (mem_putZ.1 hx).elim (fun e => e ▸ h2) (hs x)⟩
    · split
      · next h =>
        exact ⟨nodup_putZ hn h.2, fun x hx => (mem_putZ.1 hx).elim (fun e => e ▸ h1) (hs x)⟩
      · exact ⟨hn, hs⟩

theorem reachFold_ok {needed : Bool} {K : List Int} : ∀ {E : Eg} {l : List Int}, l.Nodup → (∀ x ∈ l, x ∈ K) → (∀ e ∈ E, e.1 ∈ K ∧ e.2.1 ∈ K) → (E.foldl (reachStep needed) l).Nodup ∧ ∀ x ∈ E.foldl (reachStep needed) l, x ∈ K
  | [], _, hn, hs, _ => ⟨hn, hs⟩
  | e :: E, l, hn, hs, hE => by
    have h := hE e (List.mem_cons_self ..)
    have := reachStep_ok (needed := needed) hn hs h.1 h.2
    exact reachFold_ok (E := E) (l := reachStep needed l e) this.1 this.2 fun e' he => hE e' (List.mem_cons_of_mem _ he)

/-- k and all ends of edges -/
def endsOf (E : Eg) (k : Int) : List Int := k :: (E.map (·.1) ++ E.map (·.2.1))

theorem ends_mem {E : Eg} {k : Int} : ∀ e ∈ E, e.1 ∈ endsOf E k ∧ e.2.1 ∈ endsOf E k := fun e he =>
  ⟨List.mem_cons_of_mem _ (List.mem_append_left _ (List.mem_map_of_mem he)), List.mem_cons_of_mem _ (List.mem_append_right _ (List.mem_map.2 ⟨e, he, rfl⟩))⟩

theorem reachN_ok (E : Eg) (needed : Bool) (k : Int) : ∀ n, (reachN E needed k n).Nodup ∧ ∀ x ∈ reachN E needed k n, x ∈ endsOf E k
  | 0 => ⟨by simp [reachN], fun x hx => by simp only [reachN, List.mem_singleton] at hx; subst hx; exact List.mem_cons_self ..⟩
  | n + 1 => reachFold_ok (reachN_ok E needed k n).1 (reachN_ok E needed k n).2 ends_mem

theorem reach_part (E : Eg) (needed : Bool) (k : Int) (n j : Nat) : ((E.take j).foldl (reachStep needed) (reachN E needed k n)).length ≤ 1 + 2 * E.length := by
  have h := reachFold_ok (needed := needed) (E := E.take j) (reachN_ok E needed k n).1 (reachN_ok E needed k n).2 fun e he => ends_mem e (List.mem_of_mem_take he)
  have := nodup_le h.1 h.2
  simp only [endsOf, List.length_cons, List.length_append, List.length_map] at this
  omega

theorem reach_snoc (E : Eg) (needed : Bool) (l : List Int) (j : Nat) (hj : j < E.length) : (E.take (j + 1)).foldl (reachStep needed) l = reachStep needed ((E.take j).foldl (reachStep needed) l) E[j] := by
  rw [List.take_add_one, List.getElem?_eq_getElem hj, Option.toList_some, List.foldl_append]
  rfl

theorem dReach_no (w : World) (B c : Nat) (N : List Int) (E : Eg) (vn ve : Value) (k : Int) (needed : Bool) (h : DGr w B c N E vn ve) (hk : k ∉ N) :
    Calls Try.prog 17 #[.pointer (some ⟨c, 0, none⟩), .int .u64 k, .bool needed] w fun e w' => e = .returned (.slice none 0 0) ∧ w' = w := by
  have cH := dHas w B c N E vn ve k h
  rw [decide_eq_false hk] at cH
  clear h
  go_enter Try.func17, Try.ntmps17
  go_wp2_with (go_at_call 35; refine cH.mono ?_; rintro e w' ⟨rfl, rfl⟩)
  go_ret
  exact ⟨rfl, rfl⟩

theorem dReach_nil (w : World) (k : Int) (needed : Bool) :
    Calls Try.prog 17 #[.pointer none, .int .u64 k, .bool needed] w fun e w' => e = .returned (.slice none 0 0) ∧ w' = w := by
  have cH := dHas_nil w k
  go_enter Try.func17, Try.ntmps17
  go_wp2_with (go_at_call 35; refine cH.mono ?_; rintro e w' ⟨rfl, rfl⟩)
  go_ret
  exact ⟨rfl, rfl⟩

theorem dIsD (w : World) (v : Value) (l : List Int) (k : Int) (h : Nums w .u64 v l) (n : Nat) :
    Calls Try.prog 36 #[v, .int .u64 k] (w.drewN n) fun e w' => e = .returned (.bool (decide (k ∈ l))) ∧ Drawn (w.drewN n) w' :=
  (dIs (w.drewN n) v l k (h.below (below_drewN (Below.refl _ _) n))).mono fun e w' hh => ⟨hh.1, hh.2 ▸ Drawn.refl _⟩


set_option maxRecDepth 100000 in
set_option maxHeartbeats 8000000 in
theorem dReach (w : World) (B c : Nat) (N : List Int) (E : Eg) (vn ve : Value) (k : Int) (needed : Bool) (h : DGr w B c N E vn ve) (hk : k ∈ N) (hl : E.length ≤ 400000) :
    Calls Try.prog 17 #[.pointer (some ⟨c, 0, none⟩), .int .u64 k, .bool needed] w (NewL w (reachN E needed k N.length)) := by
  have cH := dHas w B c N E vn ve k h
  rw [decide_eq_true hk] at cH
  have c0 := h.get0
  have hcs := h.lt
  have H := Lib.hid h
  have HE := Lib.hid h.edges
  obtain ⟨pe, me, ce, rfl⟩ := own_form h.edges
  obtain rfl : me = E.length := own_len h.edges
  have hlE : E.length ≤ 9223372036854775807 := by omega
  obtain ⟨pn, mn, cn, rfl⟩ := own_form h.nodes
  obtain rfl : mn = N.length := own_len h.nodes
  have hlN : N.length ≤ 9223372036854775807 := own_short h.nodes
  have R0 : (w.alloc (.cells #[.int .u64 k] 37)).ownsRow w.heap.size 37 1 (.slice (some ⟨w.heap.size, 0, none⟩) 1 1) 1 ([k].map (Value.int .u64)) :=
    ⟨rfl, .inr ⟨w.heap.size, 1, #[.int .u64 k], rfl, Nat.le_refl _, heap_alloc_new _ _, Nat.le_refl _, by simp [maxLen], rfl, rfl⟩⟩
  have R0 := Lib.hid R0
  clear h hk
  go_enter Try.func17, Try.ntmps17
  go_wp2_with (go_at_call 35; refine cH.mono ?_; rintro e w' ⟨rfl, hw⟩; obtain rfl : w = w' := hw)
  go_loopg [7, 23] N.length (fun q s i wr => ∃ (j : Nat) (p : Option Addr) (n cap : Nat), q = N.length - j ∧ j ≤ N.length ∧ i = .int .i64 j ∧ s = .slice p n cap ∧ wr.ownsRow w.heap.size 37 1 (.slice p n cap) (reachN E needed k j).length ((reachN E needed k j).map (Value.int .u64)) ∧ Below w.heap.size w wr)
  case atStart => exact ⟨0, _, 1, 1, rfl, by omega, rfl, rfl, R0.out, (Below.refl _ w).alloc (Nat.le_refl _) _⟩
  case round =>
    obtain ⟨jn, p0, n0, cap0, rfl, hjn, rfl, rfl, hrow0, hbl0⟩ := hrel
    obtain rfl : n0 = _ := own_len hrow0
    have hs0 := hbl0.size
    have HA0 := Lib.hid (And.intro hrow0 hbl0)
    by_cases hltn : jn < N.length
    · have c1 : wr.cell? ⟨c, 1, none⟩ = some (.slice pe E.length ce) := (H.out.below hbl0).get1
      have hcs1 := (H.out.below hbl0).lt
      have PT := Lib.hid (reach_part E needed k jn)
      have RS := Lib.hid (show reachN E needed k (jn + 1) = E.foldl (reachStep needed) (reachN E needed k jn) from rfl)
      obtain ⟨L0, hL0⟩ : ∃ L0, L0 = reachN E needed k jn := ⟨_, rfl⟩
      rw [← hL0] at PT RS HA0 hrow0 ⊢
      obtain ⟨wo, rfl⟩ : ∃ wo : World, wo = wr := ⟨_, rfl⟩
      clear hL0 hrow0 hbl0
      go_wp2_with fail
      go_loopg [7, 30] E.length (fun q s i wr => ∃ (j : Nat) (p : Option Addr) (n cap : Nat), q = E.length - j ∧ j ≤ E.length ∧ i = .int .i64 j ∧ s = .slice p n cap ∧ wr.ownsRow w.heap.size 37 1 (.slice p n cap) ((E.take j).foldl (reachStep needed) L0).length (((E.take j).foldl (reachStep needed) L0).map (Value.int .u64)) ∧ Below w.heap.size w wr)
      case atStart => exact ⟨0, p0, _, cap0, rfl, by omega, rfl, rfl, by simpa using HA0.out.1, HA0.out.2⟩
      case round =>
        obtain ⟨j, p, n, cap, rfl, hj, rfl, rfl, hrow, hbl⟩ := hrel
        obtain rfl : n = _ := own_len hrow
        have hs := hbl.size
        have HA := Lib.hid (And.intro hrow hbl)
        by_cases hlt : j < E.length
        · have sn := reach_snoc E needed L0 j hlt
          have hln : ((E.take j).foldl (reachStep needed) L0).length ≤ 1000000 := by have := PT.out j; omega
          obtain ⟨l, hll⟩ : ∃ l, l = (E.take j).foldl (reachStep needed) L0 := ⟨_, rfl⟩
          rw [← hll] at hrow hln HA sn ⊢
          clear hll
          obtain ⟨g, cap', hve, -, hgl⟩ := HE.out.form (by omega)
          obtain ⟨rfl, -, rfl⟩ := Value.slice.inj hve
          have row := own_below HE.out hbl
          have e3 := flatE_get E j hlt
          obtain ⟨⟨x, y, z⟩, he⟩ : ∃ e, e = E[j] := ⟨_, rfl⟩
          rw [← he] at e3 sn
          have d0 : wr.cell? ⟨g, j * 3, none⟩ = some (.int .u64 x) := by rw [World.ownsRow.cellAt row _ (by omega)]; exact e3.1
          have d1 : wr.cell? ⟨g, j * 3 + 1, none⟩ = some (.int .u64 y) := by rw [World.ownsRow.cellAt row _ (by omega)]; exact e3.2.1
          have d2 : wr.cell? ⟨g, j * 3 + 2, none⟩ = some (.bool z) := by rw [World.ownsRow.cellAt row _ (by omega)]; exact e3.2.2
          clear row e3 hve he
          cases needed with
          | false =>
            cases z with
            | true =>
              obtain ⟨W1, hW1⟩ : ∃ W1, W1 = wr.alloc (.cells #[.int .u64 x, .int .u64 y, .bool true] 96) := ⟨_, rfl⟩
              have hbw : ∀ m, Below w.heap.size w (W1.drewN m) := fun m => by rw [hW1]; exact below_drewN (hbl.alloc hs _) m
              have hrw : ∀ m, (W1.drewN m).ownsRow w.heap.size 37 1 (.slice p l.length cap) l.length (l.map (Value.int .u64)) := fun m => by rw [hW1]; exact own_below (hrow.alloc _) (below_drewN (Below.refl _ _) m)
              have y1 : W1.heap[wr.heap.size]? = some (.cells #[.int .u64 x, .int .u64 y, .bool true] 96 (0, 0)) := by rw [hW1]; exact heap_alloc_new _ _
              have cA := fun m => dPut _ _ _ l y (hrw m) hln
              have cB := fun m => dPut _ _ _ l x (hrw m) hln
              have HN1 := Lib.hid (Nums.of_own (hrw 0))
              have HB := Lib.hid (And.intro hrw hbw)
              have HW := Lib.hid hW1
              clear hbl hrow hrw hbw hW1
              have IX := Lib.hid (dIsD W1 _ l x HN1.out)
              have IY := Lib.hid (dIsD W1 _ l y HN1.out)
              obtain ⟨b1, hb1⟩ : ∃ b, b = decide (x ∈ l) := ⟨_, rfl⟩
              obtain ⟨b2, hb2⟩ : ∃ b, b = decide (y ∈ l) := ⟨_, rfl⟩
              rw [← hb1] at IX
              rw [← hb2] at IY
              have z0 : W1.cell? ⟨wr.heap.size, 0, none⟩ = some (.int .u64 x) := by rw [cells_get y1 0]; rfl
              have z1 : W1.cell? ⟨wr.heap.size, 1, none⟩ = some (.int .u64 y) := by rw [cells_get y1 1]; rfl
              go_wp2_with fail
              rw [← HW.out]
              go_quiet (first | (go_at_call 36; with_reducible exact Calls.quiet_of (IX.out _)) | (go_at_call 36; with_reducible exact Calls.quiet_of (IY.out _)))
              cases b1 with
              | true =>
                have hx := Lib.hid (of_decide_eq_true hb1.symm)
                clear hb1
                cases b2 with
                | true =>
                  have hy := Lib.hid (of_decide_eq_true hb2.symm)
                  clear hb2
                  have sn2 := Lib.hid (show (E.take (j + 1)).foldl (reachStep false) L0 = l from by rw [sn]; simp [reachStep, hx.out, hy.out])
                  clear sn
                  go_wp2_with fail
                  skip
                  go_roundg (E.length - (j + 1))
                  case measure => omega
                  case rel => exact ⟨j + 1, p, _, cap, rfl, by omega, by go_num, rfl, by rw [sn2.out]; exact HB.out.1 _, HB.out.2 _⟩
                | false =>
                  have hy := Lib.hid (of_decide_eq_false hb2.symm)
                  clear hb2
                  have sn2 := Lib.hid (show (E.take (j + 1)).foldl (reachStep false) L0 = putZ l y from by rw [sn]; simp [reachStep, hx.out, hy.out])
                  clear sn
                  go_wp2_with (go_at_call 37; refine (cA _).mono ?_; rintro e w3 ⟨v, rfl, hr, hb3⟩; obtain ⟨q3, n3, c3, rfl⟩ := own_form hr; have R3 := Lib.hid (And.intro hr hb3); clear hr hb3)
                  go_roundg (E.length - (j + 1))
                  case measure => omega
                  case rel => exact ⟨j + 1, q3, n3, c3, rfl, by omega, by go_num, rfl, by rw [sn2.out]; exact own_mono R3.out.1 (HB.out.2 _).size, (HB.out.2 _).trans (R3.out.2.mono (HB.out.2 _).size)⟩
              | false =>
                have hx := Lib.hid (of_decide_eq_false hb1.symm)
                clear hb1
                cases b2 with
                | true =>
                  have hy := Lib.hid (of_decide_eq_true hb2.symm)
                  clear hb2
                  have sn2 := Lib.hid (show (E.take (j + 1)).foldl (reachStep false) L0 = putZ l x from by rw [sn]; simp [reachStep, hx.out, hy.out])
                  clear sn
                  go_wp2_with (go_at_call 37; refine (cB _).mono ?_; rintro e w3 ⟨v, rfl, hr, hb3⟩; obtain ⟨q3, n3, c3, rfl⟩ := own_form hr; have R3 := Lib.hid (And.intro hr hb3); clear hr hb3)
                  go_roundg (E.length - (j + 1))
                  case measure => omega
                  case rel => exact ⟨j + 1, q3, n3, c3, rfl, by omega, by go_num, rfl, by rw [sn2.out]; exact own_mono R3.out.1 (HB.out.2 _).size, (HB.out.2 _).trans (R3.out.2.mono (HB.out.2 _).size)⟩
                | false =>
                  have hy := Lib.hid (of_decide_eq_false hb2.symm)
                  clear hb2
                  have sn2 := Lib.hid (show (E.take (j + 1)).foldl (reachStep false) L0 = l from by rw [sn]; simp [reachStep, hx.out, hy.out])
                  clear sn
                  go_wp2_with fail
                  skip
                  go_roundg (E.length - (j + 1))
                  case measure => omega
                  case rel => exact ⟨j + 1, p, _, cap, rfl, by omega, by go_num, rfl, by rw [sn2.out]; exact HB.out.1 _, HB.out.2 _⟩
            | false =>
              obtain ⟨W1, hW1⟩ : ∃ W1, W1 = wr.alloc (.cells #[.int .u64 x, .int .u64 y, .bool false] 96) := ⟨_, rfl⟩
              have hbw : ∀ m, Below w.heap.size w (W1.drewN m) := fun m => by rw [hW1]; exact below_drewN (hbl.alloc hs _) m
              have hrw : ∀ m, (W1.drewN m).ownsRow w.heap.size 37 1 (.slice p l.length cap) l.length (l.map (Value.int .u64)) := fun m => by rw [hW1]; exact own_below (hrow.alloc _) (below_drewN (Below.refl _ _) m)
              have y1 : W1.heap[wr.heap.size]? = some (.cells #[.int .u64 x, .int .u64 y, .bool false] 96 (0, 0)) := by rw [hW1]; exact heap_alloc_new _ _
              have cA := fun m => dPut _ _ _ l y (hrw m) hln
              have cB := fun m => dPut _ _ _ l x (hrw m) hln
              have HN1 := Lib.hid (Nums.of_own (hrw 0))
              have HB := Lib.hid (And.intro hrw hbw)
              have HW := Lib.hid hW1
              clear hbl hrow hrw hbw hW1
              have IX := Lib.hid (dIsD W1 _ l x HN1.out)
              have IY := Lib.hid (dIsD W1 _ l y HN1.out)
              obtain ⟨b1, hb1⟩ : ∃ b, b = decide (x ∈ l) := ⟨_, rfl⟩
              obtain ⟨b2, hb2⟩ : ∃ b, b = decide (y ∈ l) := ⟨_, rfl⟩
              rw [← hb1] at IX
              rw [← hb2] at IY
              have z0 : W1.cell? ⟨wr.heap.size, 0, none⟩ = some (.int .u64 x) := by rw [cells_get y1 0]; rfl
              have z1 : W1.cell? ⟨wr.heap.size, 1, none⟩ = some (.int .u64 y) := by rw [cells_get y1 1]; rfl
              go_wp2_with fail
              rw [← HW.out]
              go_quiet (first | (go_at_call 36; with_reducible exact Calls.quiet_of (IX.out _)) | (go_at_call 36; with_reducible exact Calls.quiet_of (IY.out _)))
              cases b1 with
              | true =>
                have hx := Lib.hid (of_decide_eq_true hb1.symm)
                clear hb1
                cases b2 with
                | true =>
                  have hy := Lib.hid (of_decide_eq_true hb2.symm)
                  clear hb2
                  have sn2 := Lib.hid (show (E.take (j + 1)).foldl (reachStep false) L0 = l from by rw [sn]; simp [reachStep, hx.out, hy.out])
                  clear sn
                  go_wp2_with fail
                  skip
                  go_roundg (E.length - (j + 1))
                  case measure => omega
                  case rel => exact ⟨j + 1, p, _, cap, rfl, by omega, by go_num, rfl, by rw [sn2.out]; exact HB.out.1 _, HB.out.2 _⟩
                | false =>
                  have hy := Lib.hid (of_decide_eq_false hb2.symm)
                  clear hb2
                  have sn2 := Lib.hid (show (E.take (j + 1)).foldl (reachStep false) L0 = putZ l y from by rw [sn]; simp [reachStep, hx.out, hy.out])
                  clear sn
                  go_wp2_with (go_at_call 37; refine (cA _).mono ?_; rintro e w3 ⟨v, rfl, hr, hb3⟩; obtain ⟨q3, n3, c3, rfl⟩ := own_form hr; have R3 := Lib.hid (And.intro hr hb3); clear hr hb3)
                  go_roundg (E.length - (j + 1))
                  case measure => omega
                  case rel => exact ⟨j + 1, q3, n3, c3, rfl, by omega, by go_num, rfl, by rw [sn2.out]; exact own_mono R3.out.1 (HB.out.2 _).size, (HB.out.2 _).trans (R3.out.2.mono (HB.out.2 _).size)⟩
              | false =>
                have hx := Lib.hid (of_decide_eq_false hb1.symm)
                clear hb1
                cases b2 with
                | true =>
                  have hy := Lib.hid (of_decide_eq_true hb2.symm)
                  clear hb2
                  have sn2 := Lib.hid (show (E.take (j + 1)).foldl (reachStep false) L0 = putZ l x from by rw [sn]; simp [reachStep, hx.out, hy.out])
                  clear sn
                  go_wp2_with (go_at_call 37; refine (cB _).mono ?_; rintro e w3 ⟨v, rfl, hr, hb3⟩; obtain ⟨q3, n3, c3, rfl⟩ := own_form hr; have R3 := Lib.hid (And.intro hr hb3); clear hr hb3)
                  go_roundg (E.length - (j + 1))
                  case measure => omega
                  case rel => exact ⟨j + 1, q3, n3, c3, rfl, by omega, by go_num, rfl, by rw [sn2.out]; exact own_mono R3.out.1 (HB.out.2 _).size, (HB.out.2 _).trans (R3.out.2.mono (HB.out.2 _).size)⟩
                | false =>
                  have hy := Lib.hid (of_decide_eq_false hb2.symm)
                  clear hb2
                  have sn2 := Lib.hid (show (E.take (j + 1)).foldl (reachStep false) L0 = l from by rw [sn]; simp [reachStep, hx.out, hy.out])
                  clear sn
                  go_wp2_with fail
                  skip
                  go_roundg (E.length - (j + 1))
                  case measure => omega
                  case rel => exact ⟨j + 1, p, _, cap, rfl, by omega, by go_num, rfl, by rw [sn2.out]; exact HB.out.1 _, HB.out.2 _⟩
          | true =>
            cases z with
            | true =>
              obtain ⟨W1, hW1⟩ : ∃ W1, W1 = wr.alloc (.cells #[.int .u64 x, .int .u64 y, .bool true] 96) := ⟨_, rfl⟩
              have hbw : ∀ m, Below w.heap.size w (W1.drewN m) := fun m => by rw [hW1]; exact below_drewN (hbl.alloc hs _) m
              have hrw : ∀ m, (W1.drewN m).ownsRow w.heap.size 37 1 (.slice p l.length cap) l.length (l.map (Value.int .u64)) := fun m => by rw [hW1]; exact own_below (hrow.alloc _) (below_drewN (Below.refl _ _) m)
              have y1 : W1.heap[wr.heap.size]? = some (.cells #[.int .u64 x, .int .u64 y, .bool true] 96 (0, 0)) := by rw [hW1]; exact heap_alloc_new _ _
              have cA := fun m => dPut _ _ _ l y (hrw m) hln
              have cB := fun m => dPut _ _ _ l x (hrw m) hln
              have HN1 := Lib.hid (Nums.of_own (hrw 0))
              have HB := Lib.hid (And.intro hrw hbw)
              have HW := Lib.hid hW1
              clear hbl hrow hrw hbw hW1
              have IX := Lib.hid (dIsD W1 _ l x HN1.out)
              have IY := Lib.hid (dIsD W1 _ l y HN1.out)
              obtain ⟨b1, hb1⟩ : ∃ b, b = decide (x ∈ l) := ⟨_, rfl⟩
              obtain ⟨b2, hb2⟩ : ∃ b, b = decide (y ∈ l) := ⟨_, rfl⟩
              rw [← hb1] at IX
              rw [← hb2] at IY
              have z0 : W1.cell? ⟨wr.heap.size, 0, none⟩ = some (.int .u64 x) := by rw [cells_get y1 0]; rfl
              have z1 : W1.cell? ⟨wr.heap.size, 1, none⟩ = some (.int .u64 y) := by rw [cells_get y1 1]; rfl
              go_wp2_with fail
              rw [← HW.out]
              go_quiet (first | (go_at_call 36; with_reducible exact Calls.quiet_of (IX.out _)) | (go_at_call 36; with_reducible exact Calls.quiet_of (IY.out _)))
              cases b1 with
              | true =>
                have hx := Lib.hid (of_decide_eq_true hb1.symm)
                clear hb1
                cases b2 with
                | true =>
                  have hy := Lib.hid (of_decide_eq_true hb2.symm)
                  clear hb2
                  have sn2 := Lib.hid (show (E.take (j + 1)).foldl (reachStep true) L0 = l from by rw [sn]; simp [reachStep, hx.out, hy.out])
                  clear sn
                  go_wp2_with fail
                  skip
                  go_roundg (E.length - (j + 1))
                  case measure => omega
                  case rel => exact ⟨j + 1, p, _, cap, rfl, by omega, by go_num, rfl, by rw [sn2.out]; exact HB.out.1 _, HB.out.2 _⟩
                | false =>
                  have hy := Lib.hid (of_decide_eq_false hb2.symm)
                  clear hb2
                  have sn2 := Lib.hid (show (E.take (j + 1)).foldl (reachStep true) L0 = putZ l y from by rw [sn]; simp [reachStep, hx.out, hy.out])
                  clear sn
                  go_wp2_with (go_at_call 37; refine (cA _).mono ?_; rintro e w3 ⟨v, rfl, hr, hb3⟩; obtain ⟨q3, n3, c3, rfl⟩ := own_form hr; have R3 := Lib.hid (And.intro hr hb3); clear hr hb3)
                  go_roundg (E.length - (j + 1))
                  case measure => omega
                  case rel => exact ⟨j + 1, q3, n3, c3, rfl, by omega, by go_num, rfl, by rw [sn2.out]; exact own_mono R3.out.1 (HB.out.2 _).size, (HB.out.2 _).trans (R3.out.2.mono (HB.out.2 _).size)⟩
              | false =>
                have hx := Lib.hid (of_decide_eq_false hb1.symm)
                clear hb1
                cases b2 with
                | true =>
                  have hy := Lib.hid (of_decide_eq_true hb2.symm)
                  clear hb2
                  have sn2 := Lib.hid (show (E.take (j + 1)).foldl (reachStep true) L0 = putZ l x from by rw [sn]; simp [reachStep, hx.out, hy.out])
                  clear sn
                  go_wp2_with (go_at_call 37; refine (cB _).mono ?_; rintro e w3 ⟨v, rfl, hr, hb3⟩; obtain ⟨q3, n3, c3, rfl⟩ := own_form hr; have R3 := Lib.hid (And.intro hr hb3); clear hr hb3)
                  go_roundg (E.length - (j + 1))
                  case measure => omega
                  case rel => exact ⟨j + 1, q3, n3, c3, rfl, by omega, by go_num, rfl, by rw [sn2.out]; exact own_mono R3.out.1 (HB.out.2 _).size, (HB.out.2 _).trans (R3.out.2.mono (HB.out.2 _).size)⟩
                | false =>
                  have hy := Lib.hid (of_decide_eq_false hb2.symm)
                  clear hb2
                  have sn2 := Lib.hid (show (E.take (j + 1)).foldl (reachStep true) L0 = l from by rw [sn]; simp [reachStep, hx.out, hy.out])
                  clear sn
                  go_wp2_with fail
                  skip
                  go_roundg (E.length - (j + 1))
                  case measure => omega
                  case rel => exact ⟨j + 1, p, _, cap, rfl, by omega, by go_num, rfl, by rw [sn2.out]; exact HB.out.1 _, HB.out.2 _⟩
            | false =>
              obtain ⟨W1, hW1⟩ : ∃ W1, W1 = wr.alloc (.cells #[.int .u64 x, .int .u64 y, .bool false] 96) := ⟨_, rfl⟩
              have hbw : ∀ m, Below w.heap.size w (W1.drewN m) := fun m => by rw [hW1]; exact below_drewN (hbl.alloc hs _) m
              have hrw : ∀ m, (W1.drewN m).ownsRow w.heap.size 37 1 (.slice p l.length cap) l.length (l.map (Value.int .u64)) := fun m => by rw [hW1]; exact own_below (hrow.alloc _) (below_drewN (Below.refl _ _) m)
              have y1 : W1.heap[wr.heap.size]? = some (.cells #[.int .u64 x, .int .u64 y, .bool false] 96 (0, 0)) := by rw [hW1]; exact heap_alloc_new _ _
              have cA := fun m => dPut _ _ _ l y (hrw m) hln
              have cB := fun m => dPut _ _ _ l x (hrw m) hln
              have HN1 := Lib.hid (Nums.of_own (hrw 0))
              have HB := Lib.hid (And.intro hrw hbw)
              have HW := Lib.hid hW1
              clear hbl hrow hrw hbw hW1
              have sn2 := Lib.hid (show (E.take (j + 1)).foldl (reachStep true) L0 = l from by rw [sn]; simp [reachStep, Bool.and_self])
              clear sn
              go_wp2_with fail
              rw [← HW.out]
              go_roundg (E.length - (j + 1))
              case measure => omega
              case rel => exact ⟨j + 1, p, _, cap, rfl, by omega, by go_num, rfl, by rw [sn2.out]; exact HB.out.1 0, HB.out.2 0⟩
        · go_wp2_with fail
          go_roundg (N.length - (jn + 1))
          case measure => omega
          case rel => exact ⟨jn + 1, p, _, cap, rfl, by omega, by go_num, rfl, by rw [RS.out, show E.foldl (reachStep needed) L0 = (E.take j).foldl (reachStep needed) L0 from by rw [List.take_of_length_le (by omega)]]; exact HA.out.1, HA.out.2⟩
    · go_wp2_with fail
      go_ret
      exact ⟨_, rfl, by rw [show reachN E needed k N.length = reachN E needed k jn from by rw [show jn = N.length by omega]]; exact HA0.out.1, HA0.out.2⟩

end Go.Proofs.Ytjnkiloomdeljaa
