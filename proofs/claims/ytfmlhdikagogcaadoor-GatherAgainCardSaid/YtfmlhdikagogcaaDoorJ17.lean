/-
  best: slices of hits: one is taken out, one is put in.
  gather: slices.IndexFunc, slices.DeleteFunc at rows of pointers; slices.Contains at ints.
-/
import Derived.Test.YtfmlhdikagogcaaDoorJ16
import Derived.Deep.DeepAppendRoom
import Derived.Laws.IdiomCopy
import Derived.Test.YtfmlhdikagogcaaDoorJ15
import Derived.LaidEqlPtr
namespace Go.Proofs.YtfmlhdikagogcaaDoor
open Go.RowKit
set_option maxRecDepth 20000

theorem rowHit : RowTy Tryd.prog 35 40 3 40 (.agg #[.int .u64 0, .int .u64 0, .slice none 0 0]) := ⟨Tryd.underlying35, by kernel_rfl, rfl, by decide⟩

theorem zeroHit (w : World) : (zeroValue 40).run Tryd.prog w = .ok (.agg #[.int .u64 0, .int .u64 0, .slice none 0 0]) w := by kernel_rfl

/-- a shorter slice of the same row -/
theorem own_prefix {w : World} {base e size g n cap k : Nat} {xs : List Value} (h : w.ownsRow base e size (.slice (some ⟨g, 0, none⟩) n cap) n xs) (hk : k ≤ n) : w.ownsRow base e size (.slice (some ⟨g, 0, none⟩) k cap) k (xs.take (k * size)) := by
  obtain ⟨h1, ⟨h2, _⟩ | ⟨g', cap', cur, hv, hb, hh, hn, hm, hs, ht⟩⟩ := h
  · cases h2
  · obtain ⟨ha, _, hc⟩ := Value.slice.inj hv
    simp only [Option.some.injEq, Addr.mk.injEq, and_true] at ha
    subst ha; subst hc
    have hle : k * size ≤ n * size := Nat.mul_le_mul_right _ hk
    refine ⟨by simp only [List.length_take]; omega, .inr ⟨g, cap, cur, rfl, hb, hh, by omega, hm, hs, ?_⟩⟩
    rw [← ht, List.take_take, show min (k * size) (n * size) = k * size by omega]

theorem own_cap {w : World} {base e size g n cap : Nat} {xs : List Value} (h : w.ownsRow base e size (.slice (some ⟨g, 0, none⟩) n cap) n xs) : n ≤ cap ∧ cap ≤ maxLen ∧ ∃ cur : Array Value, w.heap[g]? = some (.cells cur e (0, 0)) ∧ cur.size = cap * size := by
  obtain ⟨h1, ⟨h2, _⟩ | ⟨g', cap', cur, hv, hb, hh, hn, hm, hs, ht⟩⟩ := h
  · cases h2
  · obtain ⟨ha, _, hc⟩ := Value.slice.inj hv
    simp only [Option.some.injEq, Addr.mk.injEq, and_true] at ha
    subst ha; subst hc
    exact ⟨hn, hm, cur, hh, hs⟩

/-- a cell behind the row's end is written -/
theorem own_setCell_far {w : World} {base e size g n cap o : Nat} {xs : List Value} (h : w.ownsRow base e size (.slice (some ⟨g, 0, none⟩) n cap) n xs) (ho : n * size ≤ o) (u : Value) : (w.setCell ⟨g, o, none⟩ u).ownsRow base e size (.slice (some ⟨g, 0, none⟩) n cap) n xs := by
  obtain ⟨h1, ⟨h2, _⟩ | ⟨g', cap', cur, hv, hb, hh, hn, hm, hs, ht⟩⟩ := h
  · cases h2
  · obtain ⟨ha, _, hc⟩ := Value.slice.inj hv
    simp only [Option.some.injEq, Addr.mk.injEq, and_true] at ha
    subst ha; subst hc
    refine ⟨h1, .inr ⟨g, cap, cur.setIfInBounds o u, rfl, hb, ?_, hn, hm, by simpa using hs, ?_⟩⟩
    · simp [World.setCell, Array.getElem?_modify, hh]
    · rw [← ht]
      simp only [Array.toList_setIfInBounds]
      rw [List.take_set_of_le ho]

theorem own_setCells_far {base e size g n cap : Nat} : ∀ (vs : List Value) (o : Nat) (w : World) (xs : List Value), w.ownsRow base e size (.slice (some ⟨g, 0, none⟩) n cap) n xs → n * size ≤ o → (w.setCells g o vs).ownsRow base e size (.slice (some ⟨g, 0, none⟩) n cap) n xs
  | [], _, _, _, h, _ => h
  | u :: r, o, w, xs, h, ho => by
    rw [World.setCells]
    exact own_setCells_far r (o + 1) _ _ (own_setCell_far h ho u) (by omega)

theorem mod_setCells {F : Nat → Prop} {w0 w : World} (h : Mod F w0 w) {g : Nat} (hg : F g ∨ w0.heap.size ≤ g) : ∀ (vs : List Value) (o : Nat) , Mod F w0 (w.setCells g o vs) := by
  intro vs o
  exact h.grown (grownBy_setCells g vs o w) (fun k hk => by cases hk; exact hg)

/-- clear(s) of one hit -/
theorem run_clear1 {w : World} {base g n cap o : Nat} {xs : List Value} (h : w.ownsRow base 40 3 (.slice (some ⟨g, 0, none⟩) n cap) n xs) (ho : o + 3 ≤ cap * 3) (c ty : Nat) :
    (Builtin.clear_ #[35] ty #[.slice (some ⟨g, o, none⟩) 1 c]).run Tryd.prog w = .ok (.tuple #[]) (w.setCells g o [.int .u64 0, .int .u64 0, .slice none 0 0]) := by
  obtain ⟨_, _, cur, hh, hs⟩ := own_cap h
  have hst := run_storeCells_cells (P := Tryd.prog) g o [.int .u64 0, .int .u64 0, .slice none 0 0] 0 w (fun j hj => by
    have : o + j < cur.size := by simp at hj; omega
    simp [World.cell?, hh, this]) (fun j hj => by simp [World.frozen?, hh]) (by simp [Value.oneCell'])
  simp only [Nat.add_zero] at hst
  have hz : (Builtin.zeroCells (Value.agg #[.int .u64 0, .int .u64 0, .slice none 0 0]).cells 1).toList = [.int .u64 0, .int .u64 0, .slice none 0 0] := by kernel_rfl
  simp [Builtin.clear_, run_underlying Tryd.underlying35, zeroHit, hz, hst]

end Go.Proofs.YtfmlhdikagogcaaDoor

namespace Go.Proofs.YtfmlhdikagogcaaDoor
open Go.RowKit
set_option maxRecDepth 20000

def ptrV (b : Nat) : Value := .pointer (some ⟨b, 0, none⟩)

theorem own_len {w : World} {B e size n m cap : Nat} {p : Option Addr} {xs : List Value} (h : w.ownsRow B e size (.slice p m cap) n xs) : m = n := by
  rcases h.2 with ⟨h2, h3⟩ | ⟨_, _, _, hv, _⟩
  · cases h2; exact h3.symm
  · cases hv; rfl

theorem ptr_other {a b : Nat} {ca cb : Array Value} {ta tb : TypeId} (w : World) (hne : a ≠ b) (ha : w.heap[a]? = some (.cells ca ta (0, 0))) (hb : w.heap[b]? = some (.cells cb tb (0, 0))) :
    (binOp .eql 82 (.pointer (some ⟨a, 0, none⟩)) (.pointer (some ⟨b, 0, none⟩))).run Tryd.prog w = .ok (.bool false) w := by
  obtain ⟨i, hi⟩ : ∃ i, Tryd.prog.info? 85 = some i ∧ i.size ≠ 0 := by
    refine ⟨_, rfl, ?_⟩
    decide
  exact run_eql_ptr_other w Tryd.underlying82 hi.1 hi.2 (by simp [hne]) ha hb

theorem ptr_same (a : Nat) (w : World) : (binOp .eql 82 (.pointer (some ⟨a, 0, none⟩)) (.pointer (some ⟨a, 0, none⟩))).run Tryd.prog w = .ok (.bool true) w := by
  obtain ⟨i, hi⟩ : ∃ i, Tryd.prog.info? 85 = some i := ⟨_, rfl⟩
  exact run_eql_ptr_same w _ Tryd.underlying82 hi

/-- is it that question? -/
theorem over1 (a b e0 : Nat) (w : World) (h : w.cell? ⟨e0, 0, none⟩ = some (ptrV b)) (ha : ∃ ca ta, w.heap[a]? = some (.cells ca ta (0, 0))) (hb : ∃ ca ta, w.heap[b]? = some (.cells ca ta (0, 0))) :
    Calls Tryd.prog 59 #[ptrV a, .pointer (some ⟨e0, 0, none⟩)] w fun e w' => e = .returned (.bool (decide (a = b))) ∧ w' = w := by
  obtain ⟨ca, ta, ha⟩ := ha
  obtain ⟨cb, tb, hb⟩ := hb
  unfold ptrV at *
  by_cases hab : a = b
  · subst hab
    have R := ptr_same a w
    clear ha hb
    go_enter Tryd.func59, Tryd.ntmps59
    go_wp2_with fail
    go_ret
    exact ⟨ret_bool (by simp), rfl⟩
  · have R := ptr_other w hab ha hb
    have X := Lib.hid hab
    clear ha hb hab
    go_enter Tryd.func59, Tryd.ntmps59
    go_wp2_with fail
    go_ret
    exact ⟨ret_bool (by simp [X.out]), rfl⟩

/-- has it that number? -/
theorem hear1 (a e0 : Nat) (x y : Int) (w : World) (h1 : w.cell? ⟨a, 6, none⟩ = some (.int .u64 x)) (h2 : w.cell? ⟨e0, 6, none⟩ = some (.int .u64 y)) :
    Calls Tryd.prog 38 #[ptrV a, .pointer (some ⟨e0, 0, none⟩)] w fun e w' => e = .returned (.bool (x == y)) ∧ Below w.heap.size w w' := by
  unfold ptrV at *
  go_enter Tryd.func38, Tryd.ntmps38
  go_wp2_with fail
  refine region_go (fun w' => w'.cell? ⟨a, 6, none⟩ = some (.int .u64 x) ∧ w'.cell? ⟨e0, 6, none⟩ = some (.int .u64 y)) (by kernel_rfl) ?hS0 (fun hH => ?_)
  case hS0 =>
    exact ⟨h1, h2⟩
  refine tkY (v := ?_) 0 hH rfl (fun _ _ _ h => h) ?hc ?hw ?hy ?_
  case hc => decide +kernel
  case hw => rfl
  case hy => (intro w hS; (try dsimp only at hS); go_simp; try with_reducible rfl)
  (try simp only [Act.put]); (repeat (first | simp only [List.setIfInBounds_toArray] | simp only [List.set_cons_zero] | simp only [List.set_cons_succ]))
  refine tkY (v := ?_) 1 hH rfl (fun _ _ _ h => h) ?hc ?hw ?hy ?_
  case hc => decide +kernel
  case hw => rfl
  case hy => (intro w hS; (try dsimp only at hS); go_simp; try with_reducible rfl)
  (try simp only [Act.put]); (repeat (first | simp only [List.setIfInBounds_toArray] | simp only [List.set_cons_zero] | simp only [List.set_cons_succ]))
  refine tkY (v := ?_) 2 hH rfl (fun _ _ _ h => h) ?hc ?hw ?hy ?_
  case hc => decide +kernel
  case hw => rfl
  case hy => (intro w hS; (try dsimp only at hS); go_simp; try with_reducible rfl)
  (try simp only [Act.put]); (repeat (first | simp only [List.setIfInBounds_toArray] | simp only [List.set_cons_zero] | simp only [List.set_cons_succ]))
  refine tkY (v := ?_) 3 hH rfl (fun _ _ _ h => h) ?hc ?hw ?hy ?_
  case hc => decide +kernel
  case hw => rfl
  case hy => (intro w hS; (try dsimp only at hS); go_simp; try with_reducible rfl)
  (try simp only [Act.put]); (repeat (first | simp only [List.setIfInBounds_toArray] | simp only [List.set_cons_zero] | simp only [List.set_cons_succ]))
  refine tkY (v := ?_) 4 hH rfl (fun _ _ _ h => h) ?hc ?hw ?hy ?_
  case hc => decide +kernel
  case hw => rfl
  case hy => (intro w hS; (try dsimp only at hS); go_simp; try with_reducible rfl)
  (try simp only [Act.put]); (repeat (first | simp only [List.setIfInBounds_toArray] | simp only [List.set_cons_zero] | simp only [List.set_cons_succ]))
  refine tkY (v := ?_) 5 hH rfl (fun _ _ _ h => h) ?hc ?hw ?hy ?_
  case hc => decide +kernel
  case hw => rfl
  case hy => (intro w hS; (try dsimp only at hS); go_simp; try with_reducible rfl)
  (try simp only [Act.put]); (repeat (first | simp only [List.setIfInBounds_toArray] | simp only [List.set_cons_zero] | simp only [List.set_cons_succ]))
  refine tkY (v := ?_) 6 hH rfl (fun _ _ _ h => h) ?hc ?hw ?hy ?_
  case hc => decide +kernel
  case hw => rfl
  case hy => (intro w hS; (try dsimp only at hS); go_simp; try with_reducible rfl)
  (try simp only [Act.put]); (repeat (first | simp only [List.setIfInBounds_toArray] | simp only [List.set_cons_zero] | simp only [List.set_cons_succ]))
  refine tkY (v := ?_) 7 hH rfl (fun _ _ _ h => h) ?hc ?hw ?hy ?_
  case hc => decide +kernel
  case hw => rfl
  case hy => (intro w hS; (try dsimp only at hS); go_simp; try with_reducible rfl)
  (try simp only [Act.put]); (repeat (first | simp only [List.setIfInBounds_toArray] | simp only [List.set_cons_zero] | simp only [List.set_cons_succ]))
  refine tkY (v := ?_) 8 hH rfl (fun _ _ _ h => h) ?hc ?hw ?hy ?_
  case hc => decide +kernel
  case hw => rfl
  case hy => (intro w hS; (try dsimp only at hS); go_simp; try with_reducible rfl)
  (try simp only [Act.put]); (repeat (first | simp only [List.setIfInBounds_toArray] | simp only [List.set_cons_zero] | simp only [List.set_cons_succ]))
  refine wpAnyH_done (by decide +kernel) ?_ _
  clear hH
  go_wp2_with fail
  go_ret
  exact ⟨rfl, (Below.refl _ w).drew⟩

/-- the first that has p -/
theorem indexHear {α : Type} (cv lv : Value) (P : α → Bool) (l : List α) (bs : List Nat) (B : Nat) (w : World)
    (hl : bs.length = l.length) (hn : l.length ≤ 1000000) (h : w.ownsRow B 82 1 lv l.length (bs.map ptrV))
    (hf : ∀ i (h1 : i < bs.length) (h2 : i < l.length) w', Below w.heap.size w w' → Calls Tryd.prog 38 #[ptrV bs[i], cv] w' fun e w'' => e = .returned (.bool (P l[i])) ∧ Below w'.heap.size w' w'') :
    Calls Tryd.prog 37 #[lv, .func (.func 38) #[] #[cv]] w fun e w' => e = .returned (.int .i64 (posG P l)) ∧ Below w.heap.size w w' := by
  obtain ⟨p, m, cap, rfl⟩ := own_form h
  obtain rfl : m = l.length := own_len h
  have hll : l.length ≤ 9223372036854775807 := by omega
  have H := Lib.hid h
  have HF := Lib.hid hf
  have HL := Lib.hid hl
  clear h hf hl
  go_enter Tryd.func37, Tryd.ntmps37
  go_wp2_with fail
  go_loopg [5, 8] l.length (fun q _ i wr => ∃ k : Nat, q = l.length - k ∧ k ≤ l.length ∧ i = .int .i64 k ∧ (∀ j (h : j < l.length), j < k → P l[j] = false) ∧ Below w.heap.size w wr)
  case atStart => exact ⟨0, rfl, by omega, rfl, fun j _ h => absurd h (by omega), Below.refl _ _⟩
  case round =>
    obtain ⟨k, rfl, hk, rfl, hall, hb⟩ := hrel
    have O := Lib.hid (And.intro hall hb)
    by_cases hlt : k < l.length
    · have hlb : k < bs.length := by have := HL.out; omega
      obtain ⟨b, rfl, -, c0⟩ := row_elem (own_below H.out hb) (i := k) (by simpa using hlb)
      have c1 : wr.cell? ⟨b, k, none⟩ = some (.pointer (some ⟨bs[k], 0, none⟩)) := by rw [c0]; simp [ptrV]
      have A := Lib.hid (HF.out k hlb hlt wr hb)
      unfold ptrV at A
      clear hall hb c0
      cases hx : P l[k]
      · go_wp2_with fail
        refine A.out.mono ?_
        rintro e w' ⟨rfl, hb'⟩
        have B' := Lib.hid (O.out.2.trans (hb'.mono O.out.2.size))
        rw [hx]
        have X := Lib.hid hx
        clear hb' hx
        go_wp2_with fail
        go_roundg (l.length - (k + 1))
        case measure => omega
        case rel => exact ⟨k + 1, rfl, by omega, by go_num, fun j h hj => by
          by_cases e : j = k
          · subst e; exact X.out
          · exact O.out.1 j h (by omega), B'.out⟩
      · go_wp2_with fail
        refine A.out.mono ?_
        rintro e w' ⟨rfl, hb'⟩
        have B' := Lib.hid (O.out.2.trans (hb'.mono O.out.2.size))
        rw [hx]
        have X := Lib.hid hx
        clear hb' hx
        go_wp2_with fail
        go_ret
        exact ⟨ret_int (posG_at hlt O.out.1 X.out).symm, B'.out⟩
    · obtain rfl : k = l.length := by omega
      clear hall hb
      go_wp2_with fail
      go_ret
      exact ⟨ret_int (posG_none fun j h => O.out.1 j h h).symm, O.out.2⟩

theorem indexOver {α : Type} (cv lv : Value) (P : α → Bool) (l : List α) (bs : List Nat) (B : Nat) (w : World)
    (hl : bs.length = l.length) (hn : l.length ≤ 1000000) (h : w.ownsRow B 82 1 lv l.length (bs.map ptrV))
    (hf : ∀ i (h1 : i < bs.length) (h2 : i < l.length) w', Below w.heap.size w w' → Calls Tryd.prog 59 #[ptrV bs[i], cv] w' fun e w'' => e = .returned (.bool (P l[i])) ∧ Below w'.heap.size w' w'') :
    Calls Tryd.prog 37 #[lv, .func (.func 59) #[] #[cv]] w fun e w' => e = .returned (.int .i64 (posG P l)) ∧ Below w.heap.size w w' := by
  obtain ⟨p, m, cap, rfl⟩ := own_form h
  obtain rfl : m = l.length := own_len h
  have hll : l.length ≤ 9223372036854775807 := by omega
  have H := Lib.hid h
  have HF := Lib.hid hf
  have HL := Lib.hid hl
  clear h hf hl
  go_enter Tryd.func37, Tryd.ntmps37
  go_wp2_with fail
  go_loopg [5, 8] l.length (fun q _ i wr => ∃ k : Nat, q = l.length - k ∧ k ≤ l.length ∧ i = .int .i64 k ∧ (∀ j (h : j < l.length), j < k → P l[j] = false) ∧ Below w.heap.size w wr)
  case atStart => exact ⟨0, rfl, by omega, rfl, fun j _ h => absurd h (by omega), Below.refl _ _⟩
  case round =>
    obtain ⟨k, rfl, hk, rfl, hall, hb⟩ := hrel
    have O := Lib.hid (And.intro hall hb)
    by_cases hlt : k < l.length
    · have hlb : k < bs.length := by have := HL.out; omega
      obtain ⟨b, rfl, -, c0⟩ := row_elem (own_below H.out hb) (i := k) (by simpa using hlb)
      have c1 : wr.cell? ⟨b, k, none⟩ = some (.pointer (some ⟨bs[k], 0, none⟩)) := by rw [c0]; simp [ptrV]
      have A := Lib.hid (HF.out k hlb hlt wr hb)
      unfold ptrV at A
      clear hall hb c0
      cases hx : P l[k]
      · go_wp2_with fail
        refine A.out.mono ?_
        rintro e w' ⟨rfl, hb'⟩
        have B' := Lib.hid (O.out.2.trans (hb'.mono O.out.2.size))
        rw [hx]
        have X := Lib.hid hx
        clear hb' hx
        go_wp2_with fail
        go_roundg (l.length - (k + 1))
        case measure => omega
        case rel => exact ⟨k + 1, rfl, by omega, by go_num, fun j h hj => by
          by_cases e : j = k
          · subst e; exact X.out
          · exact O.out.1 j h (by omega), B'.out⟩
      · go_wp2_with fail
        refine A.out.mono ?_
        rintro e w' ⟨rfl, hb'⟩
        have B' := Lib.hid (O.out.2.trans (hb'.mono O.out.2.size))
        rw [hx]
        have X := Lib.hid hx
        clear hb' hx
        go_wp2_with fail
        go_ret
        exact ⟨ret_int (posG_at hlt O.out.1 X.out).symm, B'.out⟩
    · obtain rfl : k = l.length := by omega
      clear hall hb
      go_wp2_with fail
      go_ret
      exact ⟨ret_int (posG_none fun j h => O.out.1 j h h).symm, O.out.2⟩

/-- is a number there? -/
theorem indexInt (x : Int) (xs : List Int) (v : Value) (w : World) (h : Nums w .i64 v xs) :
    Calls Tryd.prog 57 #[v, .int .i64 x] w fun e w' => e = .returned (.int .i64 (posG (fun y => decide (x = y)) xs)) ∧ w' = w := by
  obtain ⟨p, cap, rfl, hcap, hbig, -, -⟩ := h.slice
  have hll : xs.length ≤ 9223372036854775807 := by omega
  have H := Lib.hid h
  clear h hcap hbig
  go_enter Tryd.func57, Tryd.ntmps57
  go_wp2_with fail
  go_loopg [5, 8] xs.length (fun q _ i wr => ∃ k : Nat, q = xs.length - k ∧ k ≤ xs.length ∧ i = .int .i64 k ∧ (∀ j (h : j < xs.length), j < k → decide (x = xs[j]) = false) ∧ wr = w)
  case atStart => exact ⟨0, rfl, by omega, rfl, fun j _ h => absurd h (by omega), rfl⟩
  case round =>
    obtain ⟨k, rfl, hk, rfl, hall, rfl⟩ := hrel
    have O := Lib.hid hall
    by_cases hlt : k < xs.length
    · obtain ⟨b, off, rfl, c0⟩ := H.out.elem hlt
      clear hall
      by_cases hx : x = xs[k]
      · have hd : (x == xs[k]) = true := by simp [hx]
        have X := Lib.hid hx
        clear hx
        go_wp2_with fail
        go_ret
        exact ⟨ret_int (posG_at hlt O.out (by simpa using X.out)).symm, rfl⟩
      · have hd : (x == xs[k]) = false := by simp [hx]
        have X := Lib.hid hx
        clear hx
        go_wp2_with fail
        go_roundg (xs.length - (k + 1))
        case measure => omega
        case rel => exact ⟨k + 1, rfl, by omega, by go_num, fun j h hj => by
          by_cases e : j = k
          · subst e; simpa using X.out
          · exact O.out j h (by omega), rfl⟩
    · obtain rfl : k = xs.length := by omega
      clear hall
      go_wp2_with fail
      go_ret
      exact ⟨ret_int (posG_none fun j h => O.out j h h).symm, rfl⟩

theorem containsInt (x : Int) (xs : List Int) (v : Value) (w : World) (h : Nums w .i64 v xs) :
    Calls Tryd.prog 39 #[v, .int .i64 x] w fun e w' => e = .returned (.bool (xs.any fun y => decide (x = y))) ∧ w' = w := by
  have H := Lib.hid (indexInt x xs v w h)
  clear h
  go_enter Tryd.func39, Tryd.ntmps39
  go_wp2_with fail
  refine H.out.mono ?_
  rintro e w' ⟨rfl, rfl⟩
  go_wp2_with fail
  go_ret
  exact ⟨ret_bool (posG_ge _ xs), rfl⟩

end Go.Proofs.YtfmlhdikagogcaaDoor
