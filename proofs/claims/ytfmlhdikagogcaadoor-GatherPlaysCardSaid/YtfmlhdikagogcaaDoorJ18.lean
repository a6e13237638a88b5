/-
  gather: how it lies; its small calls.
  gather: slices.IndexFunc, slices.DeleteFunc at rows of pointers; slices.Contains at ints.
-/
import Derived.Test.YtfmlhdikagogcaaDoorJ17
import Derived.Test.YtfmlhdikagogcaaDoorJ03
import Derived.LaidEqlPtr
namespace Go.Proofs.YtfmlhdikagogcaaDoor
open Go.RowKit
set_option maxRecDepth 20000

/-- a gather -/
structure Gz where
  shards : Int
  dim : Int
  last : Int
  l : List Qs

/-- where a question lies -/
structure Qp where
  b : Nat
  mb : Nat
  vp : Value
  vo : Value
  vv : Value
  vh : Value
  pv : Value

def Qp.ptr (q : Qp) : Value := .pointer (some ⟨q.b, 0, none⟩)

/-- a gather's parts: its questions' places, the row of them -/
structure GIn (w : World) (B c : Nat) (F R : Nat → Prop) (g : Gz) (lv : Value) (Q : List Qp) : Prop where
  obj : w.heap[c]? = some (.cells #[.int .i64 g.shards, .int .i64 g.dim, .int .u64 g.last, lv] 80 (0, 0))
  row : w.ownsRow B 82 1 lv g.l.length (Q.map Qp.ptr)
  len : Q.length = g.l.length
  each : ∀ i (h : i < Q.length) (h' : i < g.l.length), QAt w R Q[i].b Q[i].mb g.l[i] Q[i].vp Q[i].vo Q[i].vv Q[i].vh Q[i].pv
  bs : (Q.map Qp.b).Nodup
  mbs : (Q.map Qp.mb).Nodup
  lvF : ∀ k, lv.ownBlock = some k → F k ∧ k ≠ c
  mbF : ∀ q ∈ Q, F q.mb ∧ q.mb ≠ c ∧ lv.ownBlock ≠ some q.mb
  here : F c
  low : ∀ k, F k → B ≤ k ∧ k < w.heap.size
  apart : ∀ k, R k → k < w.heap.size ∧ ¬ F k

def GAt (w : World) (B c : Nat) (F R : Nat → Prop) (g : Gz) : Prop := ∃ lv Q, GIn w B c F R g lv Q

theorem QAt.agree {w w' : World} {R : Nat → Prop} {b mb : Nat} {q : Qs} {vp vo vv vh pv : Value} (h : QAt w R b mb q vp vo vv vh pv) (ha : Agree R w w') (hm : w'.heap[mb]? = w.heap[mb]?) : QAt w' R b mb q vp vo vv vh pv := by
  obtain ⟨L, h1, h2⟩ := h.told
  exact ⟨fun j u hj => by rw [ha.cell h.own]; exact h.cells j u hj, by obtain ⟨ca, ta, ho⟩ := h.obj; exact ⟨ca, ta, (ha b h.own).trans ho⟩, h.own, h.note.agree ha, h.parts.agree h.lies ha, h.lies, h.empty, L, h1.kept hm, h2.agree ha⟩

theorem QAt.mono {w : World} {R R' : Nat → Prop} {b mb : Nat} {q : Qs} {vp vo vv vh pv : Value} (h : QAt w R b mb q vp vo vv vh pv) (hs : ∀ k, R k → R' k) : QAt w R' b mb q vp vo vv vh pv := by
  obtain ⟨L, h1, h2⟩ := h.told
  exact ⟨h.cells, h.obj, hs _ h.own, h.note.mono hs, h.parts, h.lies.mono hs, h.empty, L, h1, h2.mono hs⟩

theorem GIn.below {w w' : World} {B c : Nat} {F R : Nat → Prop} {g : Gz} {lv : Value} {Q : List Qp} (h : GIn w B c F R g lv Q) (hb : Below w.heap.size w w') : GIn w' B c F R g lv Q :=
  ⟨(hb.block c (h.low c h.here).2).trans h.obj, own_below h.row hb, h.len, fun i h1 h2 => (h.each i h1 h2).below hb, h.bs, h.mbs, h.lvF, h.mbF, h.here, fun k hk => ⟨(h.low k hk).1, Nat.lt_of_lt_of_le (h.low k hk).2 hb.size⟩, fun k hk => ⟨Nat.lt_of_lt_of_le (h.apart k hk).1 hb.size, (h.apart k hk).2⟩⟩

theorem GAt.below {w w' : World} {B c : Nat} {F R : Nat → Prop} {g : Gz} (h : GAt w B c F R g) (hb : Below w.heap.size w w') : GAt w' B c F R g := by
  obtain ⟨lv, Q, h⟩ := h
  exact ⟨lv, Q, h.below hb⟩

theorem GIn.get {w : World} {B c : Nat} {F R : Nat → Prop} {g : Gz} {lv : Value} {Q : List Qp} (h : GIn w B c F R g lv Q) :
    w.cell? ⟨c, 0, none⟩ = some (.int .i64 g.shards) ∧ w.cell? ⟨c, 1, none⟩ = some (.int .i64 g.dim) ∧ w.cell? ⟨c, 2, none⟩ = some (.int .u64 g.last) ∧ w.cell? ⟨c, 3, none⟩ = some lv ∧ (∀ j, w.frozen? ⟨c, j, none⟩ = false) := by
  refine ⟨by simp [World.cell?, h.obj], by simp [World.cell?, h.obj], by simp [World.cell?, h.obj], by simp [World.cell?, h.obj], fun j => by simp [World.frozen?, h.obj]⟩

/-- the row's elements -/
theorem row_elem {w : World} {B e n : Nat} {p : Option Addr} {m cap : Nat} {xs : List Value} (h : w.ownsRow B e 1 (.slice p m cap) n xs) {i : Nat} (hi : i < xs.length) :
    ∃ b, p = some ⟨b, 0, none⟩ ∧ m = n ∧ w.cell? ⟨b, i, none⟩ = some xs[i] := by
  obtain ⟨h1, ⟨h2, h3⟩ | ⟨g, cp, cur, hv, hb, hg, hn, hc, hs, ht⟩⟩ := h
  · omega
  · obtain ⟨rfl, rfl, rfl⟩ := Value.slice.inj hv
    refine ⟨g, rfl, rfl, ?_⟩
    have : (cur.toList.take (m * 1))[i]? = some xs[i] := by rw [ht]; exact List.getElem?_eq_getElem hi
    rw [List.getElem?_take] at this
    split at this
    · simp only [World.cell?, hg]; simpa using this
    · cases this

theorem newG (shards dim base : Int) (w : World) (h : 1 ≤ shards ∧ shards ≤ 4 ∧ 1 ≤ dim ∧ dim ≤ 8) :
    Calls Tryd.prog 10 #[.int .i64 shards, .int .i64 dim, .int .u64 base] w fun e w' => ∃ c, e = .returned (.tuple #[.pointer (some ⟨c, 0, none⟩), .int .i64 0]) ∧ GAt w' w.heap.size c (fun k => k = c) (fun _ => False) ⟨shards, dim, base, []⟩ ∧ w.heap.size ≤ c ∧ Below w.heap.size w w' := by
  obtain ⟨h1, h2, h3, h4⟩ := h
  go_enter Tryd.func10, Tryd.ntmps10
  go_wp2_with fail
  go_ret2
  refine ⟨_, rfl, ⟨.slice none 0 0, [], ?_⟩, Nat.le_refl _, (Below.refl _ _).alloc (Nat.le_refl _) _⟩
  exact ⟨heap_alloc_new _ _, World.ownsRow_nil _ _ _ _, rfl, fun i h => absurd h (by simp), by simp, by simp, fun k h => by simp [Value.ownBlock] at h, fun q h => absurd h (by simp), rfl, fun k (h : k = _) => by rw [h]; simp, fun _ h => h.elim⟩

theorem newG_none (shards dim base : Int) (w : World) (h : ¬ (1 ≤ shards ∧ shards ≤ 4 ∧ 1 ≤ dim ∧ dim ≤ 8)) :
    Calls Tryd.prog 10 #[.int .i64 shards, .int .i64 dim, .int .u64 base] w fun e w' => e = .returned (.tuple #[.pointer none, .int .i64 1]) ∧ w' = w := by
  by_cases h1 : shards < 1
  · go_enter Tryd.func10, Tryd.ntmps10
    go_wp2_with fail
    go_ret2
    exact ⟨rfl, rfl⟩
  · by_cases h2 : 4 < shards
    · go_enter Tryd.func10, Tryd.ntmps10
      go_wp2_with fail
      go_ret2
      exact ⟨rfl, rfl⟩
    · by_cases h3 : dim < 1
      · go_enter Tryd.func10, Tryd.ntmps10
        go_wp2_with fail
        go_ret2
        exact ⟨rfl, rfl⟩
      · have h4 : 8 < dim := by omega
        clear h
        go_enter Tryd.func10, Tryd.ntmps10
        go_wp2_with fail
        go_ret2
        exact ⟨rfl, rfl⟩

theorem glen (B c : Nat) (F R : Nat → Prop) (g : Gz) (w : World) (h : GAt w B c F R g) :
    Calls Tryd.prog 15 #[.pointer (some ⟨c, 0, none⟩)] w fun e w' => e = .returned (.int .i64 g.l.length) ∧ w = w' := by
  obtain ⟨lv, Q, h⟩ := h
  obtain ⟨-, -, -, z3, -⟩ := h.get
  obtain ⟨p, m, cap, rfl⟩ := own_form h.row
  obtain rfl : m = g.l.length := by
    rcases h.row.2 with ⟨h2, h3⟩ | ⟨_, _, _, hv, _⟩
    · cases h2; exact h3.symm
    · cases hv; rfl
  clear h
  go_enter Tryd.func15, Tryd.ntmps15
  go_wp2_with fail
  go_ret
  exact ⟨rfl, rfl⟩

theorem glen_nil (w : World) : Calls Tryd.prog 15 #[.pointer none] w fun e w' => e = .returned (.int .i64 0) ∧ w = w' := by
  go_enter Tryd.func15, Tryd.ntmps15
  go_wp2_with fail
  go_ret
  exact ⟨rfl, rfl⟩

end Go.Proofs.YtfmlhdikagogcaaDoor

namespace Go.Proofs.YtfmlhdikagogcaaDoor
open Go.RowKit
set_option maxRecDepth 20000

def ptrV (b : Nat) : Value := .pointer (some ⟨b, 0, none⟩)

theorem own_len {w : World} {B e size n m cap : Nat} {p : Option Addr} {xs : List Value} (h : w.ownsRow B e size (.slice p m cap) n xs) : m = n := by
  rcases h.2 with ⟨h2, h3⟩ | ⟨_, _, _, hv, _⟩
  · cases h2; exact h3.symm
  · cases hv; rfl

theorem ptr_other {a b : Nat} {ca cb : Array Value} {ta tb : TypeId} (w : World) (hne : a ≠ b) (ha : w.heap[a]? = some (.cells ca ta (0, 0))) (hb : w.heap[b]? = some (.cells cb tb (0, 0))) :
    (binOp .eql 82 (.pointer (some ⟨a, 0, none⟩)) (.pointer (some ⟨b, 0, none⟩))).run Tryd.prog w = .ok (.bool false) w := by
  obtain ⟨i, hi⟩ : ∃ i, Tryd.prog.info? 85 = some i ∧ i.size ≠ 0 := by
    refine ⟨_, rfl, ?_⟩
    decide
  exact run_eql_ptr_other w Tryd.underlying82 hi.1 hi.2 (by simp [hne]) ha hb

theorem ptr_same (a : Nat) (w : World) : (binOp .eql 82 (.pointer (some ⟨a, 0, none⟩)) (.pointer (some ⟨a, 0, none⟩))).run Tryd.prog w = .ok (.bool true) w := by
  obtain ⟨i, hi⟩ : ∃ i, Tryd.prog.info? 85 = some i := ⟨_, rfl⟩
  exact run_eql_ptr_same w _ Tryd.underlying82 hi

/-- is it that question? -/
theorem over1 (a b e0 : Nat) (w : World) (h : w.cell? ⟨e0, 0, none⟩ = some (ptrV b)) (ha : ∃ ca ta, w.heap[a]? = some (.cells ca ta (0, 0))) (hb : ∃ ca ta, w.heap[b]? = some (.cells ca ta (0, 0))) :
    Calls Tryd.prog 59 #[ptrV a, .pointer (some ⟨e0, 0, none⟩)] w fun e w' => e = .returned (.bool (decide (a = b))) ∧ w' = w := by
  obtain ⟨ca, ta, ha⟩ := ha
  obtain ⟨cb, tb, hb⟩ := hb
  unfold ptrV at *
  by_cases hab : a = b
  · subst hab
    have R := ptr_same a w
    clear ha hb
    go_enter Tryd.func59, Tryd.ntmps59
    go_wp2_with fail
    go_ret
    exact ⟨ret_bool (by simp), rfl⟩
  · have R := ptr_other w hab ha hb
    have X := Lib.hid hab
    clear ha hb hab
    go_enter Tryd.func59, Tryd.ntmps59
    go_wp2_with fail
    go_ret
    exact ⟨ret_bool (by simp [X.out]), rfl⟩

/-- has it that number? -/
theorem hear1 (a e0 : Nat) (x y : Int) (w : World) (h1 : w.cell? ⟨a, 6, none⟩ = some (.int .u64 x)) (h2 : w.cell? ⟨e0, 6, none⟩ = some (.int .u64 y)) :
    Calls Tryd.prog 38 #[ptrV a, .pointer (some ⟨e0, 0, none⟩)] w fun e w' => e = .returned (.bool (x == y)) ∧ Below w.heap.size w w' := by
  unfold ptrV at *
  go_enter Tryd.func38, Tryd.ntmps38
  go_wp2_with fail
  refine region_go (fun w' => w'.cell? ⟨a, 6, none⟩ = some (.int .u64 x) ∧ w'.cell? ⟨e0, 6, none⟩ = some (.int .u64 y)) (by kernel_rfl) ?hS0 (fun hH => ?_)
  case hS0 =>
    exact ⟨h1, h2⟩
  refine kY 0 hH ?_
  repeat simp only [Act.put, uA1, uB1, uC1]
  refine kY 1 hH ?_
  repeat simp only [Act.put, uA1, uB1, uC1]
  refine kY 2 hH ?_
  repeat simp only [Act.put, uA1, uB1, uC1]
  refine kY 3 hH ?_
  repeat simp only [Act.put, uA1, uB1, uC1]
  refine kY 4 hH ?_
  repeat simp only [Act.put, uA1, uB1, uC1]
  refine kY 5 hH ?_
  repeat simp only [Act.put, uA1, uB1, uC1]
  refine kY 6 hH ?_
  repeat simp only [Act.put, uA1, uB1, uC1]
  refine kY 7 hH ?_
  repeat simp only [Act.put, uA1, uB1, uC1]
  refine kY 8 hH ?_
  repeat simp only [Act.put, uA1, uB1, uC1]
  refine wpAnyH_done (by decide +kernel) ?_ _
  clear hH
  go_wp2_with fail
  go_ret
  exact ⟨rfl, (Below.refl _ w).drew⟩

/-- the first that has p -/
theorem indexHear {α : Type} (cv lv : Value) (P : α → Bool) (l : List α) (bs : List Nat) (B : Nat) (w : World)
    (hl : bs.length = l.length) (hn : l.length ≤ 1000000) (h : w.ownsRow B 82 1 lv l.length (bs.map ptrV))
    (hf : ∀ i (h1 : i < bs.length) (h2 : i < l.length) w', Below w.heap.size w w' → Calls Tryd.prog 38 #[ptrV bs[i], cv] w' fun e w'' => e = .returned (.bool (P l[i])) ∧ Below w'.heap.size w' w'') :
    Calls Tryd.prog 37 #[lv, .func (.func 38) #[] #[cv]] w fun e w' => e = .returned (.int .i64 (posG P l)) ∧ Below w.heap.size w w' := by
  obtain ⟨p, m, cap, rfl⟩ := own_form h
  obtain rfl : m = l.length := own_len h
  have hll : l.length ≤ 9223372036854775807 := by omega
  have H := Lib.hid h
  have HF := Lib.hid hf
  have HL := Lib.hid hl
  clear h hf hl
  go_enter Tryd.func37, Tryd.ntmps37
  go_wp2_with fail
  go_loopg [5, 8] l.length (fun q _ i wr => ∃ k : Nat, q = l.length - k ∧ k ≤ l.length ∧ i = .int .i64 k ∧ (∀ j (h : j < l.length), j < k → P l[j] = false) ∧ Below w.heap.size w wr)
  case atStart => exact ⟨0, rfl, by omega, rfl, fun j _ h => absurd h (by omega), Below.refl _ _⟩
  case round =>
    obtain ⟨k, rfl, hk, rfl, hall, hb⟩ := hrel
    have O := Lib.hid (And.intro hall hb)
    by_cases hlt : k < l.length
    · have hlb : k < bs.length := by have := HL.out; omega
      obtain ⟨b, rfl, -, c0⟩ := row_elem (own_below H.out hb) (i := k) (by simpa using hlb)
      have c1 : wr.cell? ⟨b, k, none⟩ = some (.pointer (some ⟨bs[k], 0, none⟩)) := by rw [c0]; simp [ptrV]
      have A := Lib.hid (HF.out k hlb hlt wr hb)
      unfold ptrV at A
      clear hall hb c0
      cases hx : P l[k]
      · go_wp2_with fail
        refine A.out.mono ?_
        rintro e w' ⟨rfl, hb'⟩
        have B' := Lib.hid (O.out.2.trans (hb'.mono O.out.2.size))
        rw [hx]
        have X := Lib.hid hx
        clear hb' hx
        go_wp2_with fail
        go_roundg (l.length - (k + 1))
        case measure => omega
        case rel => exact ⟨k + 1, rfl, by omega, by go_num, fun j h hj => by
          by_cases e : j = k
          · subst e; exact X.out
          · exact O.out.1 j h (by omega), B'.out⟩
      · go_wp2_with fail
        refine A.out.mono ?_
        rintro e w' ⟨rfl, hb'⟩
        have B' := Lib.hid (O.out.2.trans (hb'.mono O.out.2.size))
        rw [hx]
        have X := Lib.hid hx
        clear hb' hx
        go_wp2_with fail
        go_ret
        exact ⟨ret_int (posG_at hlt O.out.1 X.out).symm, B'.out⟩
    · obtain rfl : k = l.length := by omega
      clear hall hb
      go_wp2_with fail
      go_ret
      exact ⟨ret_int (posG_none fun j h => O.out.1 j h h).symm, O.out.2⟩

theorem indexOver {α : Type} (cv lv : Value) (P : α → Bool) (l : List α) (bs : List Nat) (B : Nat) (w : World)
    (hl : bs.length = l.length) (hn : l.length ≤ 1000000) (h : w.ownsRow B 82 1 lv l.length (bs.map ptrV))
    (hf : ∀ i (h1 : i < bs.length) (h2 : i < l.length) w', Below w.heap.size w w' → Calls Tryd.prog 59 #[ptrV bs[i], cv] w' fun e w'' => e = .returned (.bool (P l[i])) ∧ Below w'.heap.size w' w'') :
    Calls Tryd.prog 37 #[lv, .func (.func 59) #[] #[cv]] w fun e w' => e = .returned (.int .i64 (posG P l)) ∧ Below w.heap.size w w' := by
  obtain ⟨p, m, cap, rfl⟩ := own_form h
  obtain rfl : m = l.length := own_len h
  have hll : l.length ≤ 9223372036854775807 := by omega
  have H := Lib.hid h
  have HF := Lib.hid hf
  have HL := Lib.hid hl
  clear h hf hl
  go_enter Tryd.func37, Tryd.ntmps37
  go_wp2_with fail
  go_loopg [5, 8] l.length (fun q _ i wr => ∃ k : Nat, q = l.length - k ∧ k ≤ l.length ∧ i = .int .i64 k ∧ (∀ j (h : j < l.length), j < k → P l[j] = false) ∧ Below w.heap.size w wr)
  case atStart => exact ⟨0, rfl, by omega, rfl, fun j _ h => absurd h (by omega), Below.refl _ _⟩
  case round =>
    obtain ⟨k, rfl, hk, rfl, hall, hb⟩ := hrel
    have O := Lib.hid (And.intro hall hb)
    by_cases hlt : k < l.length
    · have hlb : k < bs.length := by have := HL.out; omega
      obtain ⟨b, rfl, -, c0⟩ := row_elem (own_below H.out hb) (i := k) (by simpa using hlb)
      have c1 : wr.cell? ⟨b, k, none⟩ = some (.pointer (some ⟨bs[k], 0, none⟩)) := by rw [c0]; simp [ptrV]
      have A := Lib.hid (HF.out k hlb hlt wr hb)
      unfold ptrV at A
      clear hall hb c0
      cases hx : P l[k]
      · go_wp2_with fail
        refine A.out.mono ?_
        rintro e w' ⟨rfl, hb'⟩
        have B' := Lib.hid (O.out.2.trans (hb'.mono O.out.2.size))
        rw [hx]
        have X := Lib.hid hx
        clear hb' hx
        go_wp2_with fail
        go_roundg (l.length - (k + 1))
        case measure => omega
        case rel => exact ⟨k + 1, rfl, by omega, by go_num, fun j h hj => by
          by_cases e : j = k
          · subst e; exact X.out
          · exact O.out.1 j h (by omega), B'.out⟩
      · go_wp2_with fail
        refine A.out.mono ?_
        rintro e w' ⟨rfl, hb'⟩
        have B' := Lib.hid (O.out.2.trans (hb'.mono O.out.2.size))
        rw [hx]
        have X := Lib.hid hx
        clear hb' hx
        go_wp2_with fail
        go_ret
        exact ⟨ret_int (posG_at hlt O.out.1 X.out).symm, B'.out⟩
    · obtain rfl : k = l.length := by omega
      clear hall hb
      go_wp2_with fail
      go_ret
      exact ⟨ret_int (posG_none fun j h => O.out.1 j h h).symm, O.out.2⟩

/-- is a number there? -/
theorem indexInt (x : Int) (xs : List Int) (v : Value) (w : World) (h : Nums w .i64 v xs) :
    Calls Tryd.prog 57 #[v, .int .i64 x] w fun e w' => e = .returned (.int .i64 (posG (fun y => decide (x = y)) xs)) ∧ w' = w := by
  obtain ⟨p, cap, rfl, hcap, hbig, -, -⟩ := h.slice
  have hll : xs.length ≤ 9223372036854775807 := by omega
  have H := Lib.hid h
  clear h hcap hbig
  go_enter Tryd.func57, Tryd.ntmps57
  go_wp2_with fail
  go_loopg [5, 8] xs.length (fun q _ i wr => ∃ k : Nat, q = xs.length - k ∧ k ≤ xs.length ∧ i = .int .i64 k ∧ (∀ j (h : j < xs.length), j < k → decide (x = xs[j]) = false) ∧ wr = w)
  case atStart => exact ⟨0, rfl, by omega, rfl, fun j _ h => absurd h (by omega), rfl⟩
  case round =>
    obtain ⟨k, rfl, hk, rfl, hall, rfl⟩ := hrel
    have O := Lib.hid hall
    by_cases hlt : k < xs.length
    · obtain ⟨b, off, rfl, c0⟩ := H.out.elem hlt
      clear hall
      by_cases hx : x = xs[k]
      · have hd : (x == xs[k]) = true := by simp [hx]
        have X := Lib.hid hx
        clear hx
        go_wp2_with fail
        go_ret
        exact ⟨ret_int (posG_at hlt O.out (by simpa using X.out)).symm, rfl⟩
      · have hd : (x == xs[k]) = false := by simp [hx]
        have X := Lib.hid hx
        clear hx
        go_wp2_with fail
        go_roundg (xs.length - (k + 1))
        case measure => omega
        case rel => exact ⟨k + 1, rfl, by omega, by go_num, fun j h hj => by
          by_cases e : j = k
          · subst e; simpa using X.out
          · exact O.out j h (by omega), rfl⟩
    · obtain rfl : k = xs.length := by omega
      clear hall
      go_wp2_with fail
      go_ret
      exact ⟨ret_int (posG_none fun j h => O.out j h h).symm, rfl⟩

theorem containsInt (x : Int) (xs : List Int) (v : Value) (w : World) (h : Nums w .i64 v xs) :
    Calls Tryd.prog 39 #[v, .int .i64 x] w fun e w' => e = .returned (.bool (xs.any fun y => decide (x = y))) ∧ w' = w := by
  have H := Lib.hid (indexInt x xs v w h)
  clear h
  go_enter Tryd.func39, Tryd.ntmps39
  go_wp2_with fail
  refine H.out.mono ?_
  rintro e w' ⟨rfl, rfl⟩
  go_wp2_with fail
  go_ret
  exact ⟨ret_bool (posG_ge _ xs), rfl⟩

end Go.Proofs.YtfmlhdikagogcaaDoor
