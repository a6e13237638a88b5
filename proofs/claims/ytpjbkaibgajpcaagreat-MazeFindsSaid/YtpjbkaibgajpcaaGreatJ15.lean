/- graph's document: Add; where an edge stands. graph's document: Near. A call through an interface value whose dynamic type's method is known. -/
import Derived.Test.YtpjbkaibgajpcaaGreatJ14
import Derived.Test.YtpjbkaibgajpcaaGreatJ01
import Derived.Shelf.Abstract
namespace Go.Proofs.YtpjbkaibgajpcaaGreat
open Go.RowKit
set_option maxRecDepth 20000

theorem cells_get {w : World} {b : Nat} {cs : Array Value} {t : TypeId} {fr : Nat × Nat} (h : w.heap[b]? = some (.cells cs t fr)) (j : Nat) : w.cell? ⟨b, j, none⟩ = cs[j]? := by simp [World.cell?, h]

theorem thawed {w : World} {b : Nat} {cs : Array Value} {t : TypeId} (h : w.heap[b]? = some (.cells cs t (0, 0))) (j : Nat) : w.frozen? ⟨b, j, none⟩ = false := by simp [World.frozen?, h]

theorem set_block {w : World} {b : Nat} {cs : Array Value} {t : TypeId} {fr : Nat × Nat} (h : w.heap[b]? = some (.cells cs t fr)) (j : Nat) (v : Value) : (w.setCell ⟨b, j, none⟩ v).heap[b]? = some (.cells (cs.setIfInBounds j v) t fr) := by
  simp only [World.setCell]
  rw [Array.getElem?_modify, if_pos rfl, h]
  rfl

theorem DGr.setN {w w' : World} {B c : Nat} {N N' : List Int} {E : Eg} {vn ve v : Value} (h : DGr w B c N E vn ve) (hb : Below w.heap.size w w') (hB : B ≤ w.heap.size) (hv : w'.ownsRow w.heap.size 36 1 v N'.length (N'.map (Value.int .u64))) :
    DGr (w'.setCell ⟨c, 0, none⟩ v) B c N' E v ve ∧ Mod (fun j => j = c) w (w'.setCell ⟨c, 0, none⟩ v) := by
  have h2 := h.below hb
  have hg := grownBy_setCells c [v] 0 w'
  have ht := h2.cell
  refine ⟨⟨by have := set_block ht 0 v; simpa using this, own_mono (hv.kept hg (.inr fun e => ?_)) hB, h2.edges.kept hg (.inr fun e => ?_), h.low⟩, Mod.setCell (F := fun j => j = c) (Mod.of_below hb) (p := ⟨c, 0, none⟩) (.inl rfl) v⟩
  · have := OfType.ne (own_type hv e) ⟨_, _, ht⟩
    exact absurd this (by decide)
  · have := OfType.ne (own_type h2.edges e) ⟨_, _, ht⟩
    exact absurd this (by decide)

set_option maxHeartbeats 4000000 in
theorem dAdd (w : World) (B c : Nat) (N : List Int) (E : Eg) (vn ve : Value) (k : Int) (h : DGr w B c N E vn ve) (hl : N.length ≤ 900000) (hB : B ≤ w.heap.size) :
    Calls Tryz.prog 64 #[.pointer (some ⟨c, 0, none⟩), .int .u64 k] w fun e w' =>
      (k ∈ N ∧ e = .returned (.int .i64 7) ∧ w' = w) ∨ (k ∉ N ∧ e = .returned (.int .i64 0) ∧ ∃ v, DGr w' B c (putZ N k) E v ve ∧ Mod (fun j => j = c) w w') := by
  have cH := dHas w B c N E vn ve k h
  by_cases hk : k ∈ N
  · rw [decide_eq_true hk] at cH
    clear h
    go_enter Tryz.func64, Tryz.ntmps64
    go_wp2_with (go_at_call 63; refine cH.mono ?_; rintro e w' ⟨rfl, rfl⟩)
    go_ret
    exact .inl ⟨hk, rfl, rfl⟩
  · rw [decide_eq_false hk] at cH
    have c0 := h.get0
    have cP := dPut w B vn N k h.nodes (by omega)
    have H := Lib.hid h
    clear h
    go_enter Tryz.func64, Tryz.ntmps64
    go_wp2_with (first
      | (go_at_call 63; refine cH.mono ?_; rintro e w' ⟨rfl, rfl⟩)
      | (go_at_call 57; refine cP.mono ?_; rintro e w3 ⟨v, rfl, hr, hb⟩; obtain ⟨q3, n3, c3, rfl⟩ := own_form hr; have E := Lib.hid (H.out.setN hb hB hr); have t3 := (H.out.below hb).get0; have f3 := thawed (H.out.below hb).cell 0; clear hr hb))
    go_ret
    exact .inr ⟨hk, rfl, _, E.out⟩

theorem min2 (a b : Int) (w : World) : (Builtin.min_ #[36, 36] 36 #[.int .u64 a, .int .u64 b]).run Tryz.prog w = .ok (.int .u64 (min a b)) w := by
  simp [Builtin.min_, Builtin.min2]
  split <;> omega
theorem max2 (a b : Int) (w : World) : (Builtin.max_ #[36, 36] 36 #[.int .u64 a, .int .u64 b]).run Tryz.prog w = .ok (.int .u64 (max a b)) w := by
  simp [Builtin.max_, Builtin.max2]
  split <;> omega

def isE (lo hi : Int) (e : Int × Int × Bool) : Bool := decide (e.1 = lo) && decide (e.2.1 = hi)

def findZ (N : List Int) (E : Eg) (a b : Int) : Int × Int :=
  if a = b then (-1, 1) else if ¬ a ∈ N ∨ ¬ b ∈ N then (-1, 6) else
  match E.findIdx? (isE (min a b) (max a b)) with
  | some i => (i, 0)
  | none => (-1, 0)

set_option maxHeartbeats 4000000 in
theorem dFind (w : World) (B c : Nat) (N : List Int) (E : Eg) (vn ve : Value) (a b : Int) (h : DGr w B c N E vn ve) (hab : a ≠ b) (ha : a ∈ N) (hb : b ∈ N) :
    Calls Tryz.prog 88 #[.pointer (some ⟨c, 0, none⟩), .int .u64 a, .int .u64 b] w fun e w' => e = .returned (.tuple #[.int .i64 (findZ N E a b).1, .int .i64 (findZ N E a b).2]) ∧ Below w.heap.size w w' := by
  have cA := dHas w B c N E vn ve a h
  have cB := dHas w B c N E vn ve b h
  rw [decide_eq_true ha] at cA
  rw [decide_eq_true hb] at cB
  have c1 := h.get1
  have hmin := min2 a b
  have hmax := max2 a b
  obtain ⟨lo, hlo⟩ : ∃ lo, lo = min a b := ⟨_, rfl⟩
  obtain ⟨hi, hhi⟩ : ∃ hi, hi = max a b := ⟨_, rfl⟩
  have hZ : findZ N E a b = match E.findIdx? (isE lo hi) with | some i => (i, 0) | none => (-1, 0) := by
    unfold findZ
    rw [if_neg hab, if_neg (by simp [ha, hb]), hlo, hhi]
  rw [← hlo] at hmin
  rw [← hhi] at hmax
  have HE := Lib.hid h.edges
  have HZ := Lib.hid hZ
  obtain ⟨pe, me, ce, rfl⟩ := own_form h.edges
  obtain rfl : me = E.length := own_len h.edges
  have hl : E.length ≤ 9223372036854775807 := own_short h.edges
  clear hlo hhi hZ h ha hb
  go_enter Tryz.func88, Tryz.ntmps88
  go_wp2_with (first
    | (go_at_call 63; with_reducible refine cA.mono ?_; rintro e w' ⟨rfl, rfl⟩)
    | (go_at_call 63; with_reducible refine cB.mono ?_; rintro e w' ⟨rfl, rfl⟩))
  go_loopg [30] E.length (fun q i wr => ∃ j : Nat, q = E.length - j ∧ j ≤ E.length ∧ i = .int .i64 j ∧ (∀ x ∈ E.take j, isE lo hi x = false) ∧ Below w.heap.size w wr)
  case atStart => exact ⟨0, rfl, by omega, rfl, by simp, Below.refl _ _⟩
  case round =>
    obtain ⟨j, rfl, hj, rfl, hall, hbl⟩ := hrel
    have HA := Lib.hid (And.intro hall hbl)
    have hs := hbl.size
    clear hall
    by_cases hlt : j < E.length
    · obtain ⟨g, cap', hve, -, hgl⟩ := HE.out.form (by omega)
      obtain ⟨rfl, -, rfl⟩ := Value.slice.inj hve
      have row := own_below HE.out hbl
      have e3 := flatE_get E j hlt
      have d0 : wr.cell? ⟨g, j * 3, none⟩ = some (.int .u64 E[j].1) := by rw [World.ownsRow.cellAt row _ (by omega)]; exact e3.1
      have d1 : wr.cell? ⟨g, j * 3 + 1, none⟩ = some (.int .u64 E[j].2.1) := by rw [World.ownsRow.cellAt row _ (by omega)]; exact e3.2.1
      have d2 : wr.cell? ⟨g, j * 3 + 2, none⟩ = some (.bool E[j].2.2) := by rw [World.ownsRow.cellAt row _ (by omega)]; exact e3.2.2
      have htk : E.take (j + 1) = E.take j ++ [E[j]] := by rw [List.take_add_one, List.getElem?_eq_getElem hlt]; rfl
      have HB := Lib.hid (hbl.alloc hs (.cells #[.int .u64 E[j].1, .int .u64 E[j].2.1, .bool E[j].2.2] 144))
      clear row e3 hve hbl
      have NX : isE lo hi E[j] = false → ∀ x ∈ E.take (j + 1), isE lo hi x = false := fun h0 x hx => by
        rw [htk] at hx
        rcases List.mem_append.1 hx with h1 | h1
        · exact HA.out.1 x h1
        · rw [List.mem_singleton.1 h1]; exact h0
      have NX := Lib.hid NX
      by_cases hx : E[j].1 = lo
      · by_cases hy : E[j].2.1 = hi
        · have hf : E.findIdx? (isE lo hi) = some j := by
            rw [List.findIdx?_eq_some_iff_getElem]
            refine ⟨hlt, by simp [isE, hx, hy], fun i hi2 => ?_⟩
            rw [HA.out.1 E[i] (List.mem_take_iff_getElem.2 ⟨i, by omega, rfl⟩)]
            simp
          have hz := HZ.out
          rw [hf] at hz
          have HZ2 := Lib.hid hz
          have b1 : (E[j].1 == lo) = true := by simp [hx]
          have b2 : (E[j].2.1 == hi) = true := by simp [hy]
          clear hf hz htk hx hy
          go_wp2_with fail
          go_returns
          exact ⟨by rw [HZ2.out]; rfl, HB.out⟩
        · have h0 : isE lo hi E[j] = false := by simp [isE, hy]
          have N2 := Lib.hid (NX.out h0)
          have b1 : (E[j].1 == lo) = true := by simp [hx]
          have b2 : (E[j].2.1 == hi) = false := by simp [hy]
          clear h0 htk hx hy
          go_wp2_with fail
          go_roundg (E.length - (j + 1))
          case measure => omega
          case rel => exact ⟨j + 1, rfl, by omega, by go_num, N2.out, HB.out⟩
      · have h0 : isE lo hi E[j] = false := by simp [isE, hx]
        have N2 := Lib.hid (NX.out h0)
        have b1 : (E[j].1 == lo) = false := by simp [hx]
        clear h0 htk hx
        go_wp2_with fail
        go_roundg (E.length - (j + 1))
        case measure => omega
        case rel => exact ⟨j + 1, rfl, by omega, by go_num, N2.out, HB.out⟩
    · have hz := HZ.out
      rw [List.findIdx?_eq_none_iff.2 (fun x hx => by
        have := HA.out.1
        rw [List.take_of_length_le (by omega)] at this
        exact this x hx)] at hz
      have HZ2 := Lib.hid hz
      clear hz
      go_wp2_with fail
      go_returns
      exact ⟨by rw [HZ2.out]; rfl, HA.out.2⟩

set_option maxHeartbeats 4000000 in
theorem dFindAll (w : World) (B c : Nat) (N : List Int) (E : Eg) (vn ve : Value) (a b : Int) (h : DGr w B c N E vn ve) :
    Calls Tryz.prog 88 #[.pointer (some ⟨c, 0, none⟩), .int .u64 a, .int .u64 b] w fun e w' => e = .returned (.tuple #[.int .i64 (findZ N E a b).1, .int .i64 (findZ N E a b).2]) ∧ Below w.heap.size w w' := by
  by_cases hab : a = b
  · have hz : findZ N E a b = (-1, 1) := by unfold findZ; rw [if_pos hab]
    rw [hz]
    subst hab
    go_enter Tryz.func88, Tryz.ntmps88
    go_wp2_with fail
    go_returns
    exact ⟨rfl, Below.refl _ _⟩
  by_cases ha : a ∈ N
  · by_cases hb : b ∈ N
    · exact dFind w B c N E vn ve a b h hab ha hb
    · have hz : findZ N E a b = (-1, 6) := by unfold findZ; rw [if_neg hab, if_pos (.inr hb)]
      have cA := dHas w B c N E vn ve a h
      have cB := dHas w B c N E vn ve b h
      rw [decide_eq_true ha] at cA
      rw [decide_eq_false hb] at cB
      rw [hz]
      have b1 : (a == b) = false := by simp [hab]
      clear h hz ha hb
      go_enter Tryz.func88, Tryz.ntmps88
      go_wp2_with (first
        | (go_at_call 63; with_reducible refine cA.mono ?_; rintro e w' ⟨rfl, rfl⟩)
        | (go_at_call 63; with_reducible refine cB.mono ?_; rintro e w' ⟨rfl, rfl⟩))
      go_returns
      exact ⟨rfl, Below.refl _ _⟩
  · have hz : findZ N E a b = (-1, 6) := by unfold findZ; rw [if_neg hab, if_pos (.inl ha)]
    have cA := dHas w B c N E vn ve a h
    rw [decide_eq_false ha] at cA
    rw [hz]
    have b1 : (a == b) = false := by simp [hab]
    clear h hz ha
    go_enter Tryz.func88, Tryz.ntmps88
    go_wp2_with (first
      | (go_at_call 63; with_reducible refine cA.mono ?_; rintro e w' ⟨rfl, rfl⟩))
    go_returns
    exact ⟨rfl, Below.refl _ _⟩

end Go.Proofs.YtpjbkaibgajpcaaGreat

namespace Go.Proofs.YtpjbkaibgajpcaaGreat
open Go.RowKit
set_option maxRecDepth 20000

def nearStep (k : Int) (soft : Bool) (out : List Int) (e : Int × Int × Bool) : List Int :=
  if (soft && e.2.2) = true then out else if e.1 = k then putZ out e.2.1 else if e.2.1 = k then putZ out e.1 else out

def nearD (E : Eg) (k : Int) (soft : Bool) : List Int := E.foldl (nearStep k soft) []

theorem nearStep_len (k : Int) (soft : Bool) (out : List Int) (e : Int × Int × Bool) : (nearStep k soft out e).length ≤ out.length + 1 := by
  unfold nearStep
  split
  · omega
  · split
    · rw [putZ_length]; exact Nat.le_refl _
    · split
      · rw [putZ_length]; exact Nat.le_refl _
      · omega

theorem nearD_snoc (E : Eg) (k : Int) (soft : Bool) (j : Nat) (hj : j < E.length) : nearD (E.take (j + 1)) k soft = nearStep k soft (nearD (E.take j) k soft) E[j] := by
  unfold nearD
  rw [List.take_add_one, List.getElem?_eq_getElem hj, Option.toList_some, List.foldl_append]
  rfl

theorem nearD_len (E : Eg) (k : Int) (soft : Bool) : (nearD E k soft).length ≤ E.length := by
  have : ∀ (E : Eg) (out : List Int), (E.foldl (nearStep k soft) out).length ≤ out.length + E.length := by
    intro E
    induction E with
    | nil => intro out; simp
    | cons e E ih =>
      intro out
      rw [List.foldl_cons, List.length_cons]
      have := ih (nearStep k soft out e)
      have := nearStep_len k soft out e
      omega
  have := this E []
  simpa [nearD] using this


set_option maxRecDepth 100000 in
set_option maxHeartbeats 4000000 in
theorem dNear (w : World) (B c : Nat) (N : List Int) (E : Eg) (vn ve : Value) (k : Int) (soft : Bool) (h : DGr w B c N E vn ve) (hl : E.length ≤ 400000) :
    Calls Tryz.prog 49 #[.pointer (some ⟨c, 0, none⟩), .int .u64 k, .bool soft] w (NewL w (nearD E k soft)) := by
  cases soft with
  | false =>
    have c1 := h.get1
    have HE := Lib.hid h.edges
    obtain ⟨pe, me, ce, rfl⟩ := own_form h.edges
    obtain rfl : me = E.length := own_len h.edges
    have hlE : E.length ≤ 9223372036854775807 := by omega
    clear h
    go_enter Tryz.func49, Tryz.ntmps49
    go_wp2_with fail
    go_loopg [7, 17] E.length (fun q s i wr => ∃ (j : Nat) (p : Option Addr) (n cap : Nat), q = E.length - j ∧ j ≤ E.length ∧ i = .int .i64 j ∧ s = .slice p n cap ∧ wr.ownsRow w.heap.size 36 1 (.slice p n cap) (nearD (E.take j) k false).length ((nearD (E.take j) k false).map (Value.int .u64)) ∧ Below w.heap.size w wr)
    case atStart => exact ⟨0, none, 0, 0, rfl, by omega, rfl, rfl, ⟨rfl, .inl ⟨rfl, rfl⟩⟩, Below.refl _ _⟩
    case round =>
      obtain ⟨j, p, n, cap, rfl, hj, rfl, rfl, hrow, hbl⟩ := hrel
      obtain rfl : n = _ := own_len hrow
      have hs := hbl.size
      have HA := Lib.hid (And.intro hrow hbl)
      by_cases hlt : j < E.length
      · obtain ⟨g, cap', hve, -, hgl⟩ := HE.out.form (by omega)
        obtain ⟨rfl, -, rfl⟩ := Value.slice.inj hve
        have row := own_below HE.out hbl
        have e3 := flatE_get E j hlt
        have sn := nearD_snoc E k false j hlt
        obtain ⟨⟨x, y, z⟩, he⟩ : ∃ e, e = E[j] := ⟨_, rfl⟩
        rw [← he] at e3 sn
        have d0 : wr.cell? ⟨g, j * 3, none⟩ = some (.int .u64 x) := by rw [World.ownsRow.cellAt row _ (by omega)]; exact e3.1
        have d1 : wr.cell? ⟨g, j * 3 + 1, none⟩ = some (.int .u64 y) := by rw [World.ownsRow.cellAt row _ (by omega)]; exact e3.2.1
        have d2 : wr.cell? ⟨g, j * 3 + 2, none⟩ = some (.bool z) := by rw [World.ownsRow.cellAt row _ (by omega)]; exact e3.2.2
        have hln : (nearD (E.take j) k false).length ≤ 1000000 := by have := nearD_len (E.take j) k false; rw [List.length_take] at this; omega
        clear row e3 hve he
        cases z with
        | true =>
          have hbw := hbl.alloc hs (.cells #[.int .u64 x, .int .u64 y, .bool true] 144)
          have hrw := hrow.alloc (.cells #[.int .u64 x, .int .u64 y, .bool true] 144)
          have cA := dPut _ _ _ (nearD (E.take j) k false) y hrw hln
          have cB := dPut _ _ _ (nearD (E.take j) k false) x hrw hln
          have HB := Lib.hid (And.intro hrw hbw)
          clear hbl hrow hrw hbw
          by_cases h1 : x = k
          · have b1 : (x == k) = true := by simp [h1]
            have h1' := Lib.hid h1
            clear h1
            have sn2 := Lib.hid (show nearD (E.take (j + 1)) k false = putZ (nearD (E.take j) k false) y from by rw [sn]; simp [nearStep, h1'.out])
            clear sn
            go_wp2_with (go_at_call 57; refine cA.mono ?_; rintro e w3 ⟨v, rfl, hr, hb3⟩; obtain ⟨q3, n3, c3, rfl⟩ := own_form hr; have R3 := Lib.hid (And.intro hr hb3); clear hr hb3)
            go_roundg (E.length - (j + 1))
            case measure => omega
            case rel => exact ⟨j + 1, q3, n3, c3, rfl, by omega, by go_num, rfl, by rw [sn2.out]; exact own_mono R3.out.1 HB.out.2.size, HB.out.2.trans (R3.out.2.mono HB.out.2.size)⟩
          · have b1 : (x == k) = false := by simp [h1]
            have h1' := Lib.hid h1
            clear h1
            by_cases h2 : y = k
            · have b2 : (y == k) = true := by simp [h2]
              have h2' := Lib.hid h2
              clear h2
              have sn2 := Lib.hid (show nearD (E.take (j + 1)) k false = putZ (nearD (E.take j) k false) x from by rw [sn]; simp [nearStep, h1'.out, h2'.out])
              clear sn
              go_wp2_with (go_at_call 57; refine cB.mono ?_; rintro e w3 ⟨v, rfl, hr, hb3⟩; obtain ⟨q3, n3, c3, rfl⟩ := own_form hr; have R3 := Lib.hid (And.intro hr hb3); clear hr hb3)
              go_roundg (E.length - (j + 1))
              case measure => omega
              case rel => exact ⟨j + 1, q3, n3, c3, rfl, by omega, by go_num, rfl, by rw [sn2.out]; exact own_mono R3.out.1 HB.out.2.size, HB.out.2.trans (R3.out.2.mono HB.out.2.size)⟩
            · have b2 : (y == k) = false := by simp [h2]
              have h2' := Lib.hid h2
              clear h2
              have sn2 := Lib.hid (show nearD (E.take (j + 1)) k false = nearD (E.take j) k false from by rw [sn]; simp [nearStep, h1'.out, h2'.out])
              clear sn
              go_wp2_with fail
              go_roundg (E.length - (j + 1))
              case measure => omega
              case rel => exact ⟨j + 1, p, _, cap, rfl, by omega, by go_num, rfl, by rw [sn2.out]; exact HB.out.1, HB.out.2⟩
        | false =>
          have hbw := hbl.alloc hs (.cells #[.int .u64 x, .int .u64 y, .bool false] 144)
          have hrw := hrow.alloc (.cells #[.int .u64 x, .int .u64 y, .bool false] 144)
          have cA := dPut _ _ _ (nearD (E.take j) k false) y hrw hln
          have cB := dPut _ _ _ (nearD (E.take j) k false) x hrw hln
          have HB := Lib.hid (And.intro hrw hbw)
          clear hbl hrow hrw hbw
          by_cases h1 : x = k
          · have b1 : (x == k) = true := by simp [h1]
            have h1' := Lib.hid h1
            clear h1
            have sn2 := Lib.hid (show nearD (E.take (j + 1)) k false = putZ (nearD (E.take j) k false) y from by rw [sn]; simp [nearStep, h1'.out])
            clear sn
            go_wp2_with (go_at_call 57; refine cA.mono ?_; rintro e w3 ⟨v, rfl, hr, hb3⟩; obtain ⟨q3, n3, c3, rfl⟩ := own_form hr; have R3 := Lib.hid (And.intro hr hb3); clear hr hb3)
            go_roundg (E.length - (j + 1))
            case measure => omega
            case rel => exact ⟨j + 1, q3, n3, c3, rfl, by omega, by go_num, rfl, by rw [sn2.out]; exact own_mono R3.out.1 HB.out.2.size, HB.out.2.trans (R3.out.2.mono HB.out.2.size)⟩
          · have b1 : (x == k) = false := by simp [h1]
            have h1' := Lib.hid h1
            clear h1
            by_cases h2 : y = k
            · have b2 : (y == k) = true := by simp [h2]
              have h2' := Lib.hid h2
              clear h2
              have sn2 := Lib.hid (show nearD (E.take (j + 1)) k false = putZ (nearD (E.take j) k false) x from by rw [sn]; simp [nearStep, h1'.out, h2'.out])
              clear sn
              go_wp2_with (go_at_call 57; refine cB.mono ?_; rintro e w3 ⟨v, rfl, hr, hb3⟩; obtain ⟨q3, n3, c3, rfl⟩ := own_form hr; have R3 := Lib.hid (And.intro hr hb3); clear hr hb3)
              go_roundg (E.length - (j + 1))
              case measure => omega
              case rel => exact ⟨j + 1, q3, n3, c3, rfl, by omega, by go_num, rfl, by rw [sn2.out]; exact own_mono R3.out.1 HB.out.2.size, HB.out.2.trans (R3.out.2.mono HB.out.2.size)⟩
            · have b2 : (y == k) = false := by simp [h2]
              have h2' := Lib.hid h2
              clear h2
              have sn2 := Lib.hid (show nearD (E.take (j + 1)) k false = nearD (E.take j) k false from by rw [sn]; simp [nearStep, h1'.out, h2'.out])
              clear sn
              go_wp2_with fail
              go_roundg (E.length - (j + 1))
              case measure => omega
              case rel => exact ⟨j + 1, p, _, cap, rfl, by omega, by go_num, rfl, by rw [sn2.out]; exact HB.out.1, HB.out.2⟩
      · go_wp2_with fail
        go_ret
        exact ⟨_, rfl, by rw [show nearD E k false = nearD (E.take j) k false from by rw [List.take_of_length_le (by omega)]]; exact HA.out.1, HA.out.2⟩
  | true =>
    have c1 := h.get1
    have HE := Lib.hid h.edges
    obtain ⟨pe, me, ce, rfl⟩ := own_form h.edges
    obtain rfl : me = E.length := own_len h.edges
    have hlE : E.length ≤ 9223372036854775807 := by omega
    clear h
    go_enter Tryz.func49, Tryz.ntmps49
    go_wp2_with fail
    go_loopg [7, 17] E.length (fun q s i wr => ∃ (j : Nat) (p : Option Addr) (n cap : Nat), q = E.length - j ∧ j ≤ E.length ∧ i = .int .i64 j ∧ s = .slice p n cap ∧ wr.ownsRow w.heap.size 36 1 (.slice p n cap) (nearD (E.take j) k true).length ((nearD (E.take j) k true).map (Value.int .u64)) ∧ Below w.heap.size w wr)
    case atStart => exact ⟨0, none, 0, 0, rfl, by omega, rfl, rfl, ⟨rfl, .inl ⟨rfl, rfl⟩⟩, Below.refl _ _⟩
    case round =>
      obtain ⟨j, p, n, cap, rfl, hj, rfl, rfl, hrow, hbl⟩ := hrel
      obtain rfl : n = _ := own_len hrow
      have hs := hbl.size
      have HA := Lib.hid (And.intro hrow hbl)
      by_cases hlt : j < E.length
      · obtain ⟨g, cap', hve, -, hgl⟩ := HE.out.form (by omega)
        obtain ⟨rfl, -, rfl⟩ := Value.slice.inj hve
        have row := own_below HE.out hbl
        have e3 := flatE_get E j hlt
        have sn := nearD_snoc E k true j hlt
        obtain ⟨⟨x, y, z⟩, he⟩ : ∃ e, e = E[j] := ⟨_, rfl⟩
        rw [← he] at e3 sn
        have d0 : wr.cell? ⟨g, j * 3, none⟩ = some (.int .u64 x) := by rw [World.ownsRow.cellAt row _ (by omega)]; exact e3.1
        have d1 : wr.cell? ⟨g, j * 3 + 1, none⟩ = some (.int .u64 y) := by rw [World.ownsRow.cellAt row _ (by omega)]; exact e3.2.1
        have d2 : wr.cell? ⟨g, j * 3 + 2, none⟩ = some (.bool z) := by rw [World.ownsRow.cellAt row _ (by omega)]; exact e3.2.2
        have hln : (nearD (E.take j) k true).length ≤ 1000000 := by have := nearD_len (E.take j) k true; rw [List.length_take] at this; omega
        clear row e3 hve he
        cases z with
        | true =>
          have hbw := hbl.alloc hs (.cells #[.int .u64 x, .int .u64 y, .bool true] 144)
          have hrw := hrow.alloc (.cells #[.int .u64 x, .int .u64 y, .bool true] 144)
          have HB := Lib.hid (And.intro hrw hbw)
          clear hbl hrow hrw hbw
          have sn2 := Lib.hid (show nearD (E.take (j + 1)) k true = nearD (E.take j) k true from by rw [sn]; simp [nearStep, Bool.and_self])
          clear sn
          go_wp2_with fail
          go_roundg (E.length - (j + 1))
          case measure => omega
          case rel => exact ⟨j + 1, p, _, cap, rfl, by omega, by go_num, rfl, by rw [sn2.out]; exact HB.out.1, HB.out.2⟩
        | false =>
          have hbw := hbl.alloc hs (.cells #[.int .u64 x, .int .u64 y, .bool false] 144)
          have hrw := hrow.alloc (.cells #[.int .u64 x, .int .u64 y, .bool false] 144)
          have cA := dPut _ _ _ (nearD (E.take j) k true) y hrw hln
          have cB := dPut _ _ _ (nearD (E.take j) k true) x hrw hln
          have HB := Lib.hid (And.intro hrw hbw)
          clear hbl hrow hrw hbw
          by_cases h1 : x = k
          · have b1 : (x == k) = true := by simp [h1]
            have h1' := Lib.hid h1
            clear h1
            have sn2 := Lib.hid (show nearD (E.take (j + 1)) k true = putZ (nearD (E.take j) k true) y from by rw [sn]; simp [nearStep, h1'.out])
            clear sn
            go_wp2_with (go_at_call 57; refine cA.mono ?_; rintro e w3 ⟨v, rfl, hr, hb3⟩; obtain ⟨q3, n3, c3, rfl⟩ := own_form hr; have R3 := Lib.hid (And.intro hr hb3); clear hr hb3)
            go_roundg (E.length - (j + 1))
            case measure => omega
            case rel => exact ⟨j + 1, q3, n3, c3, rfl, by omega, by go_num, rfl, by rw [sn2.out]; exact own_mono R3.out.1 HB.out.2.size, HB.out.2.trans (R3.out.2.mono HB.out.2.size)⟩
          · have b1 : (x == k) = false := by simp [h1]
            have h1' := Lib.hid h1
            clear h1
            by_cases h2 : y = k
            · have b2 : (y == k) = true := by simp [h2]
              have h2' := Lib.hid h2
              clear h2
              have sn2 := Lib.hid (show nearD (E.take (j + 1)) k true = putZ (nearD (E.take j) k true) x from by rw [sn]; simp [nearStep, h1'.out, h2'.out])
              clear sn
              go_wp2_with (go_at_call 57; refine cB.mono ?_; rintro e w3 ⟨v, rfl, hr, hb3⟩; obtain ⟨q3, n3, c3, rfl⟩ := own_form hr; have R3 := Lib.hid (And.intro hr hb3); clear hr hb3)
              go_roundg (E.length - (j + 1))
              case measure => omega
              case rel => exact ⟨j + 1, q3, n3, c3, rfl, by omega, by go_num, rfl, by rw [sn2.out]; exact own_mono R3.out.1 HB.out.2.size, HB.out.2.trans (R3.out.2.mono HB.out.2.size)⟩
            · have b2 : (y == k) = false := by simp [h2]
              have h2' := Lib.hid h2
              clear h2
              have sn2 := Lib.hid (show nearD (E.take (j + 1)) k true = nearD (E.take j) k true from by rw [sn]; simp [nearStep, h1'.out, h2'.out])
              clear sn
              go_wp2_with fail
              go_roundg (E.length - (j + 1))
              case measure => omega
              case rel => exact ⟨j + 1, p, _, cap, rfl, by omega, by go_num, rfl, by rw [sn2.out]; exact HB.out.1, HB.out.2⟩
      · go_wp2_with fail
        go_ret
        exact ⟨_, rfl, by rw [show nearD E k true = nearD (E.take j) k true from by rw [List.take_of_length_le (by omega)]]; exact HA.out.1, HA.out.2⟩

end Go.Proofs.YtpjbkaibgajpcaaGreat

namespace Go.Proofs.YtpjbkaibgajpcaaGreat
open Go.RowKit
set_option maxRecDepth 20000

section
variable {P : Program}

theorem run_invoke {w : World} {o : Oper} {a : Act} {name : String} {T : TypeId} {rv r vy : Value} {f : FuncId} (hM : (method (P.types.size + 100) T rv name).run P w = .ok (f, r) w) (hE : ∀ args w, (callFunc f args).run P w = .ok (.enter f args) w)
    (x y : Operand) (tys : Array TypeId) (hop : o.op = Op.call { callee := Callee.invoke x name, args := #[y], argTypes := tys }) (hx : a.eval x = .iface T rv) (hy : a.eval y = vy) : (execOp a.eval o).run P w = .ok (.enter f #[r, vy]) w := by
  have hM' : (method (P.types.size + Made.depth) T rv name).run P w = .ok (f, r) w := hM
  unfold execOp
  simp only [hop, resolve, invoke, callMethod, Sem.run_bind, Sem.run_pure, Result.andThen_ok, List.map_toArray, List.map_cons, List.map_nil, hx, hy]
  simp [Sem.run_bind, hM', hE]

theorem wp_invoke {w : World} {o : Oper} {a : Act} {K : Act → World → Prop} {Q : Exit → Act → World → Prop} {name : String} {T : TypeId} {rv r vy : Value} {f : FuncId} (hM : (method (P.types.size + 100) T rv name).run P w = .ok (f, r) w) (hE : ∀ args w, (callFunc f args).run P w = .ok (.enter f args) w)
    (x y : Operand) (tys : Array TypeId) (hop : o.op = Op.call { callee := Callee.invoke x name, args := #[y], argTypes := tys }) (hx : a.eval x = .iface T rv) (hy : a.eval y = vy) {R : Value → World → Prop} (hc : Calls P f #[r, vy] w fun e w' => ∃ v, e = .returned v ∧ R v w')
    (h : ∀ v w', R v w' → K (a.put o.dst v) w') : o.wp P a w K Q := by
  unfold Oper.wp
  rw [run_invoke hM hE x y tys hop hx hy, Oper.upon_enter]
  refine hc.mono ?_
  rintro e w' ⟨v, rfl, hR⟩
  exact h v w' hR

theorem wpList_invoke {w : World} {ops : Array Oper} {rest : List Oper} {o : Oper} {a : Act} {Q : Exit → Act → World → Prop} {name : String} {T : TypeId} {rv r vy : Value} {f : FuncId} (hM : (method (P.types.size + 100) T rv name).run P w = .ok (f, r) w) (hE : ∀ args w, (callFunc f args).run P w = .ok (.enter f args) w)
    (hg : o.guard = none) (x y : Operand) (tys : Array TypeId) (hop : o.op = Op.call { callee := Callee.invoke x name, args := #[y], argTypes := tys }) (hx : a.eval x = .iface T rv) (hy : a.eval y = vy) {R : Value → World → Prop} (hc : Calls P f #[r, vy] w fun e w' => ∃ v, e = .returned v ∧ R v w')
    (h : ∀ v w', R v w' → wpList P ops Q rest (a.put o.dst v) w') : wpList P ops Q (o :: rest) a w :=
  wpList_plain hg fun _ hK => wp_invoke hM hE x y tys hop hx hy hc fun v w' hR => hK _ _ (h v w' hR)

end

end Go.Proofs.YtpjbkaibgajpcaaGreat
