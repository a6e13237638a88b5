/-
  chain's document: lists of versions that are read, never written.
-/
import Derived.Test.YtpoophimfjfgkaaChainF
import Derived.Test.YtpoophimfjfgkaaOwnB
namespace Go.Proofs.Ytpoophimfjfgkaa
open Go.RowKit

/-- the values of pairs that are read -/
structure Rows2 (w : World) (F : Nat → Prop) (rs : List (Int × Value)) (l : List (Int × List Int)) : Prop where
  len : rs.length = l.length
  each : ∀ i (h1 : i < rs.length) (h2 : i < l.length), rs[i].1 = l[i].1 ∧ Nums w .i32 rs[i].2 l[i].2 ∧ LiesIn F rs[i].2 l[i].2.length

theorem Rows2.one {w : World} {F : Nat → Prop} {rs : List (Int × Value)} {l : List (Int × List Int)} (h : Rows2 w F rs l) : ∀ r ∈ rs, r.2.oneCell' = true := by
  intro r hr
  obtain ⟨i, hi, rfl⟩ := List.mem_iff_getElem.1 hr
  obtain ⟨p, c, hq, _⟩ := (h.each i hi (by rw [← h.len]; exact hi)).2.1.slice
  rw [hq]; rfl

theorem Rows2.below {w w' : World} {F : Nat → Prop} {rs : List (Int × Value)} {l : List (Int × List Int)} (h : Rows2 w F rs l) (hb : Below w.heap.size w w') : Rows2 w' F rs l :=
  ⟨h.len, fun i h1 h2 => ⟨(h.each i h1 h2).1, (h.each i h1 h2).2.1.below hb, (h.each i h1 h2).2.2⟩⟩

theorem Rows2.mono {w : World} {F G : Nat → Prop} {rs : List (Int × Value)} {l : List (Int × List Int)} (h : Rows2 w F rs l) (hs : ∀ k, F k → G k) : Rows2 w G rs l :=
  ⟨h.len, fun i h1 h2 => ⟨(h.each i h1 h2).1, (h.each i h1 h2).2.1, (h.each i h1 h2).2.2.mono hs⟩⟩

theorem Rows2.snoc {w : World} {F : Nat → Prop} {rs : List (Int × Value)} {l : List (Int × List Int)} (h : Rows2 w F rs l) {x : Int} {u : Value} {xs : List Int} (hn : Nums w .i32 u xs) (hl : LiesIn F u xs.length) : Rows2 w F (rs ++ [(x, u)]) (l ++ [(x, xs)]) := by
  refine ⟨by simp [h.len], fun i h1 h2 => ?_⟩
  simp only [List.length_append, List.length_cons, List.length_nil] at h1 h2
  have hlen := h.len
  rcases Nat.lt_or_ge i rs.length with hi | hi
  · rw [List.getElem_append_left hi, List.getElem_append_left (by omega)]
    exact h.each i hi _
  · have e1 : i = rs.length := by omega
    subst e1
    rw [List.getElem_append_right (by omega), List.getElem_append_right (by omega)]
    simp [h.len, hn, hl]

theorem Rows2.nil (w : World) (F : Nat → Prop) : Rows2 w F [] [] := ⟨rfl, fun i h => absurd h (by simp)⟩

theorem Rows2.recs {w : World} {F : Nat → Prop} {B e n : Nat} {v : Value} {rs : List (Int × Value)} {l : List (Int × List Int)} (h : Rows2 w F rs l) (ho : w.ownsRow B e 2 v n (flat2 rs)) (hv : ∀ b, v.ownBlock = some b → F b) : RecsF w F v l :=
  RecsF.of_own ho hv h.len h.each

/-- what is read, as a row -/
theorem RecsF.rows {w : World} {F : Nat → Prop} {p : Option Addr} {m c : Nat} {l : List (Int × List Int)} (h : RecsF w F (.slice p m c) l) : ∃ rs, Rows2 w F rs l ∧ SrcAt w p rs.length c 2 (flat2 rs) := by
  obtain ⟨p', cap, hv, h1, h2, h3, h4⟩ := h
  obtain ⟨rfl, rfl, rfl⟩ := Value.slice.inj hv
  have each : ∀ i, i < l.length → ∃ r : Int × Value, ∃ (hi : i < l.length) (b off : Nat), p = some ⟨b, off, none⟩ ∧ w.cell? ⟨b, off + i * 2, none⟩ = some (.int .u64 r.1) ∧ w.cell? ⟨b, off + i * 2 + 1, none⟩ = some r.2 ∧ r.1 = l[i].1 ∧ Nums w .i32 r.2 l[i].2 ∧ LiesIn F r.2 l[i].2.length := by
    intro i hi
    obtain ⟨b, off, u, hp, hf, c0, c1, hn, hl⟩ := h4 i hi
    exact ⟨(l[i].1, u), hi, b, off, hp, c0, c1, rfl, hn, hl⟩
  obtain ⟨rs, hlen, hr⟩ := exists_list2 l.length each
  refine ⟨rs, ⟨hlen, fun i i1 i2 => ?_⟩, ⟨flat2_length rs, fun hp => ?_, fun a ha j u hj => ?_⟩⟩
  · obtain ⟨_, b, off, hp, c0, c1, e, hn, hl⟩ := hr i i1
    exact ⟨e, hn, hl⟩
  · have := h3 hp; exact ⟨by omega, this⟩
  · have hjl : j < (flat2 rs).length := (List.getElem?_eq_some_iff.1 hj).1
    rw [flat2_length] at hjl
    obtain ⟨_, b, off, hp, c0, c1, e, hn, hl⟩ := hr (j / 2) (by omega)
    rw [ha] at hp
    obtain rfl := Option.some.inj hp
    have hf := flat2_get rs (j / 2) (by omega)
    rw [Addr.add_lit]
    rcases Nat.mod_two_eq_zero_or_one j with hm | hm
    · have e1 : j / 2 * 2 = j := by omega
      rw [e1] at hf c0
      rw [hf.1] at hj
      obtain rfl := Option.some.inj hj
      exact c0
    · have e1 : j / 2 * 2 + 1 = j := by omega
      rw [e1] at hf
      rw [Nat.add_assoc, e1] at c1
      rw [hf.2] at hj
      obtain rfl := Option.some.inj hj
      exact c1

/-- what an ID has as of a stamp: the last one at or below -/
def ratZ (s : Int) (l : List (Int × List Int)) : List Int := match (l.filter fun r => decide (r.1 ≤ s)).getLast? with | some r => r.2 | none => []

theorem rising_filter {s : Int} {l : List (Int × List Int)} (h : Rising l) : l.filter (fun r => decide (r.1 ≤ s)) = l.takeWhile (fun r => decide (r.1 ≤ s)) := by
  induction l with
  | nil => rfl
  | cons r l ih =>
    have h' := List.pairwise_cons.1 h
    by_cases hr : r.1 ≤ s
    · simp [hr, ih h'.2]
    · simp only [List.filter_cons, List.takeWhile_cons, hr, decide_false, Bool.false_eq_true, if_false]
      rw [List.filter_eq_nil_iff]
      intro a ha
      have := h'.1 a ha
      simp; omega

theorem take_takeWhile {α : Type} (p : α → Bool) (l : List α) : l.take (l.takeWhile p).length = l.takeWhile p := by
  induction l with
  | nil => rfl
  | cons a l ih => simp only [List.takeWhile_cons]; split <;> simp [ih]

theorem ratZ_eq {s : Int} {l : List (Int × List Int)} (h : Rising l) : ratZ s l = atZ s l := by
  unfold ratZ atZ cntZ
  rw [rising_filter h, take_takeWhile]
  rfl

theorem ratZ_snoc (s : Int) (l : List (Int × List Int)) (r : Int × List Int) : ratZ s (l ++ [r]) = if r.1 ≤ s then r.2 else ratZ s l := by
  unfold ratZ
  rw [List.filter_append]
  by_cases h : r.1 ≤ s
  · simp [h]
  · simp [h]

/-- a slice of numbers that is read -/
def ReadsTo (w : World) (F : Nat → Prop) (xs : List Int) (e : Ending) (w' : World) : Prop := ∃ u, e = .returned u ∧ Nums w' .i32 u xs ∧ LiesIn F u xs.length ∧ Below w.heap.size w w'

theorem refAt (l : List (Int × List Int)) (s : Int) (v : Value) (F : Nat → Prop) (w : World) (h : RecsF w F v l) :
    Calls Try.prog 18 #[v, .int .u64 s] w (ReadsTo w F (ratZ s l)) := by
  obtain ⟨p, cap, rfl, hcap, hbig, -, -⟩ := id h
  have hl : l.length ≤ 9223372036854775807 := by omega
  have H := Lib.hid h
  obtain ⟨rs, hrs, hsrc⟩ := h.rows
  have R := Lib.hid hrs
  have hlen := hrs.len
  clear h hcap hbig hrs hsrc
  go_enter Try.func18, Try.ntmps18
  go_wp2_with fail
  go_loopg [5, 10] l.length (fun q out i wr => ∃ (k : Nat) (u : Value), q = l.length - k ∧ k ≤ l.length ∧ i = .int .i64 k ∧ out = u ∧ Nums wr .i32 u (ratZ s (l.take k)) ∧ LiesIn F u (ratZ s (l.take k)).length ∧ Below w.heap.size w wr)
  case atStart => exact ⟨0, _, rfl, by omega, rfl, rfl, Nums.mk (xs := []) (by simp) (by simp) (by simp) (by simp), fun h => absurd h (by simp [ratZ]), Below.refl _ _⟩
  case round =>
    obtain ⟨k, u, rfl, hk, rfl, rfl, hn, hlu, hb⟩ := hrel
    have O := Lib.hid (And.intro hn (And.intro hlu hb))
    have hsz := hb.size
    by_cases hlt : k < l.length
    · have hb' := hb
      obtain ⟨b, off, u1, rfl, c0, c1, hu⟩ := (H.out.recs.below hb').elem hlt
      obtain ⟨b2, off2, u2, hp2, -, d0, d1, hn2, hl2⟩ := H.out.elem hlt
      simp only [Option.some.injEq, Addr.mk.injEq, and_true] at hp2
      obtain ⟨rfl, rfl⟩ := hp2
      obtain rfl : u1 = u2 := by
        have := below_cells hb' d1
        rw [c1] at this
        exact Option.some.inj this
      obtain ⟨up, ucap, rfl, -, -, -, -⟩ := id hu.slice
      have U := Lib.hid (And.intro hu hl2)
      clear hn hlu hb hb' hu d0 d1 hn2 hl2
      have hbW := O.out.2.2.alloc hsz (Obj.cells #[Value.int IntKind.u64 l[k].fst, Value.slice up l[k].snd.length ucap] 44)
      have BW := Lib.hid hbW
      have hbA := (Below.refl wr.heap.size wr).alloc (Nat.le_refl _) (Obj.cells #[Value.int IntKind.u64 l[k].fst, Value.slice up l[k].snd.length ucap] 44)
      have BA := Lib.hid hbA
      clear hbW hbA
      by_cases hs : l[k].1 ≤ s
      · have hz : ratZ s (l.take (k + 1)) = l[k].2 := by rw [take_snoc l k hlt, ratZ_snoc, if_pos hs]
        have Z := Lib.hid hz
        clear hz
        go_wp2_with fail
        go_roundg (l.length - (k + 1))
        case measure => omega
        case rel => exact ⟨k + 1, _, rfl, by omega, by go_num, rfl, by rw [Z.out]; exact U.out.1.below BA.out, by rw [Z.out]; exact U.out.2, BW.out⟩
      · have hz : ratZ s (l.take (k + 1)) = ratZ s (l.take k) := by rw [take_snoc l k hlt, ratZ_snoc, if_neg hs]
        have Z := Lib.hid hz
        clear hz
        go_wp2_with fail
        go_roundg (l.length - (k + 1))
        case measure => omega
        case rel => exact ⟨k + 1, _, rfl, by omega, by go_num, rfl, by rw [Z.out]; exact O.out.1.below BA.out, by rw [Z.out]; exact O.out.2.1, BW.out⟩
    · obtain rfl : l.length = k := by omega
      clear hn hlu hb
      go_wp2_with fail
      go_ret
      have := O.out
      rw [List.take_length] at this
      exact ⟨_, rfl, this⟩

end Go.Proofs.Ytpoophimfjfgkaa
