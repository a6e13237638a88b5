/-
  chain: all versions are told; as of a stamp; slices of versions are cloned.
-/
import Derived.Test.YtpoophimfjfgkaaChainC
namespace Go.Proofs.Ytpoophimfjfgkaa
open Go.RowKit

/-- a new row of pairs of the call's own -/
def NewRecs (w : World) (e : Nat) (l : List (Int × List Int)) (r : Ending) (w' : World) : Prop :=
  ∃ v rs, r = .returned v ∧ w'.ownsRow w.heap.size e 2 v rs.length (flat2 rs) ∧ Held2 w' w.heap.size 21 rs l ∧ Below w.heap.size w w'

theorem recs_step {l : List (Int × List Int)} {x : Int} {xs : List Int} {rs : List (Int × Value)} {w wr w4 w5 : World} {v v5 : Value} {u4 : Value} {e E B4 : Nat} {o : Obj} (hown : wr.ownsRow w.heap.size e 2 v rs.length (flat2 rs)) (hheld : Held2 wr w.heap.size E rs l) (hb : Below w.heap.size w wr)
    (hu : w4.ownsRow B4 E 1 u4 xs.length (xs.map (Value.int .i32))) (hB4 : wr.heap.size ≤ B4) (hne : E ≠ e) (hb4 : Below wr.heap.size wr w4)
    (hown5 : w5.ownsRow w.heap.size e 2 v5 (rs.length + 1) (flat2 rs ++ (#[.int .u64 x, u4] : Array Value).toList)) (hg5 : (w4.alloc o).grownBy w5 v.ownBlock) :
    w5.ownsRow w.heap.size e 2 v5 (rs ++ [(x, u4)]).length (flat2 (rs ++ [(x, u4)])) ∧ Held2 w5 w.heap.size E (rs ++ [(x, u4)]) (l ++ [(x, xs)]) ∧ Below w.heap.size w w5 := by
  have hown4 := (own_below hown hb4).alloc o
  have hheld4 := (hheld.below hb4).below ((Below.refl _ _).alloc (Nat.le_refl _) o)
  have hsz := hb.size
  have hsz4 := hb4.size
  refine ⟨by rw [flat2_append]; simpa [flat2] using hown5, ?_, ((hb.trans (hb4.mono hsz)).alloc (by omega) o).grown hg5 (by simp; omega) (fun b hbk => (hown.lt b hbk).1)⟩
  refine (hheld4.other hown4 hne hg5).snoc ?_ fun r hr => ?_
  · have := (hu.alloc o).kept hg5 (own_apart (hu.alloc o) hown4 hne)
    exact own_mono this (by omega)
  · cases hrb : r.2.ownBlock with
    | none => exact .inl rfl
    | some b =>
      right
      intro he
      have h1 := hheld.lt hr b hrb
      have h2 := hu.lt b he.symm
      omega

theorem take_snoc {α : Type} (l : List α) (k : Nat) (h : k < l.length) : l.take (k + 1) = l.take k ++ [l[k]] := by rw [List.take_succ_eq_append_getElem h]

theorem list_nil (w : World) : Calls Try.prog 21 #[.pointer none] w fun e w' => e = .returned (.slice none 0 0) ∧ w = w' := by
  go_enter Try.func21, Try.ntmps21
  go_wp2_with fail
  go_ret
  exact ⟨rfl, rfl⟩

theorem list (l : List (Int × List Int)) (hn : l.length ≤ 1000000) (hx : ∀ r ∈ l, r.2.length ≤ 1000000) (c : Nat) (v : Value) (w : World) (h : ChainIs w c v l) :
    Calls Try.prog 21 #[.pointer (some ⟨c, 0, none⟩)] w (NewRecs w 41 l) := by
  have A := Lib.hid h
  obtain ⟨h0, h1⟩ := h
  obtain ⟨p, cap, rfl, hcap, hbig, -, -⟩ := id h1
  clear h1 hcap hbig
  have X := Lib.hid hx
  clear hx
  go_enter Try.func21, Try.ntmps21
  go_wp2_with fail
  go_loopg [3, 13] l.length (fun q out i wr => ∃ (k : Nat) (rs : List (Int × Value)), q = l.length - k ∧ k ≤ l.length ∧ i = .int .i64 k ∧ rs.length = k ∧ wr.ownsRow w.heap.size 41 2 out rs.length (flat2 rs) ∧ Held2 wr w.heap.size 21 rs (l.take k) ∧ Below w.heap.size w wr)
  case atStart => exact ⟨0, [], rfl, by omega, rfl, rfl, World.ownsRow_nil _ _ _ _, Held2.nil _ _ _, Below.refl _ _⟩
  case round =>
    obtain ⟨k, rs, rfl, hk, rfl, hlen, hown, hheld, hb⟩ := hrel
    by_cases hlt : k < l.length
    · obtain ⟨b, off, u, rfl, c0, c1, hu⟩ := (A.out.below hb).recs.elem hlt
      obtain ⟨up, ucap, rfl, -, -, -, -⟩ := id hu.slice
      have O := Lib.hid (And.intro hown (And.intro hheld (And.intro hb hlen)))
      have U := Lib.hid hu
      have hsz := hb.size
      clear hown hheld hb hu hlen
      go_wp2_with fail
      have hbW := (Below.refl wr.heap.size wr).alloc (Nat.le_refl _) (Obj.cells #[Value.int IntKind.u64 l[k].fst, Value.slice up l[k].snd.length ucap] 41)
      refine (copyOf l[k].1 l[k].2 _ _ (U.out.below hbW) (X.out _ (List.getElem_mem hlt))).mono ?_
      rintro e w4 ⟨u4, rfl, hu4, hb4⟩
      obtain ⟨q4, n4, c4, rfl⟩ := own_form hu4
      have hb04 := hbW.trans (hb4.mono (by simp))
      obtain ⟨g5, c5, w5, hrun, hown5, hg5, hat5, -⟩ := run_push rowVer (own_below O.out.1 hb04) (by have := hb04.size; omega) #[.int .u64 l[k].1, .slice q4 n4 c4] rfl (by simp [Value.oneCell']) (by have := O.out.2.2.2; simp [maxLen]; omega) (by have := O.out.2.2.2; omega)
      have F := Lib.hid (recs_step O.out.1 O.out.2.1 O.out.2.2.1 hu4 (by simp) (by decide) hb04 hown5 hg5)
      clear hbW hb04 hown5 hg5 hat5 hu4 hb4
      go_wp2_with (refine wpList_append_eq hrun rfl _ _ rfl rfl rfl ?_)
      go_roundg (l.length - (k + 1))
      case measure => omega
      case rel => exact ⟨k + 1, rs ++ [(l[k].1, .slice q4 n4 c4)], rfl, by omega, by go_num, by have := O.out.2.2.2; rw [List.length_append, this]; rfl, F.out.1, by rw [take_snoc l k hlt]; exact F.out.2.1, F.out.2.2⟩
    · obtain rfl : k = l.length := by omega
      go_wp2_with fail
      go_ret
      exact ⟨_, rs, rfl, hown, by rw [List.take_length] at hheld; exact hheld, hb⟩

/-- what an ID was as of a stamp -/
def atZ (s : Int) (l : List (Int × List Int)) : List Int := match (l.take (cntZ s l)).getLast? with | some r => r.2 | none => []

theorem atZ_pos {s : Int} {l : List (Int × List Int)} (h : 0 < cntZ s l) (hi : cntZ s l - 1 < l.length) : atZ s l = l[cntZ s l - 1].2 := by
  have hle := cntZ_le s l
  unfold atZ
  rw [List.getLast?_eq_getElem?, List.length_take, List.getElem?_take, show min (cntZ s l) l.length = cntZ s l by omega, if_pos (by omega), List.getElem?_eq_getElem hi]

theorem atZ_zero {s : Int} {l : List (Int × List Int)} (h : cntZ s l = 0) : atZ s l = [] := by
  unfold atZ; rw [h]; rfl

/-- what At tells: a vector of its own -/
def Told (w : World) (xs : List Int) (r : Ending) (w' : World) : Prop :=
  ∃ v, r = .returned (.tuple #[v, .bool (decide (0 < xs.length))]) ∧ w'.ownsRow w.heap.size 21 1 v xs.length (xs.map (Value.int .i32)) ∧ Below w.heap.size w w'

theorem at_nil (s : Int) (w : World) : Calls Try.prog 17 #[.pointer none, .int .u64 s] w (Told w []) := by
  go_enter Try.func17, Try.ntmps17
  go_wp2_with fail
  go_ret2
  exact ⟨_, rfl, World.ownsRow_nil _ _ _ _, Below.refl _ _⟩

theorem atOf (l : List (Int × List Int)) (hr : Rising l) (hn : l.length ≤ 1000000) (hx : ∀ r ∈ l, r.2.length ≤ 1000000) (s : Int) (c : Nat) (v : Value) (w : World) (h : ChainIs w c v l) :
    Calls Try.prog 17 #[.pointer (some ⟨c, 0, none⟩), .int .u64 s] w (Told w (atZ s l)) := by
  have A := Lib.hid h
  have X := Lib.hid hx
  have R := Lib.hid hr
  obtain ⟨p, cap, rfl, hcap, hbig, -, -⟩ := id h.recs
  have hle := cntZ_le s l
  clear h hx hr hcap hbig
  by_cases h0 : cntZ s l = 0
  · have hz : ((cntZ s l : Int) == 0) = true := by rw [beq_iff_eq]; omega
    rw [atZ_zero h0]
    clear h0
    go_enter Try.func17, Try.ntmps17
    go_wp2_with fail
    refine (after l R.out hn s c _ w A.out).mono ?_
    rintro e w1 ⟨rfl, hb1⟩
    have B1 := Lib.hid hb1
    clear hb1
    generalize cntZ s l = n at *
    go_wp2_with fail
    go_ret2
    exact ⟨_, rfl, World.ownsRow_nil _ _ _ _, B1.out⟩
  · have hi : cntZ s l - 1 < l.length := by omega
    have e := atZ_pos (by omega) hi
    have AF := after l R.out hn s c _ w A.out
    generalize cntZ s l = m at *
    obtain ⟨xs, hxs⟩ : ∃ xs, xs = l[m - 1].2 := ⟨_, rfl⟩
    rw [e, ← hxs]
    have AF' := Lib.hid AF
    have hz : ((m : Int) == 0) = false := by rw [beq_eq_false_iff_ne]; omega
    have XX := Lib.hid (X.out _ (List.getElem_mem hi))
    rw [← hxs] at XX
    have Q := Lib.hid hxs
    clear AF hxs e
    go_enter Try.func17, Try.ntmps17
    go_wp2_with fail
    refine AF'.out.mono ?_
    rintro e w1 ⟨rfl, hb1⟩
    have B1 := Lib.hid hb1
    have A1 := A.out.below hb1
    obtain ⟨b, off, u, rfl, c0, c1, hu⟩ := A1.recs.elem hi
    have d0 := A1.cell
    rw [← Q.out] at hu
    obtain ⟨up, ucap, rfl, -, -, -, -⟩ := id hu.slice
    have U := Lib.hid hu
    clear hb1 A1 hu
    by_cases hl : xs.length = 0
    · have hxz : ((xs.length : Int) == 0) = true := by rw [beq_iff_eq]; omega
      obtain rfl : xs = [] := List.eq_nil_of_length_eq_zero hl
      clear hl
      go_wp2_with fail
      go_ret2
      exact ⟨_, rfl, World.ownsRow_nil _ _ _ _, B1.out⟩
    · have hxz : ((xs.length : Int) == 0) = false := by rw [beq_eq_false_iff_ne]; omega
      go_wp2_with fail
      refine (clone xs _ w1 U.out XX.out).mono ?_
      rintro e w2 ⟨v2, rfl, ho2, hb2⟩
      have O := Lib.hid (And.intro ho2 hb2)
      clear ho2 hb2
      go_wp2_with fail
      go_ret2
      exact ⟨_, by rw [decide_eq_true (by omega)]; rfl, own_mono O.out.1 B1.out.size, B1.out.trans (O.out.2.mono B1.out.size)⟩

end Go.Proofs.Ytpoophimfjfgkaa
