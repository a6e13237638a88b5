/-
  A vector is cut, a new one: for seats without vec.Right.
-/
import Derived.Laws.AppendOwnNone
import Derived.Test.YtfjhipaoljnfaaaRecs
namespace Go.Proofs.Ytfjhipaoljnfaaa
open Go.RowKit

theorem infoI32 : (Try.prog.info? 21).map (fun i => (i.zero, i.size, i.bytes)) = some (some (.int .i32 0), 1, 4) := by kernel_rfl

/-- a new slice of the call's own that reads as xs: the answer of a call that began in w -/
def NewNums (w : World) (k : IntKind) (e : Nat) (xs : List Int) (r : Ending) (w' : World) : Prop :=
  ∃ v, r = .returned v ∧ w'.ownsRow w.heap.size e 1 v xs.length (xs.map (Value.int k)) ∧ Below w.heap.size w w'

theorem NewNums.nums {w : World} {k : IntKind} {e : Nat} {xs : List Int} {r : Ending} {w' : World} (h : NewNums w k e xs r w') : ∃ v, r = .returned v ∧ Nums w' k v xs ∧ Below w.heap.size w w' :=
  let ⟨v, h1, h2, h3⟩ := h; ⟨v, h1, Nums.of_own h2, h3⟩

theorem ints_one {k : IntKind} {xs : List Int} : ∀ u ∈ xs.map (Value.int k), u.oneCell' = true := by
  intro u hu; obtain ⟨x, _, rfl⟩ := List.mem_map.1 hu; rfl

theorem cutVec_some (xs : List Int) (a : Addr) (cap : Nat) (n : Int) (m : Nat) (w : World) (hcap : xs.length ≤ cap) (hl : cap ≤ 9223372036854775807) (hc : ∀ j (hj : j < xs.length), w.cell? (a.add j) = some (.int .i32 xs[j])) (hn : 0 ≤ n)
    (hm : (m : Int) = min (xs.length : Int) n) (hr : m * 4 ≤ 140737488351232) :
    Calls Try.prog 23 #[.slice (some a) xs.length cap, .int .i64 n] w (NewNums w .i32 21 (xs.take n.toNat)) := by
  obtain ⟨i0, hi, hz0, hz1, hz2⟩ := info_parts infoI32
  have C := Lib.hid hc
  clear hc
  have hmx : m ≤ xs.length := by omega
  have key : ∀ w1 : World, Below w.heap.size w w1 → ∀ j u, ((xs.take m).map (Value.int .i32))[j]? = some u → w1.cell? (a.add j) = some u := by
    intro w1 hb j u hj
    rw [List.getElem?_map] at hj
    rw [Option.map_eq_some_iff] at hj
    obtain ⟨x, hx, rfl⟩ := hj
    rw [List.getElem?_take] at hx
    split at hx
    · obtain ⟨hj', rfl⟩ := List.getElem?_eq_some_iff.1 hx
      have := C.out j hj'
      rw [hb.cell (lt_of_cell this), this]
    · cases hx
  have K := Lib.hid key
  clear key
  have e1 : xs.take n.toNat = xs.take m := by
    by_cases h : xs.length ≤ n
    · rw [List.take_of_length_le (by omega), List.take_of_length_le (by omega)]
    · congr 1; omega
  rw [e1]
  have R := Lib.hid hr
  have M := Lib.hid hm
  clear hr hm
  by_cases hle : (xs.length : Int) ≤ n
  · have hmm : m = xs.length := by have := M.out; omega
    subst hmm
    go_enter Try.func23, Try.ntmps23
    go_wp2_with (at_builtin; refine wpList_append_own _ rfl _ _ 33 rfl w.heap.size 21 i0 (.int .i32 0) 1 4 Try.underlying33 hi hz0 hz1 hz2 rfl (by decide) _ 0 [] rfl (by exact ⟨rfl, .inr ⟨_, _, #[], rfl, Nat.le_refl _, heap_alloc_new _ _, Nat.le_refl _, by simp [maxLen], rfl, rfl⟩⟩) a xs.length cap ((xs.take xs.length).map (Value.int .i32)) rfl (by simp <;> omega) (by exact K.out _ ((Below.refl _ _).alloc (Nat.le_refl _) _)) ints_one (by simp [maxLen]; omega) (by have := R.out; omega) (by simp) ?_)
    intro v' w1 hown hg _
    go_wp2
    go_ret
    exact ⟨v', rfl, by simpa using hown, ((Below.refl _ _).alloc (Nat.le_refl _) _).grown hg (by simp) (by simp [Value.ownBlock])⟩
  · have hmm : n = m := by have := M.out; omega
    subst hmm
    go_enter Try.func23, Try.ntmps23
    go_wp2_with (at_builtin; refine wpList_append_own _ rfl _ _ 33 rfl w.heap.size 21 i0 (.int .i32 0) 1 4 Try.underlying33 hi hz0 hz1 hz2 rfl (by decide) _ 0 [] rfl (by exact ⟨rfl, .inr ⟨_, _, #[], rfl, Nat.le_refl _, heap_alloc_new _ _, Nat.le_refl _, by simp [maxLen], rfl, rfl⟩⟩) a m cap ((xs.take m).map (Value.int .i32)) rfl (by simp <;> omega) (by exact K.out _ ((Below.refl _ _).alloc (Nat.le_refl _) _)) ints_one (by simp [maxLen]; omega) (by have := R.out; omega) (by simp) ?_)
    intro v' w1 hown hg _
    go_wp2
    go_ret
    have hlen : (xs.take m).length = m := by simp; omega
    exact ⟨v', rfl, by rw [hlen]; simpa using hown, ((Below.refl _ _).alloc (Nat.le_refl _) _).grown hg (by simp) (by simp [Value.ownBlock])⟩

theorem cutVec_nil (n : Int) (w : World) (hn : 0 ≤ n) :
    Calls Try.prog 23 #[.slice none 0 0, .int .i64 n] w (NewNums w .i32 21 []) := by
  obtain ⟨i0, hi, hz0, hz1, hz2⟩ := info_parts infoI32
  go_enter Try.func23, Try.ntmps23
  go_wp2_with (at_builtin; refine wpList_append_own_none rfl _ _ 33 rfl w.heap.size 21 i0 1 Try.underlying33 hi _ 0 [] rfl (by exact ⟨rfl, .inr ⟨_, _, #[], rfl, Nat.le_refl _, heap_alloc_new _ _, Nat.le_refl _, by simp [maxLen], rfl, rfl⟩⟩) rfl ?_)
  go_wp2
  go_ret
  exact ⟨_, rfl, ⟨rfl, .inr ⟨_, _, #[], rfl, Nat.le_refl _, heap_alloc_new _ _, Nat.le_refl _, by simp [maxLen], rfl, rfl⟩⟩, by go_grown⟩

theorem cutVec (xs : List Int) (v : Value) (n : Int) (w : World) (h : Nums w .i32 v xs) (hn : 0 ≤ n) (hr : xs.length * 4 ≤ 140737488351232 ∨ n ≤ 100) :
    Calls Try.prog 23 #[v, .int .i64 n] w (NewNums w .i32 21 (xs.take n.toNat)) := by
  obtain ⟨p, cap, rfl, h1, h2, h3, h4⟩ := h.slice
  cases p with
  | none =>
    obtain rfl := h3 rfl
    obtain rfl : xs = [] := List.eq_nil_of_length_eq_zero (by omega)
    simpa using cutVec_nil n w hn
  | some a =>
    refine cutVec_some xs a cap n (min xs.length n.toNat) w h1 h2 (fun j hj => ?_) hn (by omega) (by omega)
    obtain ⟨b, off, hp, hc⟩ := h4 j hj
    simp only [Option.some.injEq] at hp
    rw [hp, Addr.add_lit]
    exact hc

end Go.Proofs.Ytfjhipaoljnfaaa
