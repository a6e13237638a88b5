/-
  best: lists are merged.
-/
import Derived.Test.YtfjhipaoljnfaaaBestP
namespace Go.Proofs.Ytfjhipaoljnfaaa
open Go.RowKit

/-- a slice of slices of hits, and all that it reaches, lies in E -/
def ListsF (w : World) (E : Nat → Prop) (v : Value) (ls : List (List Hz)) : Prop :=
  ∃ p cap, v = .slice p ls.length cap ∧ ls.length ≤ cap ∧ cap ≤ 9223372036854775807 ∧ (p = none → cap = 0) ∧
    ∀ i (hi : i < ls.length), ∃ b off u, p = some ⟨b, off, none⟩ ∧ E b ∧ w.cell? ⟨b, off + i, none⟩ = some u ∧ HitsF w E u ls[i]

theorem ListsF.agree {w w' : World} {E : Nat → Prop} {v : Value} {ls : List (List Hz)} (h : ListsF w E v ls) (ha : Agree E w w') : ListsF w' E v ls := by
  obtain ⟨p, cap, hv, h1, h2, h3, h4⟩ := h
  refine ⟨p, cap, hv, h1, h2, h3, fun i hi => ?_⟩
  obtain ⟨b, off, u, hp, hf, c0, hn⟩ := h4 i hi
  exact ⟨b, off, u, hp, hf, by rw [ha.cell hf]; exact c0, hn.agree ha⟩

theorem ListsF.elem {w : World} {E : Nat → Prop} {p : Option Addr} {n cap : Nat} {ls : List (List Hz)} (h : ListsF w E (.slice p n cap) ls) {i : Nat} (hi : i < ls.length) :
    ∃ b off q qc, p = some ⟨b, off, none⟩ ∧ w.cell? ⟨b, off + i, none⟩ = some (.slice q ls[i].length qc) ∧ HitsF w E (.slice q ls[i].length qc) ls[i] := by
  obtain ⟨p', cap', hv, _, _, _, h⟩ := h
  simp only [Value.slice.injEq] at hv
  obtain ⟨rfl, _, _⟩ := hv
  obtain ⟨b, off, u, hp, -, c0, hn⟩ := h i hi
  obtain ⟨q, qc, rfl, -, -, -, -⟩ := id hn
  exact ⟨b, off, q, qc, hp, c0, hn⟩

/-- what lists put together are -/
def mergeZ (n : Nat) (ls : List (List Hz)) : List Hz := ls.foldl (fun l ms => (addsZ n l ms).2) []

theorem mergeZ_snoc (n : Nat) (ls : List (List Hz)) (ms : List Hz) : mergeZ n (ls ++ [ms]) = (addsZ n (mergeZ n ls) ms).2 := by
  unfold mergeZ; rw [List.foldl_append]; rfl

theorem mergeZ_good {n : Nat} (hn : 1 ≤ n) (ls : List (List Hz)) (hx : ∀ ms ∈ ls, ∀ h ∈ ms, h.vec.length ≤ 1000000) : GoodL n (mergeZ n ls) := by
  unfold mergeZ
  have : ∀ l, GoodL n l → GoodL n (ls.foldl (fun l ms => (addsZ n l ms).2) l) := by
    induction ls with
    | nil => exact fun l g => g
    | cons ms ls ih => exact fun l g => ih (fun m hm => hx m (by simp [hm])) _ (addsZ_good hn g ms (hx ms (by simp)))
  exact this [] (GoodL.nil n)

/-- new hits: what is read is the call's own -/
def FreshHits (w : World) (l : List Hz) (e : Ending) (w' : World) : Prop :=
  ∃ v, e = .returned v ∧ HitsF w' (fun k => w.heap.size ≤ k ∧ k < w'.heap.size) v l ∧ Below w.heap.size w w'

set_option maxHeartbeats 4000000 in
theorem merge (n : Nat) (hn1 : 1 ≤ n) (hn2 : n ≤ 256) (ls : List (List Hz)) (E : Nat → Prop) (v : Value) (w : World) (h : ListsF w E v ls) (hE : ∀ k, E k → k < w.heap.size) (hx : ∀ ms ∈ ls, ms.length ≤ 1000000 ∧ ∀ h ∈ ms, h.vec.length ≤ 1000000) :
    Calls Try.prog 17 #[.int .i64 n, v] w (FreshHits w (mergeZ n ls)) := by
  obtain ⟨p, cap, rfl, hcap, hbig, -, -⟩ := id h
  have hl9 : ls.length ≤ 9223372036854775807 := by omega
  have H := Lib.hid (And.intro h (And.intro hE hx))
  clear h hE hx hcap hbig
  go_enter Try.func17, Try.ntmps17
  go_wp2_with fail
  refine (new_yes n w (by omega) (by omega)).mono ?_
  rintro e w1 ⟨c, rfl, hL, hb1⟩
  have L1 := Lib.hid (And.intro hL hb1)
  have hs1 := hb1.size
  clear hL hb1
  go_wp2_with fail
  go_loopg [16] ls.length (fun q i wr => ∃ k : Nat, q = ls.length - k ∧ k ≤ ls.length ∧ i = .int .i64 k ∧ ListAt wr w.heap.size (Plus (Plus (fun _ => False) w w1) w1 wr) c n (mergeZ n (ls.take k)) ∧ Mod (Plus (fun _ => False) w w1) w1 wr)
  case atStart => exact ⟨0, rfl, by omega, rfl, L1.out.1.mono fun _ => .inl, Mod.refl _ _⟩
  case round =>
    obtain ⟨k, rfl, hk, rfl, hl, hmod⟩ := hrel
    have hs := hmod.size
    have BE := Lib.hid (L1.out.2.trans (hmod.below (B := w.heap.size) hs1 fun j hj => by
      rcases hj with hj | ⟨hj, -⟩
      · exact hj.elim
      · exact hj))
    by_cases hlt : k < ls.length
    · have hvr := H.out.1.agree (Agree.of_below BE.out H.out.2.1)
      obtain ⟨b, off, q, qc, rfl, c0, hhit⟩ := hvr.elem hlt
      obtain ⟨x1, x2⟩ := H.out.2.2 _ (List.getElem_mem hlt)
      have hgk := mergeZ_good hn1 (ls.take k) fun ms hm => (H.out.2.2 ms (List.mem_of_mem_take hm)).2
      have AD := Lib.hid (adds w.heap.size c (Plus (Plus (fun _ => False) w w1) w1 wr) E n (mergeZ n (ls.take k)) ls[k] _ wr hn1 (by omega) hl (fun j hj => by
        rcases hj with (hj | ⟨-, hj⟩) | ⟨-, hj⟩
        · exact hj.elim
        · omega
        · omega) (by omega) hgk hhit (fun j hj => ⟨by have := H.out.2.1 j hj; omega, fun hp => by
        have := H.out.2.1 j hj
        rcases hp with (hp | ⟨hp, -⟩) | ⟨hp, -⟩
        · exact hp
        · omega
        · omega⟩) x2 x1)
      have MO := Lib.hid hmod
      have SN := Lib.hid (mergeZ_snoc n (ls.take k) ls[k])
      rw [show ls.take k ++ [ls[k]] = ls.take (k + 1) from (take_snoc ls k hlt).symm] at SN
      clear hvr hhit x1 x2 hgk hl hmod
      go_wp2_with fail
      refine AD.out.mono ?_
      rintro e w4 ⟨rfl, h1, h2⟩
      have ST := Lib.hid (frame_next MO.out (Below.refl _ _) h1 h2)
      clear h1 h2
      go_wp2_with fail
      go_roundg (ls.length - (k + 1))
      case measure => omega
      case rel => exact ⟨k + 1, rfl, by omega, by go_num, by rw [SN.out]; exact ST.out.1, ST.out.2⟩
    · obtain rfl : k = ls.length := by omega
      rw [List.take_length] at hl
      have hg := mergeZ_good hn1 ls fun ms hm => (H.out.2.2 ms hm).2
      obtain ⟨vc, rsc, Gc, hOc, -, -, -⟩ := hl
      have HC := Lib.hid (hits _ c _ vc rsc Gc (mergeZ n ls) (Nat.le_trans hg.len (by omega)) hg.vecs wr hOc)
      clear hOc hmod hg
      go_wp2_with fail
      refine HC.out.mono ?_
      rintro e w9 ⟨v9, rs9, rfl, ho9, hh9, hb9⟩
      have N9 := Lib.hid (HitsF.of_own (F := fun k => wr.heap.size ≤ k ∧ k < w9.heap.size) ho9 (fun b hb => ho9.lt b hb) hh9.rows)
      have B9 := Lib.hid (BE.out.trans (hb9.mono BE.out.size))
      clear ho9 hh9 hb9
      go_wp2_with fail
      go_ret
      exact ⟨_, rfl, N9.out.mono fun j hj => ⟨by have := BE.out.size; omega, hj.2⟩, B9.out⟩

end Go.Proofs.Ytfjhipaoljnfaaa
