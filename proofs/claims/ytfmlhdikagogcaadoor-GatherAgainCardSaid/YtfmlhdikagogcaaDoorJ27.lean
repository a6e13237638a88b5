/-
  The document's SameHits.
  best's law: the document's example.
  best's law: BestMany.
  best: lists are merged.
  best, the plain law: of hits with IDs of their own the nearest few are the first of all in order.
-/
import Derived.Test.YtfmlhdikagogcaaDoorJ26
import Derived.Test.YtfmlhdikagogcaaDoorJ11
namespace Go.Proofs.YtfmlhdikagogcaaDoor
open Go.RowKit
set_option maxRecDepth 20000

theorem hz_ext {a b : Hz} (h1 : a.id = b.id) (h2 : a.dist = b.dist) (h3 : a.vec = b.vec) : a = b := by
  cases a; cases b; simp_all

set_option maxHeartbeats 4000000 in
theorem sameHits (F G : Nat → Prop) (l m : List Hz) (v u : Value) (w : World) (h : HitsF w F v l) (g : HitsF w G u m) :
    Calls Tryd.prog 14 #[v, u] w fun e w' => e = .returned (.bool (decide (l = m))) ∧ Drawn w w' := by
  obtain ⟨p, cap, rfl, hcap, hbig, -, -⟩ := id h
  have hl : l.length ≤ 9223372036854775807 := by omega
  clear hcap hbig
  obtain ⟨q, cap', rfl, hcap', hbig', -, -⟩ := id g
  have hl' : m.length ≤ 9223372036854775807 := by omega
  clear hcap' hbig'
  have H := Lib.hid h
  have GG := Lib.hid g
  clear h g
  by_cases h3 : l.length = m.length
  · have h4 : ((l.length : Int) != m.length) = false := by simp [h3]
    have H3 := Lib.hid h3
    clear h3
    go_enter Tryd.func14, Tryd.ntmps14
    go_wp2_with fail
    go_loopg [5, 13] l.length (fun q _ i wr => ∃ k : Nat, q = l.length - k ∧ k ≤ l.length ∧ i = .int .i64 k ∧ l.take k = m.take k ∧ Drawn w wr)
    case atStart => exact ⟨0, rfl, by omega, rfl, rfl, Drawn.refl _⟩
    case round =>
      obtain ⟨k, rfl, hk, rfl, hall, hb⟩ := hrel
      have A := Lib.hid (And.intro hall hb)
      clear hall hb
      by_cases hlt : k < l.length
      · have hlt' : k < m.length := by have := H3.out; omega
        obtain ⟨rs', -, -, hel⟩ := (H.out.below A.out.2.below).rows
        obtain ⟨b, off, up1, uc1, -, rfl, -, -, c0, c1, c2, hu1, -⟩ := hel k hlt
        obtain ⟨rs2, -, -, hel'⟩ := (GG.out.below A.out.2.below).rows
        obtain ⟨b', off', up2, uc2, -, rfl, -, -, c0', c1', c2', hu2, -⟩ := hel' k hlt'
        have U1 := Lib.hid hu1
        have U2 := Lib.hid hu2
        clear hu1 hu2 hel hel'
        have k0 : (0 : Int) ≤ (k : Int) := by omega
        have k1 : (k : Int) < (l.length : Int) := by omega
        have k2 : (k : Int) < (m.length : Int) := by omega
        by_cases hx : l[k].id = m[k].id
        · have hne : (l[k].id != m[k].id) = false := by simp [hx]
          have E := Lib.hid hx
          clear hx
          by_cases hy : l[k].dist = m[k].dist
          · have hne2 : (l[k].dist != m[k].dist) = false := by simp [hy]
            have E2 := Lib.hid hy
            clear hy
            by_cases hv : l[k].vec = m[k].vec
            · have hd : decide (l[k].vec = m[k].vec) = true := by simp [hv]
              have V := Lib.hid hv
              clear hv
              have S := fun n => sameVecQ l[k].vec m[k].vec (.slice up1 l[k].vec.length uc1) (.slice up2 m[k].vec.length uc2) (wr.drewN n) (U1.out.below (Drawn.below ⟨n, rfl⟩)) (U2.out.below (Drawn.below ⟨n, rfl⟩))
              rw [hd] at S
              have SS := Lib.hid S
              clear S hd
              go_wp2_with fail
              go_quiet ((go_at_call 42; exact Calls.quiet_of (SS.out _)))
              go_wp2_with fail
              go_roundg (l.length - (k + 1))
              case measure => omega
              case rel => exact ⟨k + 1, rfl, by omega, by go_num, by rw [List.take_succ_eq_append_getElem hlt, List.take_succ_eq_append_getElem hlt', A.out.1, hz_ext E.out E2.out V.out], A.out.2.drewN _⟩
            · have hd : decide (l[k].vec = m[k].vec) = false := by simp [hv]
              have V := Lib.hid hv
              clear hv
              have S := fun n => sameVecQ l[k].vec m[k].vec (.slice up1 l[k].vec.length uc1) (.slice up2 m[k].vec.length uc2) (wr.drewN n) (U1.out.below (Drawn.below ⟨n, rfl⟩)) (U2.out.below (Drawn.below ⟨n, rfl⟩))
              rw [hd] at S
              have SS := Lib.hid S
              clear S hd
              go_wp2_with fail
              go_quiet ((go_at_call 42; exact Calls.quiet_of (SS.out _)))
              go_wp2_with fail
              go_ret
              exact ⟨ret_bool (by simp; intro e; subst e; exact V.out rfl), A.out.2.drewN _⟩
          · have hne2 : (l[k].dist != m[k].dist) = true := by simp [hy]
            have E2 := Lib.hid hy
            clear hy
            go_wp2_with fail
            go_quiet (fail)
            go_wp2_with fail
            go_ret
            exact ⟨ret_bool (by simp; intro e; subst e; exact E2.out rfl), A.out.2.drewN _⟩
        · have hne : (l[k].id != m[k].id) = true := by simp [hx]
          have E := Lib.hid hx
          clear hx
          go_wp2_with fail
          go_quiet (fail)
          go_wp2_with fail
          go_ret
          exact ⟨ret_bool (by simp; intro e; subst e; exact E.out rfl), A.out.2.drewN _⟩
      · go_wp2_with fail
        go_ret
        have h3 := H3.out
        have h4 := A.out.1
        rw [List.take_of_length_le (by omega), List.take_of_length_le (by omega)] at h4
        exact ⟨ret_bool (by simp [h4]), A.out.2⟩
  · have h4 : ((l.length : Int) != m.length) = true := by simp; omega
    go_enter Tryd.func14, Tryd.ntmps14
    go_wp2_with fail
    go_ret
    exact ⟨ret_bool (by simp; intro e; exact h3 (by rw [e])), Drawn.refl _⟩

end Go.Proofs.YtfmlhdikagogcaaDoor

namespace Go.Proofs.YtfmlhdikagogcaaDoor
open Go.RowKit
set_option maxRecDepth 20000

def exZ : List Hz := [⟨1, 5, []⟩, ⟨2, 3, []⟩, ⟨3, 4, []⟩]

theorem exZ_adds : addsZ 2 [] exZ = (3, [⟨2, 3, []⟩, ⟨3, 4, []⟩]) := by rfl

theorem nums_nil (w : World) : Nums w .i32 (.slice none 0 0) [] := Nums.mk (xs := []) (by simp) (by simp) (by simp) (by simp)

theorem exZ_hits (w : World) : HitsF (w.alloc (.cells #[.int .u64 1, .int .u64 5, .slice none 0 0, .int .u64 2, .int .u64 3, .slice none 0 0, .int .u64 3, .int .u64 4, .slice none 0 0] 40)) (fun k => k = w.heap.size) (.slice (some ⟨w.heap.size, 0, none⟩) 3 3) exZ := by
  refine ⟨_, 3, rfl, by decide, by decide, by simp, fun i hi => ⟨w.heap.size, 0, .slice none 0 0, rfl, rfl, ?_⟩⟩
  match i, hi with
  | 0, _ => exact ⟨by go_simp <;> rfl, by go_simp <;> rfl, by go_simp <;> rfl, nums_nil _, fun h => absurd h (by simp [exZ])⟩
  | 1, _ => exact ⟨by go_simp <;> rfl, by go_simp <;> rfl, by go_simp <;> rfl, nums_nil _, fun h => absurd h (by simp [exZ])⟩
  | 2, _ => exact ⟨by go_simp <;> rfl, by go_simp <;> rfl, by go_simp <;> rfl, nums_nil _, fun h => absurd h (by simp [exZ])⟩

end Go.Proofs.YtfmlhdikagogcaaDoor

namespace Go.Proofs.YtfmlhdikagogcaaDoor
open Go.RowKit
set_option maxRecDepth 20000

theorem addsZ_one (most : Nat) (l ms : List Hz) (h : Hz) : addsZ most l (ms ++ [h]) = ((addsZ most l ms).1 + (addsZ most (addsZ most l ms).2 [h]).1, (addsZ most (addsZ most l ms).2 [h]).2) := by
  rw [addsZ_snoc]
  show _ = ((addsZ most l ms).1 + (if (addZ most (addsZ most l ms).2 h).1 then 0 + 1 else 0), (addZ most (addsZ most l ms).2 h).2)
  cases (addZ most (addsZ most l ms).2 h).1 <;> simp

/-- one more step of a list's frame -/
theorem frame_next {B c : Nat} {F : Nat → Prop} {most : Int} {m : List Hz} {w wr w2 w' : World} (hm : Mod F w wr) (hb : Below wr.heap.size wr w2) (h1 : ListAt w' B (Plus (Plus F w wr) w2 w') c most m) (h2 : Mod (Plus F w wr) w2 w') :
    ListAt w' B (Plus F w w') c most m ∧ Mod F w w' := by
  have hs := h2.size
  have hs0 := hm.size
  have hs2 := hb.size
  refine ⟨h1.mono fun k hk => ?_, ?_⟩
  · rcases hk with (hk | ⟨ha, hb⟩) | ⟨ha, hb⟩
    · exact .inl hk
    · exact .inr ⟨ha, by omega⟩
    · exact .inr ⟨by omega, hb⟩
  · refine (hm.andBelow hb).trans h2 fun k hk hp => ?_
    rcases hp with hp | ⟨hp, _⟩
    · exact hp
    · omega

/-- a slice of one hit, built anew -/
theorem one_hit {w : World} {E : Nat → Prop} {h : Hz} {u : Value} (hu : Nums w .i32 u h.vec) (hl : LiesIn E u h.vec.length) :
    HitsF (w.alloc (.cells #[.int .u64 h.id, .int .u64 h.dist, u] 40)) (fun k => k = w.heap.size ∨ E k) (.slice (some ⟨w.heap.size, 0, none⟩) 1 1) [h] := by
  refine ⟨_, 1, rfl, by simp, by decide, by simp, fun i hi => ⟨w.heap.size, 0, u, rfl, .inl rfl, ?_⟩⟩
  obtain rfl : i = 0 := by simp at hi; omega
  exact ⟨by go_simp <;> rfl, by go_simp <;> rfl, by go_simp <;> rfl, hu.below ((Below.refl _ _).alloc (Nat.le_refl _) _), fun hn b hb => .inr (hl hn b hb)⟩

end Go.Proofs.YtfmlhdikagogcaaDoor

namespace Go.Proofs.YtfmlhdikagogcaaDoor
open Go.RowKit
set_option maxRecDepth 20000

/-- a slice of slices of hits, and all that it reaches, lies in E -/
def ListsF (w : World) (E : Nat → Prop) (v : Value) (ls : List (List Hz)) : Prop :=
  ∃ p cap, v = .slice p ls.length cap ∧ ls.length ≤ cap ∧ cap ≤ 9223372036854775807 ∧ (p = none → cap = 0) ∧
    ∀ i (hi : i < ls.length), ∃ b off u, p = some ⟨b, off, none⟩ ∧ E b ∧ w.cell? ⟨b, off + i, none⟩ = some u ∧ HitsF w E u ls[i]

theorem ListsF.agree {w w' : World} {E : Nat → Prop} {v : Value} {ls : List (List Hz)} (h : ListsF w E v ls) (ha : Agree E w w') : ListsF w' E v ls := by
  obtain ⟨p, cap, hv, h1, h2, h3, h4⟩ := h
  refine ⟨p, cap, hv, h1, h2, h3, fun i hi => ?_⟩
  obtain ⟨b, off, u, hp, hf, c0, hn⟩ := h4 i hi
  exact ⟨b, off, u, hp, hf, by rw [ha.cell hf]; exact c0, hn.agree ha⟩

theorem ListsF.elem {w : World} {E : Nat → Prop} {p : Option Addr} {n cap : Nat} {ls : List (List Hz)} (h : ListsF w E (.slice p n cap) ls) {i : Nat} (hi : i < ls.length) :
    ∃ b off q qc, p = some ⟨b, off, none⟩ ∧ w.cell? ⟨b, off + i, none⟩ = some (.slice q ls[i].length qc) ∧ HitsF w E (.slice q ls[i].length qc) ls[i] := by
  obtain ⟨p', cap', hv, _, _, _, h⟩ := h
  simp only [Value.slice.injEq] at hv
  obtain ⟨rfl, _, _⟩ := hv
  obtain ⟨b, off, u, hp, -, c0, hn⟩ := h i hi
  obtain ⟨q, qc, rfl, -, -, -, -⟩ := id hn
  exact ⟨b, off, q, qc, hp, c0, hn⟩

/-- what lists put together are -/
def mergeZ (n : Nat) (ls : List (List Hz)) : List Hz := ls.foldl (fun l ms => (addsZ n l ms).2) []

theorem mergeZ_snoc (n : Nat) (ls : List (List Hz)) (ms : List Hz) : mergeZ n (ls ++ [ms]) = (addsZ n (mergeZ n ls) ms).2 := by
  unfold mergeZ; rw [List.foldl_append]; rfl

theorem mergeZ_good {n : Nat} (hn : 1 ≤ n) (ls : List (List Hz)) (hx : ∀ ms ∈ ls, ∀ h ∈ ms, h.vec.length ≤ 1000000) : GoodL n (mergeZ n ls) := by
  unfold mergeZ
  have : ∀ l, GoodL n l → GoodL n (ls.foldl (fun l ms => (addsZ n l ms).2) l) := by
    induction ls with
    | nil => exact fun l g => g
    | cons ms ls ih => exact fun l g => ih (fun m hm => hx m (by simp [hm])) _ (addsZ_good hn g ms (hx ms (by simp)))
  exact this [] (GoodL.nil n)

/-- new hits: what is read is the call's own -/
def FreshHits (w : World) (l : List Hz) (e : Ending) (w' : World) : Prop :=
  ∃ v, e = .returned v ∧ HitsF w' (fun k => w.heap.size ≤ k ∧ k < w'.heap.size) v l ∧ Below w.heap.size w w'

set_option maxHeartbeats 4000000 in
theorem merge (n : Nat) (hn1 : 1 ≤ n) (hn2 : n ≤ 256) (ls : List (List Hz)) (E : Nat → Prop) (v : Value) (w : World) (h : ListsF w E v ls) (hE : ∀ k, E k → k < w.heap.size) (hx : ∀ ms ∈ ls, ms.length ≤ 1000000 ∧ ∀ h ∈ ms, h.vec.length ≤ 1000000) :
    Calls Tryd.prog 41 #[.int .i64 n, v] w (FreshHits w (mergeZ n ls)) := by
  obtain ⟨p, cap, rfl, hcap, hbig, -, -⟩ := id h
  have hl9 : ls.length ≤ 9223372036854775807 := by omega
  have H := Lib.hid (And.intro h (And.intro hE hx))
  clear h hE hx hcap hbig
  go_enter Tryd.func41, Tryd.ntmps41
  go_wp2_with fail
  refine (new_yes n w (by omega) (by omega)).mono ?_
  rintro e w1 ⟨c, rfl, hL, hb1⟩
  have L1 := Lib.hid (And.intro hL hb1)
  have hs1 := hb1.size
  clear hL hb1
  go_wp2_with fail
  go_loopg [16] ls.length (fun q i wr => ∃ k : Nat, q = ls.length - k ∧ k ≤ ls.length ∧ i = .int .i64 k ∧ ListAt wr w.heap.size (Plus (Plus (fun _ => False) w w1) w1 wr) c n (mergeZ n (ls.take k)) ∧ Mod (Plus (fun _ => False) w w1) w1 wr)
  case atStart => exact ⟨0, rfl, by omega, rfl, L1.out.1.mono fun _ => .inl, Mod.refl _ _⟩
  case round =>
    obtain ⟨k, rfl, hk, rfl, hl, hmod⟩ := hrel
    have hs := hmod.size
    have BE := Lib.hid (L1.out.2.trans (hmod.below (B := w.heap.size) hs1 fun j hj => by
      rcases hj with hj | ⟨hj, -⟩
      · exact hj.elim
      · exact hj))
    by_cases hlt : k < ls.length
    · have hvr := H.out.1.agree (Agree.of_below BE.out H.out.2.1)
      obtain ⟨b, off, q, qc, rfl, c0, hhit⟩ := hvr.elem hlt
      obtain ⟨x1, x2⟩ := H.out.2.2 _ (List.getElem_mem hlt)
      have hgk := mergeZ_good hn1 (ls.take k) fun ms hm => (H.out.2.2 ms (List.mem_of_mem_take hm)).2
      have AD := Lib.hid (adds w.heap.size c (Plus (Plus (fun _ => False) w w1) w1 wr) E n (mergeZ n (ls.take k)) ls[k] _ wr hn1 (by omega) hl (fun j hj => by
        rcases hj with (hj | ⟨-, hj⟩) | ⟨-, hj⟩
        · exact hj.elim
        · omega
        · omega) (by omega) hgk hhit (fun j hj => ⟨by have := H.out.2.1 j hj; omega, fun hp => by
        have := H.out.2.1 j hj
        rcases hp with (hp | ⟨hp, -⟩) | ⟨hp, -⟩
        · exact hp
        · omega
        · omega⟩) x2 x1)
      have MO := Lib.hid hmod
      have SN := Lib.hid (mergeZ_snoc n (ls.take k) ls[k])
      rw [show ls.take k ++ [ls[k]] = ls.take (k + 1) from (take_snoc ls k hlt).symm] at SN
      clear hvr hhit x1 x2 hgk hl hmod
      go_wp2_with fail
      refine AD.out.mono ?_
      rintro e w4 ⟨rfl, h1, h2⟩
      have ST := Lib.hid (frame_next MO.out (Below.refl _ _) h1 h2)
      clear h1 h2
      go_wp2_with fail
      go_roundg (ls.length - (k + 1))
      case measure => omega
      case rel => exact ⟨k + 1, rfl, by omega, by go_num, by rw [SN.out]; exact ST.out.1, ST.out.2⟩
    · obtain rfl : k = ls.length := by omega
      rw [List.take_length] at hl
      have hg := mergeZ_good hn1 ls fun ms hm => (H.out.2.2 ms hm).2
      obtain ⟨vc, rsc, Gc, hOc, -, -, -⟩ := hl
      have HC := Lib.hid (hits _ c _ vc rsc Gc (mergeZ n ls) (Nat.le_trans hg.len (by omega)) hg.vecs wr hOc)
      clear hOc hmod hg
      go_wp2_with fail
      refine HC.out.mono ?_
      rintro e w9 ⟨v9, rs9, rfl, ho9, hh9, hb9⟩
      have N9 := Lib.hid (HitsF.of_own (F := fun k => wr.heap.size ≤ k ∧ k < w9.heap.size) ho9 (fun b hb => ho9.lt b hb) hh9.rows)
      have B9 := Lib.hid (BE.out.trans (hb9.mono BE.out.size))
      clear ho9 hh9 hb9
      go_wp2_with fail
      go_ret
      exact ⟨_, rfl, N9.out.mono fun j hj => ⟨by have := BE.out.size; omega, hj.2⟩, B9.out⟩

end Go.Proofs.YtfmlhdikagogcaaDoor

namespace Go.Proofs.YtfmlhdikagogcaaDoor
open Go.RowKit
set_option maxRecDepth 20000

/-- all, in order: no bound -/
def allZ (ms : List Hz) : List Hz := ms.foldl insZ []

theorem allZ_snoc (ms : List Hz) (h : Hz) : allZ (ms ++ [h]) = insZ (allZ ms) h := by unfold allZ; rw [List.foldl_append]; rfl

theorem rankZ_take {l : List Hz} {h : Hz} {j : Nat} (hr : rankZ l h ≤ j) : rankZ (l.take j) h = rankZ l h := by
  unfold rankZ at *
  induction l generalizing j with
  | nil => simp
  | cons a l ih =>
    simp only [List.takeWhile_cons] at hr ⊢
    cases ha : near a h
    · rw [ha] at hr
      cases j with
      | zero => simp
      | succ j => simp [List.takeWhile_cons, ha]
    · rw [ha] at hr
      simp only [if_true, List.length_cons] at hr
      cases j with
      | zero => omega
      | succ j =>
        simp only [List.take_succ_cons, List.takeWhile_cons, ha, if_true, List.length_cons]
        rw [ih (by omega)]

theorem addZ_new {n : Nat} {l : List Hz} {h : Hz} (hi : ∀ x ∈ l, x.id ≠ h.id) : addZ n l h = if l.length = n then (if near h (l.getD (n - 1) h) = true then (true, insZ (l.take (n - 1)) h) else (false, l)) else (true, insZ l h) := by
  unfold addZ
  rw [find_none fun j hj => hi _ (List.getElem_mem hj)]

theorem cut_add {n : Nat} (hn : 1 ≤ n) {L : List Hz} (hs : Sorted L) {h : Hz} (hi : ∀ x ∈ L, x.id ≠ h.id) : (addZ n (L.take n) h).2 = (insZ L h).take n := by
  rw [addZ_new fun x hx => hi x (List.mem_of_mem_take hx)]
  rcases Nat.lt_or_ge L.length n with hl | hl
  · rw [List.take_of_length_le (by omega), if_neg (by omega)]
    simp only
    rw [List.take_of_length_le (by rw [insZ_length]; omega)]
  · have hlen : (L.take n).length = n := by rw [List.length_take]; omega
    have hk : n - 1 < L.length := by omega
    have hd : (L.take n).getD (n - 1) h = L[n - 1] := by simp [List.getD, List.getElem?_take, show n - 1 < n by omega, List.getElem?_eq_getElem hk]
    rw [if_pos hlen, hd]
    cases hnr : near h L[n - 1]
    · rw [if_neg (by simp)]
      simp only
      have hr : n ≤ rankZ L h := by
        rcases Nat.lt_or_ge (rankZ L h) n with h1 | h1
        · have h2 := rankZ_above hs hk (h := h) (by omega)
          rcases near_total (hi _ (List.getElem_mem hk)) with h3 | h3
          · rw [h2] at h3; cases h3
          · rw [hnr] at h3; cases h3
        · exact h1
      have hle := rankZ_le L h
      unfold insZ
      rw [List.take_append_of_le_length (by rw [List.length_take]; omega), List.take_take, Nat.min_eq_left hr]
    · rw [if_pos rfl]
      simp only
      have hr : rankZ L h ≤ n - 1 := by
        rcases Nat.lt_or_ge (n - 1) (rankZ L h) with h1 | h1
        · have h2 := rankZ_below hk (h := h) h1
          rw [near_asymm h2] at hnr; cases hnr
        · exact h1
      have hle := rankZ_le L h
      rw [show (L.take n).take (n - 1) = L.take (n - 1) from by rw [List.take_take, Nat.min_eq_left (by omega)]]
      unfold insZ
      rw [rankZ_take hr, List.take_take, Nat.min_eq_left hr, List.take_append, List.take_of_length_le (l := L.take (rankZ L h)) (by rw [List.length_take]; omega), List.length_take, Nat.min_eq_left hle]
      congr 1
      obtain ⟨j, hj⟩ : ∃ j, n - rankZ L h = j + 1 := ⟨n - rankZ L h - 1, by omega⟩
      rw [hj, List.take_succ_cons, List.drop_take]
      congr 2
      omega

theorem allZ_perm (ms : List Hz) : (allZ ms).Perm ms := by
  have : ∀ l : List Hz, (ms.foldl insZ l).Perm (ms ++ l) := by
    induction ms with
    | nil => exact fun l => List.Perm.refl _
    | cons h ms ih =>
      intro l
      rw [List.foldl_cons]
      refine (ih _).trans ?_
      refine ((insZ_perm l h).append_left ms).trans ?_
      exact List.perm_middle
  simpa [allZ] using this []

theorem addsZ_all {n : Nat} (hn : 1 ≤ n) (ms : List Hz) (hd : Ids ms) : (addsZ n [] ms).2 = (allZ ms).take n ∧ Sorted (allZ ms) := by
  have : ∀ k, k ≤ ms.length → (addsZ n [] (ms.take k)).2 = (allZ (ms.take k)).take n ∧ Sorted (allZ (ms.take k)) := by
    intro k
    induction k with
    | zero => intro _; exact ⟨by simp [addsZ_nil, allZ], List.Pairwise.nil⟩
    | succ k ih =>
      intro hk
      obtain ⟨h1, h2⟩ := ih (by omega)
      have hk' : k < ms.length := by omega
      have hi : ∀ x ∈ allZ (ms.take k), x.id ≠ ms[k].id := by
        intro x hx
        have hx' := (allZ_perm (ms.take k)).mem_iff.1 hx
        obtain ⟨j, hj, rfl⟩ := List.mem_iff_getElem.1 hx'
        rw [List.length_take] at hj
        rw [List.getElem_take]
        exact List.pairwise_iff_getElem.1 hd j k _ _ (by omega)
      rw [take_snoc ms k hk', addsZ_snoc, allZ_snoc]
      refine ⟨?_, insZ_sorted h2 hi⟩
      simp only
      rw [h1]
      exact cut_add hn h2 hi
  have := this ms.length (Nat.le_refl _)
  rwa [List.take_length] at this

end Go.Proofs.YtfmlhdikagogcaaDoor
