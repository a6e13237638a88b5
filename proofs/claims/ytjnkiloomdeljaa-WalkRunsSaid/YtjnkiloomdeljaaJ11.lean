/-
  best: is there no room?
  walk: may a node be among the best? is one too far?
  best: many are added.
  A map in memory as a list of pairs, in the order in which the keys came: what each operation on it does.
-/
import Derived.Test.YtjnkiloomdeljaaJ07
import Derived.Test.YtjnkiloomdeljaaJ09
import Derived.Test.YtjnkiloomdeljaaJ10
import Derived.Deep.DeepCutAuto
import Derived.Test.YtjnkiloomdeljaaJ01
import Derived.ChangeMaps5
import Derived.Maps.Own
namespace Go.Proofs.Ytjnkiloomdeljaa
open Go.RowKit

theorem full (B c : Nat) (most : Int) (v : Value) (rs : List Hv) (G : Nat → Prop) (l : List Hz) (w : World) (h : ListOwn w B c most v rs G l) :
    Calls Try.prog 49 #[.pointer (some ⟨c, 0, none⟩)] w fun e w' => e = .returned (.bool ((l.length : Int) == most)) ∧ Drawn w w' := by
  obtain ⟨p, cap, rfl, -, -, -, -⟩ := h.hits
  obtain ⟨c0, c1, -⟩ := h.cells
  clear h
  go_enter Try.func49, Try.ntmps49
  go_wp2_with fail
  go_quiet (fail)
  rename_i nq
  go_wp2_with fail
  go_ret
  exact ⟨rfl, ⟨nq, rfl⟩⟩

theorem full_nil (w : World) : Calls Try.prog 49 #[.pointer none] w fun e w' => e = .returned (.bool false) ∧ Drawn w w' := by
  go_enter Try.func49, Try.ntmps49
  go_wp2_with fail
  go_quiet (fail)
  rename_i nq
  go_wp2_with fail
  go_ret
  exact ⟨rfl, ⟨nq, rfl⟩⟩

end Go.Proofs.Ytjnkiloomdeljaa

namespace Go.Proofs.Ytjnkiloomdeljaa
open Go.RowKit


theorem cellsB {w : World} {b : Nat} {cs : Array Value} {t : TypeId} {fr : Nat × Nat} (h : w.heap[b]? = some (.cells cs t fr)) (j : Nat) : w.cell? ⟨b, j, none⟩ = cs[j]? := by simp [World.cell?, h]

theorem setBk {w : World} {b : Nat} {cs : Array Value} {t : TypeId} {fr : Nat × Nat} (h : w.heap[b]? = some (.cells cs t fr)) (j : Nat) (v : Value) : (w.setCell ⟨b, j, none⟩ v).heap[b]? = some (.cells (cs.setIfInBounds j v) t fr) := by
  simp only [World.setCell]
  rw [Array.getElem?_modify, if_pos rfl, h]
  rfl

set_option maxRecDepth 100000 in
set_option maxHeartbeats 4000000 in
theorem wHopeful (w : World) (B p c : Nat) (F : Nat → Prop) (most : Nat) (L : List Hz) (h : Hz) (u : Value) (hp : w.cell? ⟨p, 1, none⟩ = some (.pointer (some ⟨c, 0, none⟩))) (hL : ListAt w B F c most L) (gL : GoodL most L) (hm : 1 ≤ most ∧ most ≤ 1000) (hu : ∃ q n cp, u = .slice q n cp) :
    Calls Try.prog 43 #[.pointer (some ⟨p, 0, none⟩), .agg #[.int .u64 h.id, .int .u64 h.dist, u]] w fun e w' => e = .returned (.bool (hopeB most L h)) ∧ Below w.heap.size w w' := by
  obtain ⟨up, n, uc, rfl⟩ := hu
  have cc : w.cell? ⟨p, 1, none⟩ = some (.pointer (some ⟨c, 0, none⟩)) := hp
  obtain ⟨W1, hW1⟩ : ∃ W1, W1 = w.alloc (.cells #[.int .u64 h.id, .int .u64 h.dist, .slice up n uc] 43) := ⟨_, rfl⟩
  have hb1 : Below w.heap.size w W1 := by rw [hW1]; exact (Below.refl _ w).alloc (Nat.le_refl _) _
  have h1 := heap_alloc_new w (.cells #[.int .u64 h.id, .int .u64 h.dist, .slice up n uc] 43)
  rw [← hW1] at h1
  have hc1 := below_cells hb1 cc
  obtain ⟨v, rs, G, hO, -, -, -⟩ := hL
  have HO := Lib.hid (hO.below hb1)
  have cF := Lib.hid (fun (W : World) (hb : Below W1.heap.size W1 W) => full B c most v rs G L W (HO.out.below hb))
  rcases Nat.eq_zero_or_pos L.length with h0 | h0
  · obtain rfl := List.eq_nil_of_length_eq_zero h0
    have cW := worst_none B c most v rs G W1 HO.out
    have HW := Lib.hid hW1
    have B1 := Lib.hid hb1
    have hm0 : ((([] : List Hz).length : Int) == (most : Int)) = false := by simp; omega
    have HBZ := Lib.hid (show hopeB most [] h = true from by
      have : ¬ (0 = most) := by omega
      simp [hopeB, this])
    clear hW1 hb1 hO hp gL h0
    go_enter Try.func43, Try.ntmps43
    go_upto_region 1 with fail
    rw [← HW.out]
    go_upto_region 2 with (go_at_call 48; refine cW.mono ?_; rintro e w2 ⟨rfl, hb⟩; have B2 := Lib.hid hb; have hc2 := below_cells hb hc1; clear hb)
    obtain ⟨W3, hW3⟩ : ∃ W3, W3 = w2.alloc (.cells #[.int .u64 0, .int .u64 0, .slice none 0 0] 43) := ⟨_, rfl⟩
    rw [← hW3]
    have hb3 : Below W1.heap.size W1 W3 := by rw [hW3]; exact B2.out.alloc B2.out.size _
    have hc3 := below_cells hb3 hc1
    have cF3 := cF.out W3 hb3
    rw [hm0] at cF3
    have B3 := Lib.hid (B1.out.trans (hb3.mono B1.out.size))
    clear hW3 hb3 hc1 hc2 cc hm0
    go_wp2_with (go_at_call 49; refine cF3.mono ?_; rintro e w4 ⟨rfl, n4, rfl⟩)
    go_ret
    exact ⟨ret_bool HBZ.out.symm, below_drewN B3.out n4⟩
  · obtain ⟨k, hk⟩ : ∃ k, L.length = k + 1 := ⟨L.length - 1, by omega⟩
    have hkl : k < L.length := by omega
    have cW := worst_some B c most v rs G L k hkl hk (by have := gL.len; omega) (gL.vecs _ (List.getElem_mem hkl)) W1 HO.out
    have HW := Lib.hid hW1
    have B1 := Lib.hid hb1
    have HBZ := Lib.hid (hopeB_some (most := most) hm.1 hk h)
    obtain ⟨xl, hxl⟩ : ∃ xl, xl = L[k] := ⟨_, rfl⟩
    rw [← hxl] at cW
    have XL := Lib.hid hxl
    have hg : w.heap.size < W1.heap.size := lt_block h1
    have H1 := Lib.hid h1
    clear hW1 hb1 hO hp gL h0 hxl h1
    go_enter Try.func43, Try.ntmps43
    go_upto_region 1 with fail
    rw [← HW.out]
    go_upto_region 2 with (go_at_call 48; refine cW.mono ?_; rintro e w2 ⟨u2, rfl, hu2, hb⟩; obtain ⟨q2, n2, k2, rfl⟩ := own_form hu2; have B2 := Lib.hid hb; clear hb hu2)
    obtain ⟨W3, hW3⟩ : ∃ W3, W3 = w2.alloc (.cells #[.int .u64 xl.id, .int .u64 xl.dist, .slice q2 n2 k2] 43) := ⟨_, rfl⟩
    rw [← hW3]
    have hs2 := B2.out.size
    have hb3 : Below W1.heap.size W1 W3 := by
      rw [hW3]
      exact B2.out.alloc hs2 _
    have y3 : W3.heap[w2.heap.size]? = some (.cells #[.int .u64 xl.id, .int .u64 xl.dist, .slice q2 n2 k2] 43 (0, 0)) := by
      rw [hW3]
      exact heap_alloc_new _ _
    have z3 := (hb3.block _ hg).trans H1.out
    have hc3 := below_cells hb3 hc1
    have cF3 := cF.out W3 hb3
    have B3 := Lib.hid (B1.out.trans (hb3.mono B1.out.size))
    obtain ⟨g3, hg3⟩ : ∃ g3, g3 = w2.heap.size := ⟨_, rfl⟩
    obtain ⟨g1, hg1⟩ : ∃ g1, g1 = w.heap.size := ⟨_, rfl⟩
    rw [← hg3] at y3 ⊢
    rw [← hg1] at z3 ⊢
    have Y3 := Lib.hid (And.intro y3 z3)
    by_cases hfl : L.length = most
    · have hfe : ((L.length : Int) == (most : Int)) = true := by simp [hfl]
      rw [hfe] at cF3
      have hopeBW := Lib.hid (show hopeB most L h = (near h xl) from by rw [HBZ.out, XL.out]; simp [hfl])
      have cN := Lib.hid (fun (W : World) => nearer h.id h.dist xl.id xl.dist (.slice up n uc) (.slice q2 n2 k2) W)
      clear hW3 hb3 hc1 cc hfe hfl y3 z3 hg3 hg1 hs2 hg
      go_wp2_with (go_at_call 49; refine cF3.mono ?_; rintro e w4 ⟨rfl, n4, rfl⟩; have B4 := Lib.hid (below_drewN B3.out n4); have y4 := Y3.out.1; have z4 := Y3.out.2; have e0 := cellsB y4 0; have e1 := cellsB y4 1; have e2 := cellsB y4 2; have f0 := cellsB z4 0; have f1 := cellsB z4 1; have f2 := cellsB z4 2; clear y4 z4)
      go_wp2_with (go_at_call 50; refine (cN.out _).mono ?_; rintro e w5 ⟨rfl, hb5⟩; have B5 := Lib.hid (B4.out.trans (hb5.mono B4.out.size)); clear hb5)
      go_ret
      exact ⟨ret_bool hopeBW.out.symm, B5.out⟩
    · have hfe : ((L.length : Int) == (most : Int)) = false := by simp; omega
      rw [hfe] at cF3
      have hopeBW := Lib.hid (show hopeB most L h = true from by rw [HBZ.out]; simp [hfl])
      clear hW3 hb3 hc1 cc hfe hfl y3 z3 hg3 hg1 hs2 hg
      go_wp2_with (go_at_call 49; refine cF3.mono ?_; rintro e w4 ⟨rfl, n4, rfl⟩)
      go_ret
      exact ⟨ret_bool hopeBW.out.symm, below_drewN B3.out n4⟩

set_option maxRecDepth 100000 in
set_option maxHeartbeats 4000000 in
theorem wOver (w : World) (B p c : Nat) (F : Nat → Prop) (most : Nat) (L : List Hz) (h : Hz) (u : Value) (hp : w.cell? ⟨p, 1, none⟩ = some (.pointer (some ⟨c, 0, none⟩))) (hL : ListAt w B F c most L) (gL : GoodL most L) (hm : 1 ≤ most ∧ most ≤ 1000) (hu : ∃ q n cp, u = .slice q n cp) :
    Calls Try.prog 27 #[.pointer (some ⟨p, 0, none⟩), .agg #[.int .u64 h.id, .int .u64 h.dist, u]] w fun e w' => e = .returned (.bool (overB most L h)) ∧ Below w.heap.size w w' := by
  obtain ⟨up, n, uc, rfl⟩ := hu
  have cc : w.cell? ⟨p, 1, none⟩ = some (.pointer (some ⟨c, 0, none⟩)) := hp
  obtain ⟨W1, hW1⟩ : ∃ W1, W1 = w.alloc (.cells #[.int .u64 h.id, .int .u64 h.dist, .slice up n uc] 43) := ⟨_, rfl⟩
  have hb1 : Below w.heap.size w W1 := by rw [hW1]; exact (Below.refl _ w).alloc (Nat.le_refl _) _
  have h1 := heap_alloc_new w (.cells #[.int .u64 h.id, .int .u64 h.dist, .slice up n uc] 43)
  rw [← hW1] at h1
  have hc1 := below_cells hb1 cc
  obtain ⟨v, rs, G, hO, -, -, -⟩ := hL
  have HO := Lib.hid (hO.below hb1)
  have cF := Lib.hid (fun (W : World) (hb : Below W1.heap.size W1 W) => full B c most v rs G L W (HO.out.below hb))
  rcases Nat.eq_zero_or_pos L.length with h0 | h0
  · obtain rfl := List.eq_nil_of_length_eq_zero h0
    have cW := worst_none B c most v rs G W1 HO.out
    have HW := Lib.hid hW1
    have B1 := Lib.hid hb1
    have hm0 : ((([] : List Hz).length : Int) == (most : Int)) = false := by simp; omega
    have HBZ := Lib.hid (show overB most [] h = false from by
      have : ¬ (0 = most) := by omega
      simp [overB, this])
    clear hW1 hb1 hO hp gL h0
    go_enter Try.func27, Try.ntmps27
    go_upto_region 1 with fail
    rw [← HW.out]
    go_upto_region 2 with (go_at_call 48; refine cW.mono ?_; rintro e w2 ⟨rfl, hb⟩; have B2 := Lib.hid hb; have hc2 := below_cells hb hc1; clear hb)
    obtain ⟨W3, hW3⟩ : ∃ W3, W3 = w2.alloc (.cells #[.int .u64 0, .int .u64 0, .slice none 0 0] 43) := ⟨_, rfl⟩
    rw [← hW3]
    have hb3 : Below W1.heap.size W1 W3 := by rw [hW3]; exact B2.out.alloc B2.out.size _
    have hc3 := below_cells hb3 hc1
    have cF3 := cF.out W3 hb3
    rw [hm0] at cF3
    have B3 := Lib.hid (B1.out.trans (hb3.mono B1.out.size))
    clear hW3 hb3 hc1 hc2 cc hm0
    go_wp2_with (go_at_call 49; refine cF3.mono ?_; rintro e w4 ⟨rfl, n4, rfl⟩)
    go_ret
    exact ⟨ret_bool HBZ.out.symm, below_drewN B3.out n4⟩
  · obtain ⟨k, hk⟩ : ∃ k, L.length = k + 1 := ⟨L.length - 1, by omega⟩
    have hkl : k < L.length := by omega
    have cW := worst_some B c most v rs G L k hkl hk (by have := gL.len; omega) (gL.vecs _ (List.getElem_mem hkl)) W1 HO.out
    have HW := Lib.hid hW1
    have B1 := Lib.hid hb1
    have HBZ := Lib.hid (overB_some (most := most) hm.1 hk h)
    obtain ⟨xl, hxl⟩ : ∃ xl, xl = L[k] := ⟨_, rfl⟩
    rw [← hxl] at cW
    have XL := Lib.hid hxl
    have hg : w.heap.size < W1.heap.size := lt_block h1
    have H1 := Lib.hid h1
    clear hW1 hb1 hO hp gL h0 hxl h1
    go_enter Try.func27, Try.ntmps27
    go_upto_region 1 with fail
    rw [← HW.out]
    go_upto_region 2 with (go_at_call 48; refine cW.mono ?_; rintro e w2 ⟨u2, rfl, hu2, hb⟩; obtain ⟨q2, n2, k2, rfl⟩ := own_form hu2; have B2 := Lib.hid hb; clear hb hu2)
    obtain ⟨W3, hW3⟩ : ∃ W3, W3 = w2.alloc (.cells #[.int .u64 xl.id, .int .u64 xl.dist, .slice q2 n2 k2] 43) := ⟨_, rfl⟩
    rw [← hW3]
    have hs2 := B2.out.size
    have hb3 : Below W1.heap.size W1 W3 := by
      rw [hW3]
      exact B2.out.alloc hs2 _
    have y3 : W3.heap[w2.heap.size]? = some (.cells #[.int .u64 xl.id, .int .u64 xl.dist, .slice q2 n2 k2] 43 (0, 0)) := by
      rw [hW3]
      exact heap_alloc_new _ _
    have z3 := (hb3.block _ hg).trans H1.out
    have hc3 := below_cells hb3 hc1
    have cF3 := cF.out W3 hb3
    have B3 := Lib.hid (B1.out.trans (hb3.mono B1.out.size))
    obtain ⟨g3, hg3⟩ : ∃ g3, g3 = w2.heap.size := ⟨_, rfl⟩
    obtain ⟨g1, hg1⟩ : ∃ g1, g1 = w.heap.size := ⟨_, rfl⟩
    rw [← hg3] at y3 ⊢
    rw [← hg1] at z3 ⊢
    have Y3 := Lib.hid (And.intro y3 z3)
    by_cases hfl : L.length = most
    · have hfe : ((L.length : Int) == (most : Int)) = true := by simp [hfl]
      rw [hfe] at cF3
      have overBW := Lib.hid (show overB most L h = (near xl h) from by rw [HBZ.out, XL.out]; simp [hfl])
      have cN := Lib.hid (fun (W : World) => nearer xl.id xl.dist h.id h.dist (.slice q2 n2 k2) (.slice up n uc) W)
      clear hW3 hb3 hc1 cc hfe hfl y3 z3 hg3 hg1 hs2 hg
      go_wp2_with (go_at_call 49; refine cF3.mono ?_; rintro e w4 ⟨rfl, n4, rfl⟩; have B4 := Lib.hid (below_drewN B3.out n4); have y4 := Y3.out.1; have z4 := Y3.out.2; have e0 := cellsB y4 0; have e1 := cellsB y4 1; have e2 := cellsB y4 2; have f0 := cellsB z4 0; have f1 := cellsB z4 1; have f2 := cellsB z4 2; clear y4 z4)
      go_wp2_with (go_at_call 50; refine (cN.out _).mono ?_; rintro e w5 ⟨rfl, hb5⟩; have B5 := Lib.hid (B4.out.trans (hb5.mono B4.out.size)); clear hb5)
      go_ret
      exact ⟨ret_bool overBW.out.symm, B5.out⟩
    · have hfe : ((L.length : Int) == (most : Int)) = false := by simp; omega
      rw [hfe] at cF3
      have overBW := Lib.hid (show overB most L h = false from by rw [HBZ.out]; simp [hfl])
      clear hW3 hb3 hc1 cc hfe hfl y3 z3 hg3 hg1 hs2 hg
      go_wp2_with (go_at_call 49; refine cF3.mono ?_; rintro e w4 ⟨rfl, n4, rfl⟩)
      go_ret
      exact ⟨ret_bool overBW.out.symm, below_drewN B3.out n4⟩

end Go.Proofs.Ytjnkiloomdeljaa

namespace Go.Proofs.Ytjnkiloomdeljaa
open Go.RowKit

def AddsTo (B c : Nat) (F : Nat → Prop) (most : Nat) (r : Nat × List Hz) (w : World) (e : Ending) (w' : World) : Prop :=
  e = .returned (.int .i64 r.1) ∧ ListAt w' B (Plus F w w') c most r.2 ∧ Mod F w w'

/-- one more was added -/
theorem adds_step {B c : Nat} {F : Nat → Prop} {most : Nat} {m : List Hz} {w wr w' : World} {o : Obj} (hm : Mod F w wr) (h1 : ListAt w' B (Plus (Plus F w wr) (wr.alloc o) w') c most m) (h2 : Mod (Plus F w wr) (wr.alloc o) w') :
    ListAt w' B (Plus F w w') c most m ∧ Mod F w w' := by
  have hs := h2.size
  have hs0 := hm.size
  have ho : (wr.alloc o).heap.size = wr.heap.size + 1 := by simp
  rw [ho] at hs
  refine ⟨h1.mono fun k hk => ?_, ?_⟩
  · rcases hk with (hk | ⟨ha, hb⟩) | ⟨ha, hb⟩
    · exact .inl hk
    · exact .inr ⟨ha, by omega⟩
    · rw [ho] at ha
      exact .inr ⟨by omega, hb⟩
  · refine (hm.andBelow ((Below.refl _ _).alloc (Nat.le_refl _) o)).trans h2 fun k hk hp => ?_
    rcases hp with hp | ⟨hp, _⟩
    · exact hp
    · omega

theorem adds_nil (v : Value) (w : World) : Calls Try.prog 44 #[.pointer none, v] w fun e w' => e = .returned (.int .i64 0) ∧ w = w' := by
  go_enter Try.func44, Try.ntmps44
  go_wp2_with fail
  go_ret
  exact ⟨rfl, rfl⟩

set_option maxHeartbeats 4000000 in
theorem adds (B c : Nat) (F E : Nat → Prop) (most : Nat) (l ms : List Hz) (v : Value) (w : World) (hm1 : 1 ≤ most) (hm2 : most ≤ 100000) (hL : ListAt w B F c most l) (hF : ∀ k, F k → k < w.heap.size) (hB : B ≤ w.heap.size)
    (hg : GoodL most l) (hv : HitsF w E v ms) (hE : ∀ k, E k → k < w.heap.size ∧ ¬ F k) (hx : ∀ h ∈ ms, h.vec.length ≤ 1000000) (hml : ms.length ≤ 1000000) :
    Calls Try.prog 44 #[.pointer (some ⟨c, 0, none⟩), v] w (AddsTo B c F most (addsZ most l ms) w) := by
  obtain ⟨p, cap, rfl, hcap, hbig, -, -⟩ := id hv
  have H := Lib.hid (And.intro hF (And.intro hB (And.intro hg (And.intro hv (And.intro hE hx)))))
  have L0 := Lib.hid hL
  have M2 := Lib.hid hm2
  clear hL hF hB hg hv hE hx hcap hbig hm2
  go_enter Try.func44, Try.ntmps44
  go_wp2_with fail
  go_loopg [5, 12] ms.length (fun q n i wr => ∃ k : Nat, q = ms.length - k ∧ k ≤ ms.length ∧ i = .int .i64 k ∧ n = .int .i64 (addsZ most l (ms.take k)).1 ∧ ListAt wr B (Plus F w wr) c most (addsZ most l (ms.take k)).2 ∧ Mod F w wr)
  case atStart => exact ⟨0, rfl, by omega, rfl, rfl, L0.out.mono fun _ => .inl, Mod.refl _ _⟩
  case round =>
    obtain ⟨k, rfl, hk, rfl, rfl, hl, hmod⟩ := hrel
    by_cases hlt : k < ms.length
    · obtain ⟨hF, hB, hg, hv, hE, hx⟩ := H.out
      have hvr := hv.agree (Agree.of_mod hmod (fun k hk => (hE k hk).1) fun k hk => (hE k hk).2)
      obtain ⟨rs', -, -, hel⟩ := hvr.rows
      obtain ⟨b, off, up, ucap, -, rfl, hEb, -, c0, c1, c2, hu, hlu⟩ := hel k hlt
      have hs := hmod.size
      have hgk := addsZ_good (most := most) hm1 hg (ms.take k) fun h hh => hx h (List.mem_of_mem_take hh)
      have hxk := hx _ (List.getElem_mem hlt)
      have hle := addsZ_le most l (ms.take k)
      have hb1 := (Below.refl wr.heap.size wr).alloc (Nat.le_refl _) (Obj.cells #[Value.int IntKind.u64 ms[k].id, Value.int IntKind.u64 ms[k].dist, Value.slice up ms[k].vec.length ucap] 43)
      have AD := Lib.hid (add B c (Plus F w wr) most (addsZ most l (ms.take k)).2 ms[k] (.slice up ms[k].vec.length ucap) (wr.alloc (Obj.cells #[Value.int IntKind.u64 ms[k].id, Value.int IntKind.u64 ms[k].dist, Value.slice up ms[k].vec.length ucap] 43)) hm1 M2.out (hl.below hb1) (fun j hj => by
          have := hb1.size
          rcases hj with hj | ⟨-, hj⟩
          · have := hF j hj; omega
          · omega) (Nat.le_trans hB (Nat.le_trans hs hb1.size)) hgk.len hgk.sorted (hu.below hb1) hxk (fun hn b hb hp => by
          obtain ⟨h1, h2⟩ := hE b (hlu hn b hb)
          rcases hp with hp | ⟨hp, -⟩
          · exact h2 hp
          · omega))
      have MO := Lib.hid hmod
      have SN := Lib.hid (addsZ_snoc most l (ms.take k) ms[k])
      rw [← take_snoc ms k hlt] at SN
      have hnk : (addsZ most l (ms.take k)).1 ≤ k := by rw [List.length_take] at hle; omega
      clear hF hB hg hv hE hx hvr hel hEb hu hlu hgk hxk hle hb1 hl hmod
      generalize addsZ most l (ms.take k) = pr at *
      obtain ⟨n, m⟩ := pr
      simp only at hnk
      cases hr : (addZ most m ms[k]).1
      · rw [hr] at SN
        have R := Lib.hid hr
        clear hr
        go_wp2_with fail
        refine AD.out.mono ?_
        rintro e w4 ⟨rfl, h1, h2⟩
        have ST := Lib.hid (adds_step MO.out h1 h2)
        clear h1 h2
        simp only [R.out]
        go_wp2_with fail
        go_roundg (ms.length - (k + 1))
        case measure => omega
        case rel => exact ⟨k + 1, rfl, by omega, by go_num, by rw [SN.out]; rfl, by rw [SN.out]; exact ST.out.1, ST.out.2⟩
      · rw [hr] at SN
        have R := Lib.hid hr
        clear hr
        go_wp2_with fail
        refine AD.out.mono ?_
        rintro e w4 ⟨rfl, h1, h2⟩
        have ST := Lib.hid (adds_step MO.out h1 h2)
        clear h1 h2
        simp only [R.out]
        go_wp2_with fail
        go_roundg (ms.length - (k + 1))
        case measure => omega
        case rel => exact ⟨k + 1, rfl, by omega, by go_num, by rw [SN.out]; simp, by rw [SN.out]; exact ST.out.1, ST.out.2⟩
    · obtain rfl : k = ms.length := by omega
      rw [List.take_length] at *
      go_wp2_with fail
      go_ret
      exact ⟨rfl, hl, hmod⟩

end Go.Proofs.Ytjnkiloomdeljaa

namespace Go.Proofs.Ytjnkiloomdeljaa
open Go.RowKit Go.ChangeMaps

/-- keys of the type K are the values mk a -/
structure KeyOf (P : Program) (K : TypeId) {α : Type} [DecidableEq α] (mk : α → Value) : Prop where
  plain : ∃ d, P.underlying K = some d ∧ (∀ a b, Instr.sameNow d (mk a) (mk b) = some (decide (a = b))) ∧ (∀ e n w (a : α), (Instr.checkKey e (n + 1) K (mk a)).run P w = .ok () w)
  bits : ∀ n a, Instr.sameBits n (mk a) (mk a) = true

theorem int_keyOf {P : Program} {K : TypeId} {k : IntKind} (h : P.underlying K = some (.int k)) : KeyOf P K (Value.int k) := by
  refine ⟨⟨_, h, fun a b => ?_, fun e n w a => ?_⟩, fun n a => by cases n <;> simp [Instr.sameBits]⟩
  · simp only [Instr.sameNow, if_true]
    by_cases hab : a = b <;> simp [hab]
  · simp [Instr.checkKey, run_underlying h, Result.andThen]

theorem beq_ba (a b : List UInt8) : ((⟨a.toArray⟩ : ByteArray) == ⟨b.toArray⟩) = decide (a = b) := by
  show (a.toArray == b.toArray) = _
  rw [Bool.eq_iff_iff]; simp

def strV (l : List UInt8) : Value := .string ⟨l.toArray⟩

theorem string_keyOf {P : Program} {K : TypeId} (h : P.underlying K = some .string) : KeyOf P K strV := by
  refine ⟨⟨_, h, fun a b => ?_, fun e n w a => ?_⟩, fun n a => by cases n <;> simp [Instr.sameBits, strV, beq_ba]⟩
  · simp only [Instr.sameNow, strV]
    rw [beq_ba]
  · simp [Instr.checkKey, run_underlying h, Result.andThen]

section
variable {P : Program} {K : TypeId} {α : Type} [DecidableEq α] {mk : α → Value}

/-- what a key has -/
def getK (L : List (α × Value)) (a : α) : Option Value := (L.find? fun p => decide (p.1 = a)).map (·.2)

/-- a key is given a value -/
def putK : List (α × Value) → α → Value → List (α × Value)
  | [], a, v => [(a, v)]
  | p :: L, a, v => if p.1 = a then (a, v) :: L else p :: putK L a v

/-- a key goes -/
def delK (L : List (α × Value)) (a : α) : List (α × Value) := L.filter fun p => decide (p.1 ≠ a)

/-- block b is a map that holds just these -/
structure MapIs (w : World) (mk : α → Value) (b : Nat) (L : List (α × Value)) (es : Array MapEntry) (clock : Nat) : Prop where
  obj : w.heap[b]? = some (.map es clock)
  ents : es.toList.map (fun e => (e.key, e.val)) = L.map fun p => (mk p.1, p.2)
  keys : (L.map (·.1)).Nodup
  stamps : (es.toList.map (·.born)).Nodup
  young : ∀ e ∈ es.toList, e.born < clock

def MapAt (w : World) (mk : α → Value) (b : Nat) (L : List (α × Value)) : Prop := ∃ es clock, MapIs w mk b L es clock

omit [DecidableEq α] in
theorem MapAt.kept {w w' : World} {b : Nat} {L : List (α × Value)} (h : MapAt w mk b L) (hb : w'.heap[b]? = w.heap[b]?) : MapAt w' mk b L := by
  obtain ⟨es, c, h⟩ := h
  exact ⟨es, c, ⟨by rw [hb]; exact h.obj, h.ents, h.keys, h.stamps, h.young⟩⟩

omit [DecidableEq α] in
theorem MapAt.lt {w : World} {b : Nat} {L : List (α × Value)} (h : MapAt w mk b L) : b < w.heap.size := by
  obtain ⟨es, c, h⟩ := h
  exact (Array.getElem?_eq_some_iff.1 h.obj).1

omit [DecidableEq α] in
theorem MapAt.made (w : World) : MapAt (α := α) (w.alloc (.map #[] 0)) mk w.heap.size [] :=
  ⟨#[], 0, ⟨heap_alloc_new _ _, rfl, by simp, by simp, by simp⟩⟩

/-- where a key is found -/
theorem findNow_eq {d : TypeDesc} (hd : ∀ a b, Instr.sameNow d (mk a) (mk b) = some (decide (a = b))) (a : α) :
    ∀ (es : List MapEntry) (L : List (α × Value)) (i : Nat), es.map (fun e => (e.key, e.val)) = L.map (fun p => (mk p.1, p.2)) →
      Instr.findNow d (mk a) es i = some ((L.findIdx? fun p => decide (p.1 = a)).bind fun j => (L[j]?).map fun p => (i + j, p.2))
  | [], [], _, _ => rfl
  | [], _ :: _, _, h => by simp at h
  | _ :: _, [], _, h => by simp at h
  | e :: es, p :: L, i, h => by
    simp only [List.map_cons, List.cons.injEq, Prod.mk.injEq] at h
    rw [Instr.findNow, h.1.1, hd]
    by_cases hp : p.1 = a
    · have h1 : decide (a = p.1) = true := by simp [hp]
      have h2 : decide (p.1 = a) = true := by simp [hp]
      rw [h1]
      simp [List.findIdx?_cons, h2, h.1.2]
    · have h1 : decide (a = p.1) = false := by simp; exact fun e => hp e.symm
      have h2 : decide (p.1 = a) = false := by simp [hp]
      rw [h1]
      simp only []
      rw [findNow_eq hd a es L (i + 1) h.2]
      simp only [List.findIdx?_cons, h2]
      cases L.findIdx? fun p => decide (p.1 = a) with
      | none => simp
      | some j => simp [Nat.add_comm, Nat.add_left_comm]

theorem getK_eq (L : List (α × Value)) (a : α) : getK L a = (L.findIdx? fun p => decide (p.1 = a)).bind fun j => (L[j]?).map (·.2) := by
  unfold getK
  induction L with
  | nil => rfl
  | cons p L ih =>
    by_cases hp : p.1 = a
    · simp [List.findIdx?_cons, hp]
    · simp only [List.find?_cons, List.findIdx?_cons, hp, decide_false]
      rw [ih]
      cases L.findIdx? fun p => decide (p.1 = a) <;> simp


theorem run_findKey (KO : KeyOf P K mk) {es : List MapEntry} {L : List (α × Value)} (h : es.map (fun e => (e.key, e.val)) = L.map fun p => (mk p.1, p.2)) (a : α) (w : World) :
    (Instr.findKey K (mk a) es).run P w = .ok ((L.findIdx? fun p => decide (p.1 = a)).bind fun j => (L[j]?).map fun p => (j, p.2)) w := by
  obtain ⟨d, hd, hs, _⟩ := KO.plain
  have := findNow_eq hs a es L 0 h
  simp only [Nat.zero_add] at this
  simp [Instr.findKey, run_underlying hd, this, Result.andThen]

/-- m[k], and v, ok := m[k] -/
theorem run_look (KO : KeyOf P K mk) {T E : TypeId} (hT : P.underlying T = some (.map K E)) {w : World} {b : Nat} {L : List (α × Value)} (h : MapAt w mk b L) {z : Value} (hz : (zeroValue E).run P w = .ok z w) (a : α) (c : Bool) :
    (Instr.lookup T (.map (some b)) (mk a) c).run P w = .ok (if c then .tuple #[(getK L a).getD z, .bool (getK L a).isSome] else (getK L a).getD z) w := by
  obtain ⟨es, clock, h⟩ := h
  obtain ⟨d, hd, hs, hck⟩ := KO.plain
  have hf := run_findKey KO h.ents a w
  rw [getK_eq]
  have hg := MapKept.run_getObj_map (P := P) h.obj
  have hc := hck es.isEmpty 9999 w a
  simp only [Instr.lookup, Sem.run_bind, run_underlying hT, hg, Result.andThen_ok, Sem.run_pure, hc, hf]
  cases hj : L.findIdx? fun p => decide (p.1 = a) with
  | none => cases c <;> simp [hz, Result.andThen]
  | some j =>
    obtain ⟨hj', _⟩ := List.findIdx?_eq_some_iff_getElem.1 hj
    cases c <;> simp [List.getElem?_eq_getElem hj']

theorem run_look_nil (KO : KeyOf P K mk) {T E : TypeId} (hT : P.underlying T = some (.map K E)) {w : World} {z : Value} (hz : (zeroValue E).run P w = .ok z w) (a : α) (c : Bool) :
    (Instr.lookup T (.map none) (mk a) c).run P w = .ok (if c then .tuple #[z, .bool false] else z) w := by
  obtain ⟨d, hd, hs, hck⟩ := KO.plain
  have hf := run_findKey KO (es := []) (L := []) rfl a w
  have hc := hck true 9999 w a
  simp only [Instr.lookup, Sem.run_bind, run_underlying hT, Result.andThen_ok, Sem.run_pure]
  simp only [show (#[] : Array MapEntry).isEmpty = true from rfl, hc, Result.andThen_ok]
  cases c <;> simp [hz, hf, Result.andThen]

theorem mem_putK_keys {L : List (α × Value)} {a : α} {v : Value} {x : α} : x ∈ (putK L a v).map (·.1) ↔ x ∈ L.map (·.1) ∨ x = a := by
  induction L with
  | nil => simp [putK]
  | cons p L ih =>
    unfold putK
    split
    · rename_i hp
      subst hp
      simp only [List.map_cons, List.mem_cons]
      constructor
      · rintro (h | h)
        · exact .inr h
        · exact .inl (.inr h)
      · rintro ((h | h) | h)
        · exact .inl h
        · exact .inr h
        · exact .inl h
    · simp only [List.map_cons, List.mem_cons, ih]
      constructor
      · rintro (h | h | h)
        · exact .inl (.inl h)
        · exact .inl (.inr h)
        · exact .inr h
      · rintro ((h | h) | h)
        · exact .inl h
        · exact .inr (.inl h)
        · exact .inr (.inr h)

theorem nodup_putK {L : List (α × Value)} (h : (L.map (·.1)).Nodup) (a : α) (v : Value) : ((putK L a v).map (·.1)).Nodup := by
  induction L with
  | nil => simp [putK]
  | cons p L ih =>
    simp only [List.map_cons, List.nodup_cons] at h
    unfold putK
    split
    · rename_i hp
      subst hp
      simpa using h
    · rename_i hp
      simp only [List.map_cons, List.nodup_cons]
      refine ⟨fun hm => ?_, ih h.2⟩
      rcases mem_putK_keys.1 hm with hm | hm
      · exact h.1 hm
      · exact hp hm

theorem putK_new {L : List (α × Value)} {a : α} (h : L.findIdx? (fun p => decide (p.1 = a)) = none) (v : Value) : putK L a v = L ++ [(a, v)] := by
  induction L with
  | nil => rfl
  | cons p L ih =>
    by_cases hp : p.1 = a
    · simp [List.findIdx?_cons, hp] at h
    · simp only [List.findIdx?_cons, hp, decide_false] at h
      simp only [putK, hp, if_false, List.cons_append]
      rw [ih (by simpa using h)]

theorem putK_old {L : List (α × Value)} {a : α} {j : Nat} (h : L.findIdx? (fun p => decide (p.1 = a)) = some j) (v : Value) : putK L a v = L.set j (a, v) := by
  induction L generalizing j with
  | nil => simp at h
  | cons p L ih =>
    by_cases hp : p.1 = a
    · simp [List.findIdx?_cons, hp] at h
      subst h
      simp [putK, hp]
    · simp only [List.findIdx?_cons, hp, decide_false] at h
      simp only [putK, hp, if_false]
      cases hj : L.findIdx? fun p => decide (p.1 = a) with
      | none => rw [hj] at h; simp at h
      | some i =>
        rw [hj] at h
        simp at h
        subst h
        rw [ih hj]
        rfl

theorem grownBy_setBlock {w : World} {b : Nat} {es : Array MapEntry} {clock : Nat} (h : w.heap[b]? = some (.map es clock)) (o : Obj) : w.grownBy (setBlock w b o) (some b) :=
  ⟨rfl, rfl, rfl, by simp [setBlock], fun k _ hne => heap_setBlock_other h o (fun e => hne (by rw [e]))⟩

/-- m[k] = v -/
theorem run_put (KO : KeyOf P K mk) {T E : TypeId} (hT : P.underlying T = some (.map K E)) {w : World} {b : Nat} {L : List (α × Value)} (h : MapAt w mk b L) (a : α) (v : Value) :
    ∃ w', (Instr.mapUpdate T (.map (some b)) (mk a) v).run P w = .ok () w' ∧ MapAt w' mk b (putK L a v) ∧ w.grownBy w' (some b) ∧ w'.heap.size = w.heap.size := by
  obtain ⟨es, clock, h⟩ := h
  obtain ⟨d, hd, hs, hck⟩ := KO.plain
  have hf := run_findKey KO h.ents a w
  have hg := MapKept.run_getObj_map (P := P) h.obj
  have hc := hck false 9999 w a
  have hlen : es.size = L.length := by have := congrArg List.length h.ents; simpa using this
  cases hj : L.findIdx? fun p => decide (p.1 = a) with
  | none =>
    rw [hj] at hf
    refine ⟨setBlock w b (.map (es.push { key := mk a, val := v, born := clock }) (clock + 1)), ?_, ⟨_, _, ⟨heap_setBlock_same h.obj _, ?_, nodup_putK h.keys a v, ?_, ?_⟩⟩, grownBy_setBlock h.obj _, by simp [setBlock]⟩
    · simp only [Option.bind_none] at hf
      simp only [Instr.mapUpdate, Sem.run_bind, run_underlying hT, hg, Result.andThen_ok, hc, hf, MapKept.run_setObj_map _ h.obj]
      rfl
    · rw [putK_new hj]; simp [h.ents]
    · simp only [Array.toList_push, List.map_append, List.map_cons, List.map_nil]
      rw [List.nodup_append]
      refine ⟨h.stamps, by simp, fun x hx y hy => ?_⟩
      simp only [List.mem_singleton] at hy
      subst hy
      obtain ⟨e, he, rfl⟩ := List.mem_map.1 hx
      have := h.young e he
      omega
    · intro e he
      rw [Array.toList_push, List.mem_append] at he
      rcases he with he | he
      · have := h.young e he; omega
      · simp at he; subst he; simp
  | some j =>
    obtain ⟨hj', hja, _⟩ := List.findIdx?_eq_some_iff_getElem.1 hj
    rw [hj] at hf
    simp only [Option.bind_some, List.getElem?_eq_getElem hj', Option.map_some] at hf
    have hjs : j < es.size := by omega
    have hkey : es[j].key = mk a := by
      have e1 := congrArg (fun l => l[j]?) h.ents
      simp [List.getElem?_eq_getElem hj', hjs] at e1
      have : L[j].1 = a := by simpa using hja
      rw [e1.1, this]
    refine ⟨setBlock w b (.map (es.modify j fun e => { e with key := mk a, val := v }) clock), ?_, ⟨_, _, ⟨heap_setBlock_same h.obj _, ?_, nodup_putK h.keys a v, ?_, ?_⟩⟩, grownBy_setBlock h.obj _, by simp [setBlock]⟩
    · have hst : (Instr.keyThatStays (((es[j]?).map (·.key)).getD (mk a)) (mk a)).run P w = .ok (mk a) w := by
        simp [Instr.keyThatStays, Array.getElem?_eq_getElem hjs, hkey, KO.bits]
      simp only [Instr.mapUpdate, Sem.run_bind, run_underlying hT, hg, Result.andThen_ok, hc, hf, hst, MapKept.run_setObj_map _ h.obj]
      rfl
    · rw [putK_old hj, List.map_set, ← h.ents]
      refine List.ext_getElem? fun i => ?_
      simp only [List.getElem?_map, Array.getElem?_toList, Array.getElem?_modify, List.getElem?_set]
      by_cases hij : j = i
      · subst hij; simp [hjs]
      · simp [hij]
    · have e1 : (es.modify j fun e => { e with key := mk a, val := v }).toList.map (·.born) = es.toList.map (·.born) := by
        refine List.ext_getElem? fun i => ?_
        simp only [List.getElem?_map, Array.getElem?_toList, Array.getElem?_modify]
        by_cases hij : j = i
        · subst hij; simp [Array.getElem?_eq_getElem hjs]
        · simp [hij]
      rw [e1]; exact h.stamps
    · intro e he
      obtain ⟨i, hi, rfl⟩ := List.mem_iff_getElem.1 he
      simp only [Array.length_toList, Array.size_modify] at hi
      simp only [Array.getElem_toList, Array.getElem_modify]
      have := h.young es[i] (by simp)
      split <;> exact this

theorem getK_put (L : List (α × Value)) (a : α) (v : Value) (x : α) : getK (putK L a v) x = if x = a then some v else getK L x := by
  induction L with
  | nil =>
    by_cases h : x = a
    · simp [putK, getK, h]
    · have : decide (a = x) = false := by simp; exact fun e => h e.symm
      simp [putK, getK, this, h]
  | cons p L ih =>
    unfold putK
    by_cases hp : p.1 = a
    · rw [if_pos hp]
      by_cases h : x = a
      · simp [getK, h]
      · have h1 : decide (a = x) = false := by simp; exact fun e => h e.symm
        have h2 : decide (p.1 = x) = false := by rw [hp]; exact h1
        simp [getK, h1, h2, h]
    · rw [if_neg hp]
      by_cases hx : p.1 = x
      · have h : x ≠ a := fun e => hp (by rw [hx, e])
        simp [getK, hx, h]
      · have h2 : decide (p.1 = x) = false := by simp [hx]
        unfold getK at ih ⊢
        simp only [List.find?_cons, h2]
        exact ih

end

end Go.Proofs.Ytjnkiloomdeljaa
