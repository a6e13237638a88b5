/-
  best: many are added.
-/
import Derived.Test.YtfmlhdikagogcaaDoorJ28
namespace Go.Proofs.YtfmlhdikagogcaaDoor
open Go.RowKit
set_option maxRecDepth 20000

def AddsTo (B c : Nat) (F : Nat → Prop) (most : Nat) (r : Nat × List Hz) (w : World) (e : Ending) (w' : World) : Prop :=
  e = .returned (.int .i64 r.1) ∧ ListAt w' B (Plus F w w') c most r.2 ∧ Mod F w w'

/-- one more was added -/
theorem adds_step {B c : Nat} {F : Nat → Prop} {most : Nat} {m : List Hz} {w wr w' : World} {o : Obj} (hm : Mod F w wr) (h1 : ListAt w' B (Plus (Plus F w wr) (wr.alloc o) w') c most m) (h2 : Mod (Plus F w wr) (wr.alloc o) w') :
    ListAt w' B (Plus F w w') c most m ∧ Mod F w w' := by
  have hs := h2.size
  have hs0 := hm.size
  have ho : (wr.alloc o).heap.size = wr.heap.size + 1 := by simp
  rw [ho] at hs
  refine ⟨h1.mono fun k hk => ?_, ?_⟩
  · rcases hk with (hk | ⟨ha, hb⟩) | ⟨ha, hb⟩
    · exact .inl hk
    · exact .inr ⟨ha, by omega⟩
    · rw [ho] at ha
      exact .inr ⟨by omega, hb⟩
  · refine (hm.andBelow ((Below.refl _ _).alloc (Nat.le_refl _) o)).trans h2 fun k hk hp => ?_
    rcases hp with hp | ⟨hp, _⟩
    · exact hp
    · omega

theorem adds_nil (v : Value) (w : World) : Calls Tryd.prog 61 #[.pointer none, v] w fun e w' => e = .returned (.int .i64 0) ∧ w = w' := by
  go_enter Tryd.func61, Tryd.ntmps61
  go_wp2_with fail
  go_ret
  exact ⟨rfl, rfl⟩

set_option maxHeartbeats 4000000 in
theorem adds (B c : Nat) (F E : Nat → Prop) (most : Nat) (l ms : List Hz) (v : Value) (w : World) (hm1 : 1 ≤ most) (hm2 : most ≤ 100000) (hL : ListAt w B F c most l) (hF : ∀ k, F k → k < w.heap.size) (hB : B ≤ w.heap.size)
    (hg : GoodL most l) (hv : HitsF w E v ms) (hE : ∀ k, E k → k < w.heap.size ∧ ¬ F k) (hx : ∀ h ∈ ms, h.vec.length ≤ 1000000) (hml : ms.length ≤ 1000000) :
    Calls Tryd.prog 61 #[.pointer (some ⟨c, 0, none⟩), v] w (AddsTo B c F most (addsZ most l ms) w) := by
  obtain ⟨p, cap, rfl, hcap, hbig, -, -⟩ := id hv
  have H := Lib.hid (And.intro hF (And.intro hB (And.intro hg (And.intro hv (And.intro hE hx)))))
  have L0 := Lib.hid hL
  have M2 := Lib.hid hm2
  clear hL hF hB hg hv hE hx hcap hbig hm2
  go_enter Tryd.func61, Tryd.ntmps61
  go_wp2_with fail
  go_loopg [5, 12] ms.length (fun q n i wr => ∃ k : Nat, q = ms.length - k ∧ k ≤ ms.length ∧ i = .int .i64 k ∧ n = .int .i64 (addsZ most l (ms.take k)).1 ∧ ListAt wr B (Plus F w wr) c most (addsZ most l (ms.take k)).2 ∧ Mod F w wr)
  case atStart => exact ⟨0, rfl, by omega, rfl, rfl, L0.out.mono fun _ => .inl, Mod.refl _ _⟩
  case round =>
    obtain ⟨k, rfl, hk, rfl, rfl, hl, hmod⟩ := hrel
    by_cases hlt : k < ms.length
    · obtain ⟨hF, hB, hg, hv, hE, hx⟩ := H.out
      have hvr := hv.agree (Agree.of_mod hmod (fun k hk => (hE k hk).1) fun k hk => (hE k hk).2)
      obtain ⟨rs', -, -, hel⟩ := hvr.rows
      obtain ⟨b, off, up, ucap, -, rfl, hEb, -, c0, c1, c2, hu, hlu⟩ := hel k hlt
      have hs := hmod.size
      have hgk := addsZ_good (most := most) hm1 hg (ms.take k) fun h hh => hx h (List.mem_of_mem_take hh)
      have hxk := hx _ (List.getElem_mem hlt)
      have hle := addsZ_le most l (ms.take k)
      have hb1 := (Below.refl wr.heap.size wr).alloc (Nat.le_refl _) (Obj.cells #[Value.int IntKind.u64 ms[k].id, Value.int IntKind.u64 ms[k].dist, Value.slice up ms[k].vec.length ucap] 40)
      have AD := Lib.hid (add B c (Plus F w wr) most (addsZ most l (ms.take k)).2 ms[k] (.slice up ms[k].vec.length ucap) (wr.alloc (Obj.cells #[Value.int IntKind.u64 ms[k].id, Value.int IntKind.u64 ms[k].dist, Value.slice up ms[k].vec.length ucap] 40)) hm1 M2.out (hl.below hb1) (fun j hj => by
          have := hb1.size
          rcases hj with hj | ⟨-, hj⟩
          · have := hF j hj; omega
          · omega) (Nat.le_trans hB (Nat.le_trans hs hb1.size)) hgk.len hgk.sorted (hu.below hb1) hxk (fun hn b hb hp => by
          obtain ⟨h1, h2⟩ := hE b (hlu hn b hb)
          rcases hp with hp | ⟨hp, -⟩
          · exact h2 hp
          · omega))
      have MO := Lib.hid hmod
      have SN := Lib.hid (addsZ_snoc most l (ms.take k) ms[k])
      rw [← take_snoc ms k hlt] at SN
      have hnk : (addsZ most l (ms.take k)).1 ≤ k := by rw [List.length_take] at hle; omega
      clear hF hB hg hv hE hx hvr hel hEb hu hlu hgk hxk hle hb1 hl hmod
      generalize addsZ most l (ms.take k) = pr at *
      obtain ⟨n, m⟩ := pr
      simp only at hnk
      cases hr : (addZ most m ms[k]).1
      · rw [hr] at SN
        have R := Lib.hid hr
        clear hr
        go_wp2_with fail
        refine AD.out.mono ?_
        rintro e w4 ⟨rfl, h1, h2⟩
        have ST := Lib.hid (adds_step MO.out h1 h2)
        clear h1 h2
        simp only [R.out]
        go_wp2_with fail
        go_roundg (ms.length - (k + 1))
        case measure => omega
        case rel => exact ⟨k + 1, rfl, by omega, by go_num, by rw [SN.out]; rfl, by rw [SN.out]; exact ST.out.1, ST.out.2⟩
      · rw [hr] at SN
        have R := Lib.hid hr
        clear hr
        go_wp2_with fail
        refine AD.out.mono ?_
        rintro e w4 ⟨rfl, h1, h2⟩
        have ST := Lib.hid (adds_step MO.out h1 h2)
        clear h1 h2
        simp only [R.out]
        go_wp2_with fail
        go_roundg (ms.length - (k + 1))
        case measure => omega
        case rel => exact ⟨k + 1, rfl, by omega, by go_num, by rw [SN.out]; simp, by rw [SN.out]; exact ST.out.1, ST.out.2⟩
    · obtain rfl : k = ms.length := by omega
      rw [List.take_length] at *
      go_wp2_with fail
      go_ret
      exact ⟨rfl, hl, hmod⟩

end Go.Proofs.YtfmlhdikagogcaaDoor
