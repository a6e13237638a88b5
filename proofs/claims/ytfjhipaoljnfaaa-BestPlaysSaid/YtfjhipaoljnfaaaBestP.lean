/-
  best's law: BestMany.
-/
import Derived.Test.YtfjhipaoljnfaaaBestO
namespace Go.Proofs.Ytfjhipaoljnfaaa
open Go.RowKit

theorem addsZ_one (most : Nat) (l ms : List Hz) (h : Hz) : addsZ most l (ms ++ [h]) = ((addsZ most l ms).1 + (addsZ most (addsZ most l ms).2 [h]).1, (addsZ most (addsZ most l ms).2 [h]).2) := by
  rw [addsZ_snoc]
  show _ = ((addsZ most l ms).1 + (if (addZ most (addsZ most l ms).2 h).1 then 0 + 1 else 0), (addZ most (addsZ most l ms).2 h).2)
  cases (addZ most (addsZ most l ms).2 h).1 <;> simp

/-- one more step of a list's frame -/
theorem frame_next {B c : Nat} {F : Nat → Prop} {most : Int} {m : List Hz} {w wr w2 w' : World} (hm : Mod F w wr) (hb : Below wr.heap.size wr w2) (h1 : ListAt w' B (Plus (Plus F w wr) w2 w') c most m) (h2 : Mod (Plus F w wr) w2 w') :
    ListAt w' B (Plus F w w') c most m ∧ Mod F w w' := by
  have hs := h2.size
  have hs0 := hm.size
  have hs2 := hb.size
  refine ⟨h1.mono fun k hk => ?_, ?_⟩
  · rcases hk with (hk | ⟨ha, hb⟩) | ⟨ha, hb⟩
    · exact .inl hk
    · exact .inr ⟨ha, by omega⟩
    · exact .inr ⟨by omega, hb⟩
  · refine (hm.andBelow hb).trans h2 fun k hk hp => ?_
    rcases hp with hp | ⟨hp, _⟩
    · exact hp
    · omega

/-- a slice of one hit, built anew -/
theorem one_hit {w : World} {E : Nat → Prop} {h : Hz} {u : Value} (hu : Nums w .i32 u h.vec) (hl : LiesIn E u h.vec.length) :
    HitsF (w.alloc (.cells #[.int .u64 h.id, .int .u64 h.dist, u] 35)) (fun k => k = w.heap.size ∨ E k) (.slice (some ⟨w.heap.size, 0, none⟩) 1 1) [h] := by
  refine ⟨_, 1, rfl, by simp, by decide, by simp, fun i hi => ⟨w.heap.size, 0, u, rfl, .inl rfl, ?_⟩⟩
  obtain rfl : i = 0 := by simp at hi; omega
  exact ⟨by go_simp <;> rfl, by go_simp <;> rfl, by go_simp <;> rfl, hu.below ((Below.refl _ _).alloc (Nat.le_refl _) _), fun hn b hb => .inr (hl hn b hb)⟩

set_option maxHeartbeats 8000000 in
theorem bestMany (a : Int) (ha : 0 ≤ a ∧ a ≤ 255) (l0 : List Hz) (v : Value) (w : World) (h : HitsF w (fun _ => True) v l0) :
    Calls Try.prog 4 #[.int .u8 a, v] w fun e w' => e = .returned (.bool true) ∧ Below w.heap.size w w' := by
  have H := Lib.hid h
  obtain ⟨a1, a2⟩ := ha
  clear h
  go_enter Try.func4, Try.ntmps4
  go_wp2_with fail
  refine (awake_true w).mono ?_
  rintro e w1 ⟨rfl, hb1⟩
  have B1 := Lib.hid hb1
  clear hb1
  go_wp2_with fail
  obtain ⟨n, hn, hn1, hn2⟩ : ∃ n : Nat, 1 + a % 20 = n ∧ 1 ≤ n ∧ n ≤ 20 := ⟨(1 + a % 20).toNat, by omega, by omega, by omega⟩
  rw [hn]
  clear hn
  refine (new_yes n w1 (by omega) (by omega)).mono ?_
  rintro e wa ⟨ca, rfl, hLa, hba⟩
  have A0 := Lib.hid (And.intro hLa hba)
  clear hLa hba
  go_wp2_with fail
  refine (new_yes n wa (by omega) (by omega)).mono ?_
  rintro e wb ⟨cb, rfl, hLb, hbb⟩
  have B0 := Lib.hid (And.intro hLb hbb)
  have RH := Lib.hid (show Calls Try.prog 12 #[v, .int .i64 40] wb (NewHits wb 35 (hitsZ 40 l0)) from refHits 40 (by omega) l0 _ v wb (H.out.below (B1.out.trans ((A0.out.2.trans (hbb.mono A0.out.2.size)).mono B1.out.size))))
  clear hLb hbb
  go_wp2_with fail
  refine RH.out.mono ?_
  rintro e wl ⟨vl, rs, rfl, ho, hh, hbl⟩
  have hl40 : (hitsZ 40 l0).length ≤ 40 := by rw [hitsZ_length]; omega
  have hv8 := Lib.hid (fun h (hh : h ∈ hitsZ 40 l0) => hitsZ_vec hh)
  have HL := Lib.hid (HitsF.of_own (F := fun k => wb.heap.size ≤ k ∧ k < wl.heap.size) ho (fun b hb => ho.lt b hb) hh.rows)
  have BL := Lib.hid hbl
  clear ho hh hbl RH
  generalize hitsZ 40 l0 = l at *
  obtain ⟨p, cap, rfl, -, -, -, -⟩ := HL.out
  have S0 := Lib.hid (And.intro B1.out.size (And.intro A0.out.2.size (And.intro B0.out.2.size BL.out.size)))
  go_wp2_with fail
  go_loopg [11, 34] l.length (fun q acc i wr => ∃ k : Nat, q = l.length - k ∧ k ≤ l.length ∧ i = .int .i64 k ∧ acc = .int .i64 (addsZ n [] (l.take k)).1 ∧ ListAt wr wa.heap.size (Plus (Plus (fun _ => False) wa wb) wl wr) cb n (addsZ n [] (l.take k)).2 ∧ Mod (Plus (fun _ => False) wa wb) wl wr)
  case atStart => exact ⟨0, rfl, by omega, rfl, rfl, (B0.out.1.below BL.out).mono fun _ => .inl, Mod.refl _ _⟩
  case round =>
    obtain ⟨k, rfl, hk, rfl, rfl, hl, hmod⟩ := hrel
    by_cases hlt : k < l.length
    · have hvr := HL.out.agree (Agree.of_mod hmod (fun k hk => hk.2) fun k hk hp => by
        rcases hp with hp | ⟨-, hp⟩
        · exact hp
        · have := hk.1; omega)
      obtain ⟨rs', -, -, hel⟩ := hvr.rows
      obtain ⟨b, off, up, ucap, -, rfl, hEb, -, c0, c1, c2, hu, hlu⟩ := hel k hlt
      have hs := hmod.size
      have hgk := addsZ_good (most := n) hn1 (GoodL.nil n) (l.take k) fun h hh => Nat.le_trans (hv8.out h (List.mem_of_mem_take hh)) (by omega)
      have hxk := hv8.out _ (List.getElem_mem hlt)
      have hle := addsZ_le n [] (l.take k)
      have hb1 := (Below.refl wr.heap.size wr).alloc (Nat.le_refl _) (Obj.cells #[Value.int IntKind.u64 l[k].id, Value.int IntKind.u64 l[k].dist, Value.slice up l[k].vec.length ucap] 35)
      have hb2 := hb1.alloc hb1.size (Obj.cells #[Value.int IntKind.u64 l[k].id, Value.int IntKind.u64 l[k].dist, Value.slice up l[k].vec.length ucap] 35)
      have hone := one_hit (hu.below hb1) hlu
      have hsz2 : ((wr.alloc (Obj.cells #[Value.int IntKind.u64 l[k].id, Value.int IntKind.u64 l[k].dist, Value.slice up l[k].vec.length ucap] 35)).alloc (Obj.cells #[Value.int IntKind.u64 l[k].id, Value.int IntKind.u64 l[k].dist, Value.slice up l[k].vec.length ucap] 35)).heap.size = wr.heap.size + 2 := by simp
      have hsz1 : (wr.alloc (Obj.cells #[Value.int IntKind.u64 l[k].id, Value.int IntKind.u64 l[k].dist, Value.slice up l[k].vec.length ucap] 35)).heap.size = wr.heap.size + 1 := by simp
      obtain ⟨s1, s2, s3, s4⟩ := S0.out
      rw [hsz1] at hone
      have AD := Lib.hid (adds wa.heap.size cb _ _ n _ [l[k]] _ _ hn1 (by omega) (hl.below hb2) (fun j hj => by
          rw [hsz2]
          rcases hj with (hj | ⟨-, hj⟩) | ⟨-, hj⟩
          · exact hj.elim
          · omega
          · omega) (by rw [hsz2]; omega) hgk hone (fun j hj => by
          rw [hsz2]
          rcases hj with rfl | ⟨h1, h2⟩
          · refine ⟨by omega, fun hp => ?_⟩
            rcases hp with (hp | ⟨-, hp⟩) | ⟨-, hp⟩
            · exact hp
            · omega
            · omega
          · refine ⟨by omega, fun hp => ?_⟩
            rcases hp with (hp | ⟨-, hp⟩) | ⟨hp, -⟩
            · exact hp
            · omega
            · omega) (fun h hh => by rw [List.mem_singleton.1 hh]; omega) (by simp))
      have MO := Lib.hid (And.intro hmod hb2)
      have SN := Lib.hid (addsZ_one n [] (l.take k) l[k])
      rw [← take_snoc l k hlt] at SN
      have hnk : (addsZ n [] (l.take k)).1 ≤ k := by rw [List.length_take] at hle; omega
      have hn1k := addsZ_le n (addsZ n [] (l.take k)).2 [l[k]]
      clear hvr hel hEb hu hlu hgk hxk hle hb1 hb2 hl hmod hone hsz1 hsz2 s1 s2 s3 s4
      generalize addsZ n [] (l.take k) = pr at *
      obtain ⟨x, m⟩ := pr
      simp only [List.length_singleton] at hnk hn1k
      generalize addsZ n m [l[k]] = p1 at *
      obtain ⟨y, m1⟩ := p1
      simp only at hn1k
      go_wp2_with fail
      refine AD.out.mono ?_
      rintro e w4 ⟨rfl, h1, h2⟩
      have ST := Lib.hid (frame_next MO.out.1 MO.out.2 h1 h2)
      clear h1 h2
      go_wp2_with fail
      go_roundg (l.length - (k + 1))
      case measure => omega
      case rel => exact ⟨k + 1, rfl, by omega, by go_num, by rw [SN.out]; simp, by rw [SN.out]; exact ST.out.1, ST.out.2⟩
    · obtain rfl : k = l.length := by omega
      rw [List.take_length] at *
      obtain ⟨s1, s2, s3, s4⟩ := S0.out
      have hs := hmod.size
      have hvr := HL.out.agree (Agree.of_mod hmod (fun k hk => hk.2) fun k hk hp => by
        rcases hp with hp | ⟨-, hp⟩
        · exact hp
        · have := hk.1; omega)
      have hLa := ((A0.out.1.below B0.out.2).below BL.out).agree (Agree.of_mod hmod (fun k hk => by
        rcases hk with hk | ⟨-, hk⟩
        · exact hk.elim
        · omega) fun k hk hp => by
        rcases hk with hk | ⟨-, hk⟩
        · exact hk.elim
        · rcases hp with hp | ⟨hp, -⟩
          · exact hp
          · omega) hs
      have hx8 : ∀ h ∈ l, h.vec.length ≤ 1000000 := fun h hh => Nat.le_trans (hv8.out h hh) (by omega)
      have AD := Lib.hid (adds w1.heap.size ca (Plus (fun _ => False) w1 wa) (fun k => wb.heap.size ≤ k ∧ k < wl.heap.size) n [] l _ wr hn1 (by omega) hLa (fun k hk => by
        rcases hk with hk | ⟨-, hk⟩
        · exact hk.elim
        · omega) (by omega) (GoodL.nil n) hvr (fun k hk => ⟨by omega, fun hp => by
        rcases hp with hp | ⟨-, hp⟩
        · exact hp
        · omega⟩) hx8 (by omega))
      have GL := Lib.hid (addsZ_good (most := n) hn1 (GoodL.nil n) l hx8)
      have BW := Lib.hid (B1.out.trans ((A0.out.2.trans ((B0.out.2.trans (BL.out.mono B0.out.2.size)).mono A0.out.2.size)).mono B1.out.size))
      have BW2 := Lib.hid (BW.out.trans (hmod.below (B := w.heap.size) (by omega) fun k hk => by
        rcases hk with hk | ⟨hk, -⟩
        · exact hk.elim
        · omega))
      have LB := Lib.hid hl
      have hxl := addsZ_le n [] l
      clear hvr hLa hx8 hmod hl
      generalize addsZ n [] l = pr at *
      obtain ⟨x, m⟩ := pr
      simp only at hxl
      go_wp2_with fail
      refine AD.out.mono ?_
      rintro e wz ⟨rfl, hLz, hmz⟩
      have hsz := hmz.size
      have hLbz := Lib.hid (LB.out.agree (Agree.of_mod hmz (fun k hk => by
        rcases hk with (hk | ⟨-, hk⟩) | ⟨-, hk⟩
        · exact hk.elim
        · omega
        · omega) fun k hk hp => by
        rcases hp with hp | ⟨-, hp⟩
        · exact hp
        · rcases hk with (hk | ⟨hk, -⟩) | ⟨hk, -⟩
          · exact hk
          · omega
          · omega) hsz)
      have BZ := Lib.hid (BW2.out.trans (hmz.below (B := w.heap.size) (by have := BW2.out.size; omega) fun k hk => by
        rcases hk with hk | ⟨hk, -⟩
        · exact hk.elim
        · omega))
      have LZ := Lib.hid hLz
      obtain ⟨va, rsa, Ga, hOa, -, -, -⟩ := hLz
      have HA := Lib.hid (hits _ ca _ va rsa Ga m (Nat.le_trans GL.out.len (by omega)) GL.out.vecs wz hOa)
      clear hmz hOa
      go_wp2_with fail
      with_reducible refine HA.out.mono ?_
      rintro e w5 ⟨v5, rs5, rfl, ho5, hh5, hb5⟩
      have N5 := Lib.hid (HitsF.of_own (F := fun k => wz.heap.size ≤ k ∧ k < w5.heap.size) ho5 (fun b hb => ho5.lt b hb) hh5.rows)
      have B5 := Lib.hid hb5
      obtain ⟨vb, rsb, Gb, hOb, -, -, -⟩ := hLbz.out.below hb5
      have HB := Lib.hid (hits _ cb _ vb rsb Gb m (Nat.le_trans GL.out.len (by omega)) GL.out.vecs w5 hOb)
      clear ho5 hh5 hb5 hOb
      go_wp2_with fail
      with_reducible refine HB.out.mono ?_
      rintro e w6 ⟨v6, rs6, rfl, ho6, hh6, hb6⟩
      have N6 := Lib.hid (HitsF.of_own (F := fun k => w5.heap.size ≤ k ∧ k < w6.heap.size) ho6 (fun b hb => ho6.lt b hb) hh6.rows)
      have B6 := Lib.hid hb6
      clear ho6 hh6 hb6
      go_wp2_with fail
      refine (sameHits _ _ m m v5 v6 w6 (N5.out.below B6.out) N6.out).mono ?_
      rintro e w7 ⟨rfl, hd7⟩
      rw [decide_eq_true (Eq.refl m)]
      have B7 := Lib.hid hd7.below
      have BB := Lib.hid (B5.out.trans ((B6.out.trans (B7.out.mono B6.out.size)).mono B5.out.size))
      have AD2 := Lib.hid (adds w1.heap.size ca _ (fun _ => False) n m [] (.slice none 0 0) w7 hn1 (by omega) (LZ.out.below BB.out) (fun k hk => by
        have := BB.out.size
        rcases hk with (hk | ⟨-, hk⟩) | ⟨-, hk⟩
        · exact hk.elim
        · omega
        · omega) (by have := BB.out.size; omega) GL.out (HitsF.nil _ _) (fun k hk => hk.elim) (fun h hh => absurd hh (by simp)) (by simp))
      have BE := Lib.hid (BZ.out.trans (BB.out.mono BZ.out.size))
      clear hd7
      go_wp2_with fail
      with_reducible refine AD2.out.mono ?_
      rintro e w8 ⟨rfl, -, hm8⟩
      have BF := Lib.hid (BE.out.trans (hm8.below (B := w.heap.size) BE.out.size fun k hk => by
        have := BZ.out.size
        have := B1.out.size
        rcases hk with (hk | ⟨hk, -⟩) | ⟨hk, -⟩
        · exact hk.elim
        · omega
        · omega))
      clear hm8
      rw [addsZ_nil]
      go_wp2_with fail
      go_ret
      exact ⟨rfl, BF.out⟩

end Go.Proofs.Ytfjhipaoljnfaaa
