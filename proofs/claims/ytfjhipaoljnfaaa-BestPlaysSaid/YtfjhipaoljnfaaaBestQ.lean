/-
  best's law: BestTwice.
-/
import Derived.Test.YtfjhipaoljnfaaaBestP
import Derived.Test.YtfjhipaoljnfaaaHitsArg
namespace Go.Proofs.Ytfjhipaoljnfaaa
open Go.RowKit

theorem addZ_mem {n : Nat} (hn : 1 ≤ n) {l : List Hz} (g : GoodL n l) {h x : Hz} (hx : x ∈ (addZ n l h).2) : x ∈ l ∨ x = h := by
  rcases add_cases n l h hn g.len with ⟨k, hk, hp, ⟨-, ha⟩ | ⟨-, ha⟩⟩ | ⟨hp, ⟨hne, ha⟩ | ⟨heq, hk, ⟨-, ha⟩ | ⟨-, ha⟩⟩⟩
  · rw [ha] at hx; exact .inl hx
  · rw [ha] at hx
    rcases insZ_mem.1 hx with h1 | h1
    · exact .inr h1
    · exact .inl (List.mem_of_mem_eraseIdx h1)
  · rw [ha] at hx
    rcases insZ_mem.1 hx with h1 | h1
    · exact .inr h1
    · exact .inl h1
  · rw [ha] at hx; exact .inl hx
  · rw [ha] at hx
    rcases insZ_mem.1 hx with h1 | h1
    · exact .inr h1
    · exact .inl (List.mem_of_mem_take h1)

theorem addsZ_mem {n : Nat} (hn : 1 ≤ n) {l ms : List Hz} (g : GoodL n l) (hv : ∀ h ∈ ms, h.vec.length ≤ 1000000) {x : Hz} (hx : x ∈ (addsZ n l ms).2) : x ∈ l ∨ x ∈ ms := by
  unfold addsZ at hx
  revert hx
  generalize (0 : Nat) = z
  intro hx
  induction ms generalizing z l with
  | nil => exact .inl hx
  | cons h ms ih =>
    rw [List.foldl_cons] at hx
    rcases ih (addZ_good hn g (hv h (by simp))) (fun y hy => hv y (by simp [hy])) _ hx with h1 | h1
    · rcases addZ_mem hn g h1 with h2 | rfl
      · exact .inl h2
      · exact .inr (by simp)
    · exact .inr (by simp [h1])

/-- what is there and comes again, or farther -/
def There (m : List Hz) (h : Hz) : Prop := ∃ x ∈ m, x.id = h.id ∧ x.dist ≤ h.dist

theorem ids_same {l : List Hz} (hd : Ids l) {x y : Hz} (hx : x ∈ l) (hy : y ∈ l) (h : x.id = y.id) : x = y := by
  obtain ⟨i, hi, rfl⟩ := List.mem_iff_getElem.1 hx
  obtain ⟨j, hj, rfl⟩ := List.mem_iff_getElem.1 hy
  rcases Nat.lt_trichotomy i j with h1 | rfl | h1
  · exact absurd h (List.pairwise_iff_getElem.1 hd i j hi hj h1)
  · rfl
  · exact absurd h.symm (List.pairwise_iff_getElem.1 hd j i hj hi h1)

theorem addZ_there {n : Nat} (hn : 1 ≤ n) {m : List Hz} (g : GoodL n m) {h : Hz} (ht : There m h) : addZ n m h = (false, m) := by
  obtain ⟨x, hx, hi, hd⟩ := ht
  rcases add_cases n m h hn g.len with ⟨k, hk, hp, ⟨-, ha⟩ | ⟨h1, -⟩⟩ | ⟨hp, -⟩
  · exact ha
  · have := ids_same g.ids hx (List.getElem_mem hk) (by rw [hi, posZ_in hk hp])
    subst this
    omega
  · exact absurd hi (posZ_out hp x hx)

theorem addsZ_there {n : Nat} (hn : 1 ≤ n) {m ms : List Hz} (g : GoodL n m) (ht : ∀ h ∈ ms, There m h) : addsZ n m ms = (0, m) := by
  unfold addsZ
  induction ms with
  | nil => rfl
  | cons h ms ih =>
    rw [List.foldl_cons, addZ_there hn g (ht h (by simp))]
    exact ih fun x hx => ht x (by simp [hx])

theorem there_self (m : List Hz) : ∀ h ∈ m, There m h := fun h hh => ⟨h, hh, rfl, Int.le_refl _⟩

theorem hitsZ_dist {n : Nat} {l : List Hz} (hf : ∀ r ∈ l, r.Fits) {h : Hz} (hh : h ∈ hitsZ n l) : 0 ≤ h.dist := by
  unfold hitsZ at hh
  obtain ⟨x, hx, rfl⟩ := List.mem_map.1 hh
  exact (hf x (List.mem_of_mem_take hx)).2.2.1

set_option maxHeartbeats 8000000 in
theorem bestTwice (a : Int) (ha : 0 ≤ a ∧ a ≤ 255) (l0 : List Hz) (hf : ∀ r ∈ l0, r.Fits) (far : Int) (hfar : 0 ≤ far ∧ far ≤ 18446744073709551615) (v : Value) (w : World) (h : HitsF w (fun _ => True) v l0) :
    Calls Try.prog 3 #[.int .u8 a, v, .int .u64 far] w fun e w' => e = .returned (.bool true) ∧ Below w.heap.size w w' := by
  have H := Lib.hid h
  have HF := Lib.hid (fun h (hh : h ∈ hitsZ 40 l0) => hitsZ_dist hf hh)
  obtain ⟨a1, a2⟩ := ha
  obtain ⟨f1, f2⟩ := hfar
  clear h hf
  go_enter Try.func3, Try.ntmps3
  go_wp2_with fail
  refine (awake_true w).mono ?_
  rintro e w1 ⟨rfl, hb1⟩
  have B1 := Lib.hid hb1
  clear hb1
  go_wp2_with fail
  obtain ⟨n, hn, hn1, hn2⟩ : ∃ n : Nat, 1 + a % 20 = n ∧ 1 ≤ n ∧ n ≤ 20 := ⟨(1 + a % 20).toNat, by omega, by omega, by omega⟩
  rw [hn]
  clear hn
  refine (new_yes n w1 (by omega) (by omega)).mono ?_
  rintro e wa ⟨c, rfl, hLa, hba⟩
  have A0 := Lib.hid (And.intro hLa hba)
  have RH := Lib.hid (show Calls Try.prog 12 #[v, .int .i64 40] wa (NewHits wa 35 (hitsZ 40 l0)) from refHits 40 (by omega) l0 _ v wa (H.out.below (B1.out.trans (hba.mono B1.out.size))))
  clear hLa hba
  go_wp2_with fail
  refine RH.out.mono ?_
  rintro e wl ⟨vl, rs, rfl, ho, hh, hbl⟩
  have hl40 : (hitsZ 40 l0).length ≤ 40 := by rw [hitsZ_length]; omega
  have hx8 : ∀ h ∈ hitsZ 40 l0, h.vec.length ≤ 1000000 := fun h (hh : h ∈ hitsZ 40 l0) => Nat.le_trans (hitsZ_vec hh) (by omega)
  have BL := Lib.hid hbl
  have hs1 := B1.out.size
  have hs2 := A0.out.2.size
  have hs3 := hbl.size
  have AD := Lib.hid (adds w1.heap.size c (Plus (fun _ => False) w1 wa) (fun k => wa.heap.size ≤ k ∧ k < wl.heap.size) n [] (hitsZ 40 l0) _ wl hn1 (by omega) (A0.out.1.below hbl) (fun k hk => by
    rcases hk with hk | ⟨-, hk⟩
    · exact hk.elim
    · omega) (by omega) (GoodL.nil n) (HitsF.of_own ho (fun b hb => ho.lt b hb) hh.rows) (fun k hk => ⟨by omega, fun hp => by
    rcases hp with hp | ⟨-, hp⟩
    · exact hp
    · omega⟩) hx8 (by omega))
  have GL := Lib.hid (addsZ_good (most := n) hn1 (GoodL.nil n) (hitsZ 40 l0) hx8)
  have DL := Lib.hid (fun x (hx : x ∈ (addsZ n [] (hitsZ 40 l0)).2) => show 0 ≤ x.dist from by
    rcases addsZ_mem hn1 (GoodL.nil n) hx8 hx with h1 | h1
    · cases h1
    · exact HF.out x h1)
  obtain ⟨p, cap, rfl, -, -, -, -⟩ := HitsF.of_own (F := fun k => wa.heap.size ≤ k ∧ k < wl.heap.size) ho (fun b hb => ho.lt b hb) hh.rows
  clear ho hh hbl RH hx8 HF
  generalize addsZ n [] (hitsZ 40 l0) = pr at *
  obtain ⟨x0, m⟩ := pr
  go_wp2_with fail
  refine AD.out.mono ?_
  rintro e wz ⟨rfl, hLz, hmz⟩
  have hs4 := hmz.size
  have BZ := Lib.hid ((B1.out.trans ((A0.out.2.trans (BL.out.mono hs2)).mono hs1)).trans (hmz.below (B := w.heap.size) (by omega) fun k hk => by
    rcases hk with hk | ⟨hk, -⟩
    · exact hk.elim
    · omega))
  obtain ⟨F, hF⟩ : ∃ F, F = Plus (Plus (fun _ => False) w1 wa) wl wz := ⟨_, rfl⟩
  have hF1 : ∀ k, F k → w.heap.size ≤ k ∧ k < wz.heap.size := fun k hk => by
    rw [hF] at hk
    rcases hk with (hk | ⟨h1, h2⟩) | ⟨h1, h2⟩
    · exact hk.elim
    · exact ⟨by omega, by omega⟩
    · exact ⟨by omega, by omega⟩
  rw [← hF] at hLz
  have LZ := Lib.hid hLz
  have FZ := Lib.hid hF1
  have hwz : w1.heap.size ≤ wz.heap.size := by omega
  clear hmz hF hF1 AD
  simp only at hLz
  obtain ⟨va, rsa, Ga, hOa, -, -, -⟩ := hLz
  have HA := Lib.hid (hits _ c _ va rsa Ga m (Nat.le_trans GL.out.len (by omega)) GL.out.vecs wz hOa)
  clear hOa
  go_wp2_with fail
  with_reducible refine HA.out.mono ?_
  rintro e w5 ⟨v5, rs5, rfl, ho5, hh5, hb5⟩
  have hs5 := hb5.size
  have N5 := Lib.hid (HitsF.of_own (F := fun k => wz.heap.size ≤ k ∧ k < w5.heap.size) ho5 (fun b hb => ho5.lt b hb) hh5.rows)
  obtain ⟨q, qc, rfl, -, -, -, -⟩ := N5.out
  have AD2 := Lib.hid (adds w1.heap.size c F (fun k => wz.heap.size ≤ k ∧ k < w5.heap.size) n m m _ w5 hn1 (by omega) (LZ.out.below hb5) (fun k hk => by have := FZ.out k hk; omega) (by omega) GL.out N5.out (fun k hk => ⟨hk.2, fun hp => by have := FZ.out k hp; omega⟩) GL.out.vecs (Nat.le_trans GL.out.len (by omega)))
  rw [addsZ_there hn1 GL.out (there_self m)] at AD2
  have B5 := Lib.hid hb5
  clear ho5 hh5 hb5
  go_wp2_with fail
  with_reducible refine AD2.out.mono ?_
  rintro e w6 ⟨rfl, hL6, hm6⟩
  have hs6 := hm6.size
  have L6 := Lib.hid hL6
  obtain ⟨vb, rsb, Gb, hOb, -, -, -⟩ := hL6
  have HB := Lib.hid (hits _ c _ vb rsb Gb m (Nat.le_trans GL.out.len (by omega)) GL.out.vecs w6 hOb)
  have N6 := Lib.hid (N5.out.agree (Agree.of_mod hm6 (fun k hk => hk.2) fun k hk hp => by have := FZ.out k hp; omega))
  have BM6 := Lib.hid ((BZ.out.trans (B5.out.mono BZ.out.size)).trans (hm6.below (B := w.heap.size) (by omega) fun k hk => (FZ.out k hk).1))
  clear hm6 hOb
  go_wp2_with fail
  with_reducible refine HB.out.mono ?_
  rintro e w7 ⟨v7, rs7, rfl, ho7, hh7, hb7⟩
  have N7 := Lib.hid (HitsF.of_own (F := fun k => w6.heap.size ≤ k ∧ k < w7.heap.size) ho7 (fun b hb => ho7.lt b hb) hh7.rows)
  have B7 := Lib.hid hb7
  have hs7 := hb7.size
  clear ho7 hh7 hb7
  go_wp2_with fail
  refine (sameHits _ _ m m v7 _ w7 N7.out (N6.out.below B7.out)).mono ?_
  rintro e w8 ⟨rfl, hd8⟩
  rw [decide_eq_true (Eq.refl m)]
  have hb8 := hd8.below
  have hs8 := hb8.size
  have N8 := Lib.hid (N6.out.below (B7.out.trans (hb8.mono hs7)))
  have L8 := Lib.hid (L6.out.below (B7.out.trans (hb8.mono hs7)))
  have B8 := Lib.hid ((BM6.out.trans (B7.out.mono BM6.out.size)).trans (hb8.mono (Nat.le_trans BM6.out.size hs7)))
  obtain ⟨F6, hF6⟩ : ∃ F6, F6 = Plus F w5 w6 := ⟨_, rfl⟩
  rw [← hF6] at L8
  have F8 := Lib.hid (show ∀ k, F6 k → w.heap.size ≤ k ∧ k < w6.heap.size ∧ ¬ (wz.heap.size ≤ k ∧ k < w5.heap.size) from fun k hk => by
    rw [hF6] at hk
    rcases hk with hk | ⟨h1, h2⟩
    · have := FZ.out k hk; exact ⟨this.1, by omega, by omega⟩
    · exact ⟨by omega, by omega, by omega⟩)
  have hm20 : m.length ≤ 20 := Nat.le_trans GL.out.len hn2
  clear hd8 hb8 hF6
  go_wp2_with fail
  go_loopg [43] m.length (fun q' i wr => ∃ k : Nat, q' = m.length - k ∧ k ≤ m.length ∧ i = .int .i64 k ∧ ListAt wr w1.heap.size (Plus F6 w8 wr) c n m ∧ Mod F6 w8 wr)
  case atStart => exact ⟨0, rfl, by omega, rfl, L8.out.mono fun _ => .inl, Mod.refl _ _⟩
  case round =>
    obtain ⟨k, rfl, hk, rfl, hl, hmod⟩ := hrel
    have hs := hmod.size
    have hvr := N8.out.agree (Agree.of_mod hmod (fun k hk => by omega) fun k hk hp => (F8.out k hp).2.2 hk)
    by_cases hlt : k < m.length
    · obtain ⟨rs', -, -, hel⟩ := hvr.rows
      obtain ⟨b, off, up, ucap, -, rfl, hEb, -, c0, c1, c2, hu, hlu⟩ := hel k hlt
      have hd0 := DL.out _ (List.getElem_mem hlt)
      by_cases hbig : m[k].dist ≤ 9223372036854775808
      · have hbx := hbig
        have hb1 := (Below.refl wr.heap.size wr).alloc (Nat.le_refl _) (Obj.cells #[Value.int IntKind.u64 m[k].id, Value.int IntKind.u64 (m[k].dist + far % 4611686018427387904), Value.slice up m[k].vec.length ucap] 35)
        have hb2 := hb1.alloc hb1.size (Obj.cells #[Value.int IntKind.u64 m[k].id, Value.int IntKind.u64 (m[k].dist + far % 4611686018427387904), Value.slice up m[k].vec.length ucap] 35)
        have hone := one_hit (h := ⟨m[k].id, m[k].dist + far % 4611686018427387904, m[k].vec⟩) (hu.below hb1) hlu
        have hsz2 : ((wr.alloc (Obj.cells #[Value.int IntKind.u64 m[k].id, Value.int IntKind.u64 (m[k].dist + far % 4611686018427387904), Value.slice up m[k].vec.length ucap] 35)).alloc (Obj.cells #[Value.int IntKind.u64 m[k].id, Value.int IntKind.u64 (m[k].dist + far % 4611686018427387904), Value.slice up m[k].vec.length ucap] 35)).heap.size = wr.heap.size + 2 := by simp
        have hsz1 : (wr.alloc (Obj.cells #[Value.int IntKind.u64 m[k].id, Value.int IntKind.u64 (m[k].dist + far % 4611686018427387904), Value.slice up m[k].vec.length ucap] 35)).heap.size = wr.heap.size + 1 := by simp
        rw [hsz1] at hone
        have hvk := GL.out.vecs _ (List.getElem_mem hlt)
        have AD := Lib.hid (adds w1.heap.size c (Plus F6 w8 wr) (fun j => j = wr.heap.size + 1 ∨ (wz.heap.size ≤ j ∧ j < w5.heap.size)) n m [⟨m[k].id, m[k].dist + far % 4611686018427387904, m[k].vec⟩] _ _ hn1 (by omega) (hl.below hb2) (fun j hj => by
            rw [hsz2]
            rcases hj with hj | ⟨-, hj⟩
            · have := F8.out j hj; omega
            · omega) (by rw [hsz2]; omega) GL.out hone (fun j hj => by
            rw [hsz2]
            rcases hj with rfl | ⟨h1, h2⟩
            · refine ⟨by omega, fun hp => ?_⟩
              rcases hp with hp | ⟨-, hp⟩
              · have := F8.out _ hp; omega
              · omega
            · refine ⟨by omega, fun hp => ?_⟩
              rcases hp with hp | ⟨hp, -⟩
              · exact (F8.out _ hp).2.2 ⟨h1, h2⟩
              · omega) (fun h hh => by rw [List.mem_singleton.1 hh]; exact hvk) (by simp))
        rw [addsZ_there hn1 GL.out (fun h hh => ⟨m[k], List.getElem_mem hlt, by rw [List.mem_singleton.1 hh], by rw [List.mem_singleton.1 hh]; show m[k].dist ≤ m[k].dist + far % 4611686018427387904; omega⟩)] at AD
        have MO := Lib.hid (And.intro hmod hb2)
        clear hl hmod hvr hel hEb hu hlu hb1 hb2 hone hsz1 hsz2 hvk
        go_wp2_with fail
        with_reducible refine AD.out.mono ?_
        rintro e w9 ⟨rfl, h1, h2⟩
        have ST := Lib.hid (frame_next MO.out.1 MO.out.2 h1 h2)
        clear h1 h2
        go_wp2_with fail
        go_roundg (m.length - (k + 1))
        case measure => omega
        case rel => exact ⟨k + 1, rfl, by omega, by go_num, ST.out.1, ST.out.2⟩
      · have LR := Lib.hid (And.intro hl hmod)
        clear hl hmod hvr hel hEb hu hlu
        go_wp2_with fail
        go_roundg (m.length - (k + 1))
        case measure => omega
        case rel => exact ⟨k + 1, rfl, by omega, by go_num, (LR.out.1.below ((Below.refl _ _).alloc (Nat.le_refl _) _)).mono fun j hj => plus_step (by simp) hj, LR.out.2.andBelow ((Below.refl _ _).alloc (Nat.le_refl _) _)⟩
    · obtain rfl : k = m.length := by omega
      have BE := Lib.hid (B8.out.trans (hmod.below (B := w.heap.size) B8.out.size fun k hk => (F8.out k hk).1))
      have NR := Lib.hid hvr
      obtain ⟨vc, rsc, Gc, hOc, -, -, -⟩ := hl
      have HC := Lib.hid (hits _ c _ vc rsc Gc m (Nat.le_trans GL.out.len (by omega)) GL.out.vecs wr hOc)
      clear hOc hvr hmod
      go_wp2_with fail
      with_reducible refine HC.out.mono ?_
      rintro e w9 ⟨v9, rs9, rfl, ho9, hh9, hb9⟩
      have N9 := Lib.hid (HitsF.of_own (F := fun k => wr.heap.size ≤ k ∧ k < w9.heap.size) ho9 (fun b hb => ho9.lt b hb) hh9.rows)
      have B9 := Lib.hid hb9
      clear ho9 hh9 hb9
      go_wp2_with fail
      refine (sameHits _ _ m m v9 _ w9 N9.out (NR.out.below B9.out)).mono ?_
      rintro e w10 ⟨rfl, hd10⟩
      rw [decide_eq_true (Eq.refl m)]
      have BF := Lib.hid (BE.out.trans ((B9.out.trans (hd10.below.mono B9.out.size)).mono BE.out.size))
      clear hd10
      go_wp2_with fail
      go_ret
      exact ⟨rfl, BF.out⟩

end Go.Proofs.Ytfjhipaoljnfaaa
