/-
  best's law: BestMerges, walked.
-/
import Derived.Test.YtfjhipaoljnfaaaRefH
namespace Go.Proofs.Ytfjhipaoljnfaaa
open Go.RowKit

/-- what the law lays of the first k parts -/
def partsZ (ls : List (List Hz)) (k : Nat) : List (List Hz) := (ls.take k).map fun ms => (hitsZ 12 ms).map detZ

theorem partsZ_snoc (ls : List (List Hz)) (k : Nat) (hk : k < ls.length) : partsZ ls (k + 1) = partsZ ls k ++ [(hitsZ 12 ls[k]).map detZ] := by
  unfold partsZ
  rw [take_snoc ls k hk, List.map_append]
  rfl

theorem HitsF.front {w : World} {F : Nat → Prop} {p : Option Addr} {n c : Nat} {l : List Hz} (h : HitsF w F (.slice p n c) l) {k : Nat} (hk : k ≤ l.length) : HitsF w F (.slice p k c) (l.take k) := by
  obtain ⟨p', cap, hv, h1, h2, h3, h4⟩ := h
  obtain ⟨rfl, rfl, rfl⟩ := Value.slice.inj hv
  have hl : (l.take k).length = k := by rw [List.length_take]; omega
  refine ⟨p, c, by rw [hl], by omega, h2, h3, fun i hi => ?_⟩
  obtain ⟨b, off, u, r⟩ := h4 i (by omega)
  exact ⟨b, off, u, by simpa [List.getElem_take] using r⟩

theorem ListsF.keep {w w' : World} {B : Nat} {v : Value} {ls : List (List Hz)} (h : ListsF w (fun k => B ≤ k ∧ k < w.heap.size) v ls) (hb : Below w.heap.size w w') : ListsF w' (fun k => B ≤ k ∧ k < w'.heap.size) v ls := by
  have hs := hb.size
  obtain ⟨p, cap, hv, h1, h2, h3, h4⟩ := h.agree (Agree.of_below hb fun k hk => hk.2)
  refine ⟨p, cap, hv, h1, h2, h3, fun i hi => ?_⟩
  obtain ⟨b, off, u, hp, hf, c0, hn⟩ := h4 i hi
  exact ⟨b, off, u, hp, ⟨hf.1, by omega⟩, c0, hn.mono fun k hk => ⟨hk.1, by omega⟩⟩

theorem sameHits_self (F G : Nat → Prop) (l : List Hz) (v u : Value) (w : World) (h : HitsF w F v l) (g : HitsF w G u l) :
    Calls Try.prog 14 #[v, u] w fun e w' => e = .returned (.bool true) ∧ Drawn w w' :=
  (sameHits F G l l v u w h g).mono fun e w' hh => ⟨hh.1.trans (by rw [decide_eq_true (Eq.refl l)]), hh.2⟩

/-- all that was laid, both ways round -/
theorem merged {w : World} {B c : Nat} {vl vb : Value} {ps : List Value} {E FX : Nat → Prop} {ls : List (List Hz)} (m : MState w B c vl vb ps E FX ls) {n : Nat} (hn : 1 ≤ n) (hdet : ∀ a ∈ ls.flatten, ∀ b ∈ ls.flatten, a.id = b.id → a.dist = b.dist → a = b) :
    mergeZ n ls = (addsZ 1048576 [] ls.flatten).2.take n ∧ mergeZ n ls.reverse = (addsZ 1048576 [] ls.flatten).2.take n := by
  have hv := m.fvec
  have hl := m.flat
  have hmem : ∀ x, x ∈ ls.flatten ↔ x ∈ ls.reverse.flatten := fun x => by simp [List.mem_flatten]
  have hl2 : ls.reverse.flatten.length ≤ 72 := by
    have := flat_len (ls := ls.reverse) (n := 12) fun ms hm => m.l12 ms (List.mem_reverse.1 hm)
    have h6 := m.ln
    rw [List.length_reverse] at this
    omega
  refine ⟨by rw [mergeZ_flat]; exact adds_take hn _ hv (by omega) (by omega), ?_⟩
  rw [mergeZ_flat, adds_take (N := 1048576) hn _ (fun h hh => hv h ((hmem h).2 hh)) (by omega) (by omega), adds_same (by omega) hv (by omega) (by omega) hdet hmem]

set_option maxHeartbeats 8000000 in
theorem bestMerges (a : Int) (ha : 0 ≤ a ∧ a ≤ 255) (ls0 : List (List Hz)) (hf : ∀ ms ∈ ls0, ∀ r ∈ ms, r.Fits) (v : Value) (w : World) (h : ListsF w (fun _ => True) v ls0) :
    Calls Try.prog 5 #[.int .u8 a, v] w fun e w' => e = .returned (.bool true) ∧ Below w.heap.size w w' := by
  obtain ⟨a1, a2⟩ := ha
  obtain ⟨p, cap, rfl, hcap, hbig, -, -⟩ := id h
  have hl9 : ls0.length ≤ 9223372036854775807 := by omega
  have H := Lib.hid h
  have FT := Lib.hid hf
  clear h hf hcap hbig
  go_enter Try.func5, Try.ntmps5
  go_wp2_with fail
  refine (awake_true w).mono ?_
  rintro e w1 ⟨rfl, hb1⟩
  have B1 := Lib.hid hb1
  clear hb1
  go_wp2_with fail
  obtain ⟨n, hn, hn1, hn2⟩ : ∃ n : Nat, 1 + a % 20 = n ∧ 1 ≤ n ∧ n ≤ 20 := ⟨(1 + a % 20).toNat, by omega, by omega, by omega⟩
  simp only [hn]
  clear hn
  have R0 := Lib.hid (refL_new w1 1048576)
  have BA := Lib.hid (B1.out.alloc (o := .cells #[.int .i64 1048576, .slice none 0 0] 41) B1.out.size)
  obtain ⟨w2, hw2⟩ : ∃ w2, w2 = w1.alloc (.cells #[.int .i64 1048576, .slice none 0 0] 41) := ⟨_, rfl⟩
  have hs2 : w2.heap.size = w1.heap.size + 1 := by rw [hw2]; simp
  have hs1 := B1.out.size
  rw [← hw2] at R0 BA ⊢
  clear hw2
  go_loopg [6, 7, 24] ls0.length (fun q' vl vb i wr => ∃ (k : Nat) (ps : List Value) (E FX : Nat → Prop), q' = ls0.length - k ∧ k ≤ ls0.length ∧ k ≤ 6 ∧ i = .int .i64 k ∧ MState wr w2.heap.size w1.heap.size vl vb ps E FX (partsZ ls0 k) ∧ Below w.heap.size w wr ∧ w2.heap.size ≤ wr.heap.size)
  case atStart =>
    refine ⟨0, [], fun _ => False, fun k => k = w1.heap.size, rfl, by omega, by omega, rfl, ?_, BA.out, Nat.le_refl _⟩
    exact ⟨World.ownsRow_nil _ _ _ _, World.ownsRow_nil _ _ _ _, by simp [Value.ownBlock], fun i h => absurd h (by simp [partsZ]), fun k hk => hk.elim, fun k hk => hk.elim, by simp [Value.ownBlock], by simp [Value.ownBlock], R0.out, fun k hk => by omega, fun k hk => by omega, by omega, by simp [partsZ], by simp [partsZ], by simp [partsZ]⟩
  case round =>
    obtain ⟨k, ps, E, FX, rfl, hk, hk6, rfl, hM, hb, hwr⟩ := hrel
    have M := Lib.hid hM
    have BW := Lib.hid hb
    clear hM hb
    by_cases hlt : k < ls0.length
    · by_cases h6 : k < 6
      · have g6 : decide ((6 : Int) ≤ (k : Int)) = false := decide_eq_false (by omega)
        obtain ⟨b, off, q, qc, rfl, c0, hhit⟩ := H.out.elem hlt
        replace c0 := below_cells BW.out c0
        have RH := Lib.hid (show Calls Try.prog 12 #[.slice q ls0[k].length qc, .int .i64 12] wr (NewHits wr 35 (hitsZ 12 ls0[k])) from refHits 12 (by omega) ls0[k] _ _ wr (hhit.below BW.out))
        clear hhit
        obtain ⟨wo, rfl⟩ : ∃ wo : World, wo = wr := ⟨_, rfl⟩
        go_wp2_with fail
        refine RH.out.mono ?_
        rintro e w3 ⟨v3, rs, rfl, ho, hh, hb3⟩
        have hl12 : (hitsZ 12 ls0[k]).length ≤ 12 := by rw [hitsZ_length]; omega
        have FL := Lib.hid (show ∀ h ∈ hitsZ 12 ls0[k], 0 ≤ h.id ∧ 0 ≤ h.dist from fun h hh => by
          obtain ⟨x, hx, rfl⟩ := List.mem_map.1 hh
          have := FT.out _ (List.getElem_mem hlt) x (List.mem_of_mem_take hx)
          exact ⟨this.1, this.2.2.1⟩)
        have PS := Lib.hid (partsZ_snoc ls0 k hlt)
        have hpl : (partsZ ls0 k).length = k := by simp [partsZ]; omega
        have I0 := Lib.hid (InnerS.start (prev := (partsZ ls0 k).flatten) ho hh hb3 M.out.rl M.out.fhi (by omega))
        have BW3 := Lib.hid (BW.out.trans (hb3.mono BW.out.size))
        have hs3 := hb3.size
        have pv := Lib.hid (And.intro M.out.fvec M.out.flat)
        generalize hitsZ 12 ls0[k] = l at *
        clear ho hh hb3 RH c0
        obtain ⟨q3, c3, rfl⟩ := own_slice I0.out.ow
        go_wp2_with fail
        go_loopg [35] l.length (fun q' i wr => ∃ (j : Nat) (rs : List Hv), q' = l.length - j ∧ j ≤ l.length ∧ i = .int .i64 j ∧ InnerS wo wr w1.heap.size (.slice q3 l.length c3) rs FX (partsZ ls0 k).flatten l j j)
        case atStart => exact ⟨0, rs, rfl, by omega, rfl, I0.out⟩
        case round =>
          obtain ⟨j, rs2, rfl, hj, rfl, hI⟩ := hrel
          have I := Lib.hid hI
          clear hI
          by_cases hlj : j < l.length
          · obtain ⟨g, cg, hv, -, -⟩ := I.out.ow.form (by omega)
            obtain ⟨rfl, -, rfl⟩ := Value.slice.inj hv
            have hjr : j < rs2.length := by rw [I.out.rw.len, mixZ_length]; exact hlj
            have hfl := flat3_get rs2 j hjr
            obtain ⟨e1, e2, -⟩ := I.out.rw.each j hjr (by rw [mixZ_length]; exact hlj)
            rw [mixZ_at l j hlj] at e1 e2
            have d0 := own_cell I.out.ow rfl hfl.1
            have d1 := own_cell I.out.ow rfl hfl.2.1
            have d2 := own_cell I.out.ow rfl hfl.2.2
            rw [e1] at d0
            rw [e2] at d1
            obtain ⟨F1, F2⟩ := FL.out _ (List.getElem_mem hlj)
            have m1 := wrap7 F1
            have m2 := wrap7 F2
            have j0 : (0 : Int) ≤ (j : Int) := by omega
            have j1 : (j : Int) < (l.length : Int) := by omega
            clear hv hfl e1 e2 F1 F2
            go_wp2_with fail
            obtain ⟨W1, hW1⟩ : ∃ W1, W1 = wr.drew := ⟨_, rfl⟩
            have b0 : Below wr.heap.size wr W1 := by rw [hW1]; exact (Below.refl _ _).drew
            have I1 := Lib.hid (I.out.below b0)
            replace d0 := below_cells b0 d0
            replace d1 := below_cells b0 d1
            replace d2 := below_cells b0 d2
            have HW := Lib.hid hW1
            clear hW1 b0
            refine region_goN 19 (fun w' => w'.cell? ⟨g, j * 3, none⟩ = some (.int .u64 l[j].id) ∧ w'.cell? ⟨g, j * 3 + 1, none⟩ = some (.int .u64 l[j].dist)) (by kernel_rfl) ?hS0 (fun hH => ?_)
            case hS0 =>
              rw [← HW.out]; exact ⟨d0, d1⟩
            rw [← HW.out] at hH ⊢
            refine tkYN (v := ?_) 0 hH rfl (fun _ _ _ h => h) ?hc ?hw ?hy ?_
            case hc => decide +kernel
            case hw => rfl
            case hy => (intro w hS; (try dsimp only at hS); go_simp; try with_reducible rfl)
            (try simp only [Act.put]); (repeat (first | simp only [List.setIfInBounds_toArray] | simp only [List.set_cons_zero] | simp only [List.set_cons_succ]))
            refine tkYN (v := ?_) 1 hH rfl (fun _ _ _ h => h) ?hc ?hw ?hy ?_
            case hc => decide +kernel
            case hw => rfl
            case hy => (intro w hS; (try dsimp only at hS); go_simp; try with_reducible rfl)
            (try simp only [Act.put]); (repeat (first | simp only [List.setIfInBounds_toArray] | simp only [List.set_cons_zero] | simp only [List.set_cons_succ]))
            refine tkYN (v := ?_) 2 hH rfl (fun _ _ _ h => h) ?hc ?hw ?hy ?_
            case hc => decide +kernel
            case hw => rfl
            case hy => (intro w hS; (try dsimp only at hS); go_simp; try with_reducible rfl)
            (try simp only [Act.put]); (repeat (first | simp only [List.setIfInBounds_toArray] | simp only [List.set_cons_zero] | simp only [List.set_cons_succ]))
            refine tkYN (v := ?_) 3 hH rfl (fun _ _ _ h => h) ?hc ?hw ?hy ?_
            case hc => decide +kernel
            case hw => rfl
            case hy => (intro w hS; (try dsimp only at hS); go_simp; try with_reducible rfl)
            (try simp only [Act.put]); (repeat (first | simp only [List.setIfInBounds_toArray] | simp only [List.set_cons_zero] | simp only [List.set_cons_succ]))
            refine tkYN (v := ?_) 4 hH rfl (fun _ _ _ h => h) ?hc ?hw ?hy ?_
            case hc => decide +kernel
            case hw => rfl
            case hy => (intro w hS; (try dsimp only at hS); go_simp; try with_reducible rfl)
            (try simp only [Act.put]); (repeat (first | simp only [List.setIfInBounds_toArray] | simp only [List.set_cons_zero] | simp only [List.set_cons_succ]))
            refine tkYN (v := ?_) 5 hH rfl (fun _ _ _ h => h) ?hc ?hw ?hy ?_
            case hc => decide +kernel
            case hw => rfl
            case hy => (intro w hS; (try dsimp only at hS); go_simp; try with_reducible rfl)
            (try simp only [Act.put]); (repeat (first | simp only [List.setIfInBounds_toArray] | simp only [List.set_cons_zero] | simp only [List.set_cons_succ]))
            refine tkYN (v := ?_) 6 hH rfl (fun _ _ _ h => h) ?hc ?hw ?hy ?_
            case hc => decide +kernel
            case hw => rfl
            case hy => (intro w hS; (try dsimp only at hS); go_simp; try with_reducible rfl)
            (try simp only [Act.put]); (repeat (first | simp only [List.setIfInBounds_toArray] | simp only [List.set_cons_zero] | simp only [List.set_cons_succ]))
            refine tkYN (v := ?_) 7 hH rfl (fun _ _ _ h => h) ?hc ?hw ?hy ?_
            case hc => decide +kernel
            case hw => rfl
            case hy => (intro w hS; (try dsimp only at hS); go_simp; try with_reducible rfl)
            (try simp only [Act.put]); (repeat (first | simp only [List.setIfInBounds_toArray] | simp only [List.set_cons_zero] | simp only [List.set_cons_succ]))
            refine tkYN (v := ?_) 8 hH rfl (fun _ _ _ h => h) ?hc ?hw ?hy ?_
            case hc => decide +kernel
            case hw => rfl
            case hy => (intro w hS; (try dsimp only at hS); go_simp; try with_reducible rfl)
            (try simp only [Act.put]); (repeat (first | simp only [List.setIfInBounds_toArray] | simp only [List.set_cons_zero] | simp only [List.set_cons_succ]))
            refine tkYN (v := ?_) 9 hH rfl (fun _ _ _ h => h) ?hc ?hw ?hy ?_
            case hc => decide +kernel
            case hw => rfl
            case hy => (intro w hS; (try dsimp only at hS); go_simp; try with_reducible rfl)
            (try simp only [Act.put]); (repeat (first | simp only [List.setIfInBounds_toArray] | simp only [List.set_cons_zero] | simp only [List.set_cons_succ]))
            refine tkYN (v := ?_) 10 hH rfl (fun _ _ _ h => h) ?hc ?hw ?hy ?_
            case hc => decide +kernel
            case hw => rfl
            case hy => (intro w hS; (try dsimp only at hS); go_simp; try with_reducible rfl)
            (try simp only [Act.put]); (repeat (first | simp only [List.setIfInBounds_toArray] | simp only [List.set_cons_zero] | simp only [List.set_cons_succ]))
            refine tkYN (v := ?_) 11 hH rfl (fun _ _ _ h => h) ?hc ?hw ?hy ?_
            case hc => decide +kernel
            case hw => rfl
            case hy => (intro w hS; (try dsimp only at hS); go_simp; try with_reducible rfl)
            (try simp only [Act.put]); (repeat (first | simp only [List.setIfInBounds_toArray] | simp only [List.set_cons_zero] | simp only [List.set_cons_succ]))
            refine tkYN (v := ?_) 12 hH rfl (fun _ _ _ h => h) ?hc ?hw ?hy ?_
            case hc => decide +kernel
            case hw => rfl
            case hy => (intro w hS; (try dsimp only at hS); go_simp; try with_reducible rfl)
            (try simp only [Act.put]); (repeat (first | simp only [List.setIfInBounds_toArray] | simp only [List.set_cons_zero] | simp only [List.set_cons_succ]))
            refine tkYN (v := ?_) 13 hH rfl (fun _ _ _ h => h) ?hc ?hw ?hy ?_
            case hc => decide +kernel
            case hw => rfl
            case hy => (intro w hS; (try dsimp only at hS); go_simp; try with_reducible rfl)
            (try simp only [Act.put]); (repeat (first | simp only [List.setIfInBounds_toArray] | simp only [List.set_cons_zero] | simp only [List.set_cons_succ]))
            refine tkYN (v := ?_) 14 hH rfl (fun _ _ _ h => h) ?hc ?hw ?hy ?_
            case hc => decide +kernel
            case hw => rfl
            case hy => (intro w hS; (try dsimp only at hS); go_simp; try with_reducible rfl)
            (try simp only [Act.put]); (repeat (first | simp only [List.setIfInBounds_toArray] | simp only [List.set_cons_zero] | simp only [List.set_cons_succ]))
            refine tkYN (v := ?_) 15 hH rfl (fun _ _ _ h => h) ?hc ?hw ?hy ?_
            case hc => decide +kernel
            case hw => rfl
            case hy => (intro w hS; (try dsimp only at hS); go_simp; try with_reducible rfl)
            (try simp only [Act.put]); (repeat (first | simp only [List.setIfInBounds_toArray] | simp only [List.set_cons_zero] | simp only [List.set_cons_succ]))
            refine spkN 16 rfl (by decide) ?hr ?hw (fun K' hK => ?_)
            case hr => decide +kernel
            case hw => rfl
            go_simp
            have hb6 := (Below.refl W1.heap.size W1).alloc (Nat.le_refl _) (.cells #[.int .i32 (l[j].id % 7), .int .i32 (l[j].dist % 7)] 21)
            have IW := Lib.hid (I1.out.write hlj)
            have hth := own_there (own_below I1.out.ow hb6) rfl (j * 3 + 1 + 1) 1 (by omega)
            obtain ⟨z0, hz0⟩ := Option.isSome_iff_exists.1 (hth 0 (by omega)).1
            have hf0 := (hth 0 (by omega)).2
            simp only [Nat.add_zero] at hz0 hf0
            clear hth
            try dsimp only
            refine hK.out _ _ ?hS (fun hH' => ?_)
            case hS =>
              exact ⟨below_cells hb6 d0, below_cells hb6 d1⟩
            clear hK K' hH; have hH := hH'; clear hH'; (try simp only [Act.put]); (repeat (first | simp only [List.setIfInBounds_toArray] | simp only [List.set_cons_zero] | simp only [List.set_cons_succ]))
            refine spkN 17 rfl (by decide) ?hr ?hw (fun K' hK => ?_)
            case hr => decide +kernel
            case hw => rfl
            go_simp
            try dsimp only
            refine hK.out _ _ ?hS (fun hH' => ?_)
            case hS =>
              exact ⟨below_cells hb6 d0, below_cells hb6 d1⟩
            clear hK K' hH; have hH := hH'; clear hH'; (try simp only [Act.put]); (repeat (first | simp only [List.setIfInBounds_toArray] | simp only [List.set_cons_zero] | simp only [List.set_cons_succ]))
            refine tkYN (v := ?_) 18 hH rfl (fun _ _ _ h => h) ?hc ?hw ?hy ?_
            case hc => decide +kernel
            case hw => rfl
            case hy => (intro w hS; (try dsimp only at hS); go_simp; try with_reducible rfl)
            (try simp only [Act.put]); (repeat (first | simp only [List.setIfInBounds_toArray] | simp only [List.set_cons_zero] | simp only [List.set_cons_succ]))
            refine spkL rfl ?hr ?hw (fun K' hK => ?_)
            case hr => decide +kernel
            case hw => rfl
            go_simp
            try dsimp only
            refine hK.out _ _ ?_
            clear hK K' hH; (try simp only [Act.put]); (repeat (first | simp only [List.setIfInBounds_toArray] | simp only [List.set_cons_zero] | simp only [List.set_cons_succ]))
            refine anyBut_done (by decide +kernel) ?_ _
            have hjr2 : j < (rs2.set j ⟨l[j].id, l[j].dist, .slice (some ⟨W1.heap.size, 0, none⟩) 2 2⟩).length := by rw [List.length_set]; exact hjr
            have hfl := flat3_get _ j hjr2
            have y0 := own_cell IW.out.ow rfl hfl.1
            have y1 := own_cell IW.out.ow rfl hfl.2.1
            have y2 := own_cell IW.out.ow rfl hfl.2.2
            simp only [List.getElem_set_self] at y0 y1 y2
            have hnum := (IW.out.rw.each j hjr2 (by rw [mixZ_length]; exact hlj)).2.2.1
            simp only [List.getElem_set_self, mixZ_done l j hlj] at hnum
            have GD := Lib.hid (IW.out.good pv.out.1 (by have := pv.out.2; omega))
            have RA := Lib.hid (refAdd _ w1.heap.size 1048576 _ (detZ l[j]) (.slice (some ⟨W1.heap.size, 0, none⟩) 2 2) _ (by omega) GD.out.2 IW.out.rl IW.out.fhi GD.out.1 hnum (by simp [detZ]))
            clear hb6 hz0 hf0 d0 d1 d2 hfl hjr2 hnum
            go_wp2_with fail
            refine RA.out.mono ?_
            rintro e w6 hR
            have AN := Lib.hid (IW.out.added hlj (by rw [det_snoc _ _ _ hlj]; exact hR))
            obtain ⟨rfl, -, -⟩ := hR
            clear y0 y1 y2 RA
            go_wp2_with fail
            go_roundg (l.length - (j + 1))
            case measure => omega
            case rel => exact ⟨j + 1, _, rfl, by omega, by go_num, AN.out⟩
          · obtain rfl : j = l.length := by omega
            obtain ⟨nl, nb, -⟩ := M.out.next I.out.md
            have hws := I.out.md.size
            obtain ⟨qb, cb, rfl⟩ := own_slice nb
            have hit := HitsF.of_own (F := fun k => wo.heap.size ≤ k ∧ k < wr.heap.size) I.out.ow (fun b hb => I.out.ow.lt b hb) (I.out.rw.mono fun k hk => hk.1)
            rw [mixZ_all] at hit
            have hrl := I.out.rl
            rw [List.take_length] at hrl
            obtain ⟨g5, c5, w5, hrun5, hown5, hg5, hat5, -⟩ := run_push rowLists nl (by omega) #[.slice q3 l.length c3] rfl (by simp [Value.oneCell']) (by simp [maxLen]; omega) (by omega)
            have hs5 := hg5.size
            have nb5 := (nb.alloc (.cells #[.slice q3 l.length c3] 22)).kept hg5 (by
              cases hq : (Value.slice qb (partsZ ls0 k).length cb).ownBlock with
              | none => exact .inl rfl
              | some b => exact .inr fun e => M.out.ap b e.symm hq)
            obtain ⟨q7, n7, c7, w7, hrun7, hown7, hg7, -⟩ := run_app rowLists (own_fresh w5 w5.heap.size 22 (.slice q3 l.length c3) (Nat.le_refl _)) (by simp) (SrcAt.of_own (nb5.alloc (.cells #[.slice q3 l.length c3] 22))) (fun u hu => M.out.ones u (List.mem_reverse.1 hu)) (by simp [maxLen]; omega) (by omega)
            have R5 := Lib.hid hrun5
            have R7 := Lib.hid hrun7
            have MP := Lib.hid (M.out.put I.out.md hit (fun k hk => hk) hrl (fun q hq => ⟨by
              rcases hq with h | h
              · exact .inl h
              · exact .inr h.1.1, I.out.fhi q hq⟩) (by simp; omega) (by omega) det_vec (by omega) hown5 rfl hg5 hat5 hown7 hg7)
            have b5 : Below w2.heap.size wr w5 := ((Below.refl _ wr).alloc (by omega) _).grown hg5 (by simp; omega) (fun b hb => (nl.lt b hb).1)
            have b7 : Below w5.heap.size w5 w7 := ((Below.refl _ w5).alloc (Nat.le_refl _) _).grown hg7 (by simp) (fun b hb => by cases hb; exact Nat.le_refl _)
            have hs7 := b7.size
            have hs55 := b5.size
            have b37 := b5.trans (b7.mono (by omega))
            have hBW := Lib.hid (BW.out.trans ((I.out.md.below (B := w.heap.size) (by omega) (fun q hq => by omega)).trans (b37.mono (by omega))))
            have hW7 : w2.heap.size ≤ w7.heap.size := by omega
            clear b5 b7 b37 hs7 hs55 hs5
            clear nl nb hit hrl hrun5 hown5 hg5 hat5 nb5 hrun7 hown7 hg7 hpl
            go_wp2_with (first | refine wpList_append_eq R5.out rfl _ _ rfl rfl rfl ?_ | refine wpList_append_eq R7.out rfl _ _ rfl rfl rfl ?_)
            go_roundg (ls0.length - (k + 1))
            case measure => omega
            case rel => exact ⟨k + 1, _, _, _, rfl, by omega, by omega, by go_num, by rw [PS.out]; exact MP.out, hBW.out, hW7⟩
      · have g6 : decide ((6 : Int) ≤ (k : Int)) = true := decide_eq_true (by omega)
        obtain ⟨b, off, q, qc, rfl, c0, -⟩ := H.out.elem hlt
        replace c0 := below_cells BW.out c0
        clear h6
        have GL := Lib.hid (addsZ_good (most := 1048576) (by omega) (GoodL.nil _) (partsZ ls0 k).flatten M.out.fvec)
        have HL : Hid ((addsZ 1048576 [] (partsZ ls0 k).flatten).2.length ≤ 1000000) := Nat.le_trans (adds_len 1048576 _) (Nat.le_trans M.out.flat (by omega))
        have RA := Lib.hid (refAll FX w1.heap.size 1048576 1048576 _ wr M.out.rl GL.out HL.out)
        have MZ := Lib.hid (merged M.out hn1 (by
          intro x hx y hy h1 h2
          have e : (partsZ ls0 k).flatten = ((ls0.take k).flatMap (hitsZ 12)).map detZ := by
            simp [partsZ, List.flatMap, List.map_flatten, Function.comp_def]
          rw [e] at hx hy
          exact det_det x hx y hy h1 h2))
        go_wp2_with fail
        refine RA.out.mono ?_
        rintro e wx ⟨vx, rfl, hx, hbx⟩
        obtain ⟨px, cx, rfl, hcx, hbg, -, -⟩ := id hx
        have BX := Lib.hid (And.intro hx hbx)
        have sx := hbx.size
        have LV := Lib.hid (M.out.vec)
        have L12 := Lib.hid (M.out.l12)
        have LI := Lib.hid M.out.lists
        clear hx hbx RA
        have HLo := HL.out
        generalize (addsZ 1048576 [] (partsZ ls0 k).flatten).2 = L at *
        generalize partsZ ls0 k = ls at *
        have hL0 : (0 : Int) ≤ (L.length : Int) := by omega
        have hL1 : (L.length : Int) ≤ (cx : Int) := by omega
        by_cases c1 : (n : Int) < (L.length : Int)
        · have hn0 : (0 : Int) ≤ (n : Int) := by omega
          have hn3 : (n : Int) ≤ (cx : Int) := by omega
          have WA := Lib.hid (BX.out.1.front (k := n) (by omega))
          have LX := Lib.hid (And.intro (LI.out.1.keep BX.out.2) (LI.out.2.keep BX.out.2))
          have LV2 := Lib.hid (And.intro LV.out L12.out)
          have MG := Lib.hid (merge n hn1 (by omega) ls _ _ wx LX.out.1 (fun k hk => hk.2) (fun ms hm => ⟨by have := L12.out ms hm; omega, LV.out ms hm⟩))
          go_wp2_with fail
          refine MG.out.mono ?_
          rintro e wm ⟨vm, rfl, hm, hbm⟩
          rw [MZ.out.1] at hm
          have S1 := Lib.hid (sameHits_self _ _ (L.take n) vm _ wm hm (WA.out.below hbm))
          have BM := Lib.hid hbm
          clear hm hbm MG
          go_wp2_with fail
          refine S1.out.mono ?_
          rintro e ws ⟨rfl, hds⟩
          have BS := Lib.hid (BM.out.trans (hds.below.mono BM.out.size))
          have MG2 := Lib.hid (merge n hn1 (by omega) ls.reverse _ _ ws (LX.out.2.keep BS.out) (fun k hk => hk.2) (fun ms hm => ⟨by have := L12.out ms (List.mem_reverse.1 hm); omega, LV.out ms (List.mem_reverse.1 hm)⟩))
          clear hds S1
          go_wp2_with fail
          refine MG2.out.mono ?_
          rintro e wt ⟨vt, rfl, ht, hbt⟩
          rw [MZ.out.2] at ht
          have BT := Lib.hid (BS.out.trans (hbt.mono BS.out.size))
          have S2 := Lib.hid (sameHits_self _ _ (L.take n) vt _ wt ht (WA.out.below BT.out))
          clear ht hbt MG2
          go_wp2_with fail
          refine S2.out.mono ?_
          rintro e wu ⟨rfl, hdu⟩
          have BU := Lib.hid (BT.out.trans (hdu.below.mono BT.out.size))
          have ZM := Lib.hid (merge_zero ls _ _ wu (LX.out.1.keep BU.out))
          clear hdu S2
          go_wp2_with fail
          refine ZM.out.mono ?_
          rintro e wv ⟨qv, cv, rfl, hbv⟩
          have BV := Lib.hid (BW.out.trans ((BX.out.2.trans ((BU.out.trans (hbv.mono BU.out.size)).mono sx)).mono BW.out.size))
          clear hbv ZM
          go_wp2_with fail
          go_ret
          exact ⟨rfl, BV.out⟩
        · have WA := Lib.hid (BX.out.1.front (k := L.length) (by omega))
          rw [show L.take L.length = L.take n from by rw [List.take_length, List.take_of_length_le (by omega)]] at WA
          have LX := Lib.hid (And.intro (LI.out.1.keep BX.out.2) (LI.out.2.keep BX.out.2))
          have LV2 := Lib.hid (And.intro LV.out L12.out)
          have MG := Lib.hid (merge n hn1 (by omega) ls _ _ wx LX.out.1 (fun k hk => hk.2) (fun ms hm => ⟨by have := L12.out ms hm; omega, LV.out ms hm⟩))
          go_wp2_with fail
          refine MG.out.mono ?_
          rintro e wm ⟨vm, rfl, hm, hbm⟩
          rw [MZ.out.1] at hm
          have S1 := Lib.hid (sameHits_self _ _ (L.take n) vm _ wm hm (WA.out.below hbm))
          have BM := Lib.hid hbm
          clear hm hbm MG
          go_wp2_with fail
          refine S1.out.mono ?_
          rintro e ws ⟨rfl, hds⟩
          have BS := Lib.hid (BM.out.trans (hds.below.mono BM.out.size))
          have MG2 := Lib.hid (merge n hn1 (by omega) ls.reverse _ _ ws (LX.out.2.keep BS.out) (fun k hk => hk.2) (fun ms hm => ⟨by have := L12.out ms (List.mem_reverse.1 hm); omega, LV.out ms (List.mem_reverse.1 hm)⟩))
          clear hds S1
          go_wp2_with fail
          refine MG2.out.mono ?_
          rintro e wt ⟨vt, rfl, ht, hbt⟩
          rw [MZ.out.2] at ht
          have BT := Lib.hid (BS.out.trans (hbt.mono BS.out.size))
          have S2 := Lib.hid (sameHits_self _ _ (L.take n) vt _ wt ht (WA.out.below BT.out))
          clear ht hbt MG2
          go_wp2_with fail
          refine S2.out.mono ?_
          rintro e wu ⟨rfl, hdu⟩
          have BU := Lib.hid (BT.out.trans (hdu.below.mono BT.out.size))
          have ZM := Lib.hid (merge_zero ls _ _ wu (LX.out.1.keep BU.out))
          clear hdu S2
          go_wp2_with fail
          refine ZM.out.mono ?_
          rintro e wv ⟨qv, cv, rfl, hbv⟩
          have BV := Lib.hid (BW.out.trans ((BX.out.2.trans ((BU.out.trans (hbv.mono BU.out.size)).mono sx)).mono BW.out.size))
          clear hbv ZM
          go_wp2_with fail
          go_ret
          exact ⟨rfl, BV.out⟩
    · have hkl : k = ls0.length := by omega
      subst hkl
      have GL := Lib.hid (addsZ_good (most := 1048576) (by omega) (GoodL.nil _) (partsZ ls0 ls0.length).flatten M.out.fvec)
      have HL : Hid ((addsZ 1048576 [] (partsZ ls0 ls0.length).flatten).2.length ≤ 1000000) := Nat.le_trans (adds_len 1048576 _) (Nat.le_trans M.out.flat (by omega))
      have RA := Lib.hid (refAll FX w1.heap.size 1048576 1048576 _ wr M.out.rl GL.out HL.out)
      have MZ := Lib.hid (merged M.out hn1 (by
        intro x hx y hy h1 h2
        have e : (partsZ ls0 ls0.length).flatten = ((ls0.take ls0.length).flatMap (hitsZ 12)).map detZ := by
          simp [partsZ, List.flatMap, List.map_flatten, Function.comp_def]
        rw [e] at hx hy
        exact det_det x hx y hy h1 h2))
      go_wp2_with fail
      refine RA.out.mono ?_
      rintro e wx ⟨vx, rfl, hx, hbx⟩
      obtain ⟨px, cx, rfl, hcx, hbg, -, -⟩ := id hx
      have BX := Lib.hid (And.intro hx hbx)
      have sx := hbx.size
      have LV := Lib.hid (M.out.vec)
      have L12 := Lib.hid (M.out.l12)
      have LI := Lib.hid M.out.lists
      clear hx hbx RA
      have HLo := HL.out
      generalize (addsZ 1048576 [] (partsZ ls0 ls0.length).flatten).2 = L at *
      generalize partsZ ls0 ls0.length = ls at *
      have hL0 : (0 : Int) ≤ (L.length : Int) := by omega
      have hL1 : (L.length : Int) ≤ (cx : Int) := by omega
      by_cases c1 : (n : Int) < (L.length : Int)
      · have hn0 : (0 : Int) ≤ (n : Int) := by omega
        have hn3 : (n : Int) ≤ (cx : Int) := by omega
        have WA := Lib.hid (BX.out.1.front (k := n) (by omega))
        have LX := Lib.hid (And.intro (LI.out.1.keep BX.out.2) (LI.out.2.keep BX.out.2))
        have LV2 := Lib.hid (And.intro LV.out L12.out)
        have MG := Lib.hid (merge n hn1 (by omega) ls _ _ wx LX.out.1 (fun k hk => hk.2) (fun ms hm => ⟨by have := L12.out ms hm; omega, LV.out ms hm⟩))
        go_wp2_with fail
        refine MG.out.mono ?_
        rintro e wm ⟨vm, rfl, hm, hbm⟩
        rw [MZ.out.1] at hm
        have S1 := Lib.hid (sameHits_self _ _ (L.take n) vm _ wm hm (WA.out.below hbm))
        have BM := Lib.hid hbm
        clear hm hbm MG
        go_wp2_with fail
        refine S1.out.mono ?_
        rintro e ws ⟨rfl, hds⟩
        have BS := Lib.hid (BM.out.trans (hds.below.mono BM.out.size))
        have MG2 := Lib.hid (merge n hn1 (by omega) ls.reverse _ _ ws (LX.out.2.keep BS.out) (fun k hk => hk.2) (fun ms hm => ⟨by have := L12.out ms (List.mem_reverse.1 hm); omega, LV.out ms (List.mem_reverse.1 hm)⟩))
        clear hds S1
        go_wp2_with fail
        refine MG2.out.mono ?_
        rintro e wt ⟨vt, rfl, ht, hbt⟩
        rw [MZ.out.2] at ht
        have BT := Lib.hid (BS.out.trans (hbt.mono BS.out.size))
        have S2 := Lib.hid (sameHits_self _ _ (L.take n) vt _ wt ht (WA.out.below BT.out))
        clear ht hbt MG2
        go_wp2_with fail
        refine S2.out.mono ?_
        rintro e wu ⟨rfl, hdu⟩
        have BU := Lib.hid (BT.out.trans (hdu.below.mono BT.out.size))
        have ZM := Lib.hid (merge_zero ls _ _ wu (LX.out.1.keep BU.out))
        clear hdu S2
        go_wp2_with fail
        refine ZM.out.mono ?_
        rintro e wv ⟨qv, cv, rfl, hbv⟩
        have BV := Lib.hid (BW.out.trans ((BX.out.2.trans ((BU.out.trans (hbv.mono BU.out.size)).mono sx)).mono BW.out.size))
        clear hbv ZM
        go_wp2_with fail
        go_ret
        exact ⟨rfl, BV.out⟩
      · have WA := Lib.hid (BX.out.1.front (k := L.length) (by omega))
        rw [show L.take L.length = L.take n from by rw [List.take_length, List.take_of_length_le (by omega)]] at WA
        have LX := Lib.hid (And.intro (LI.out.1.keep BX.out.2) (LI.out.2.keep BX.out.2))
        have LV2 := Lib.hid (And.intro LV.out L12.out)
        have MG := Lib.hid (merge n hn1 (by omega) ls _ _ wx LX.out.1 (fun k hk => hk.2) (fun ms hm => ⟨by have := L12.out ms hm; omega, LV.out ms hm⟩))
        go_wp2_with fail
        refine MG.out.mono ?_
        rintro e wm ⟨vm, rfl, hm, hbm⟩
        rw [MZ.out.1] at hm
        have S1 := Lib.hid (sameHits_self _ _ (L.take n) vm _ wm hm (WA.out.below hbm))
        have BM := Lib.hid hbm
        clear hm hbm MG
        go_wp2_with fail
        refine S1.out.mono ?_
        rintro e ws ⟨rfl, hds⟩
        have BS := Lib.hid (BM.out.trans (hds.below.mono BM.out.size))
        have MG2 := Lib.hid (merge n hn1 (by omega) ls.reverse _ _ ws (LX.out.2.keep BS.out) (fun k hk => hk.2) (fun ms hm => ⟨by have := L12.out ms (List.mem_reverse.1 hm); omega, LV.out ms (List.mem_reverse.1 hm)⟩))
        clear hds S1
        go_wp2_with fail
        refine MG2.out.mono ?_
        rintro e wt ⟨vt, rfl, ht, hbt⟩
        rw [MZ.out.2] at ht
        have BT := Lib.hid (BS.out.trans (hbt.mono BS.out.size))
        have S2 := Lib.hid (sameHits_self _ _ (L.take n) vt _ wt ht (WA.out.below BT.out))
        clear ht hbt MG2
        go_wp2_with fail
        refine S2.out.mono ?_
        rintro e wu ⟨rfl, hdu⟩
        have BU := Lib.hid (BT.out.trans (hdu.below.mono BT.out.size))
        have ZM := Lib.hid (merge_zero ls _ _ wu (LX.out.1.keep BU.out))
        clear hdu S2
        go_wp2_with fail
        refine ZM.out.mono ?_
        rintro e wv ⟨qv, cv, rfl, hbv⟩
        have BV := Lib.hid (BW.out.trans ((BX.out.2.trans ((BU.out.trans (hbv.mono BU.out.size)).mono sx)).mono BW.out.size))
        clear hbv ZM
        go_wp2_with fail
        go_ret
        exact ⟨rfl, BV.out⟩

end Go.Proofs.Ytfjhipaoljnfaaa
