/- maze's document: All. -/
import Derived.Test.YtpjbkaibgajpcaaGreatMzP
namespace Go.Proofs.YtpjbkaibgajpcaaGreat
open Go.RowKit Go.ChangeMaps
set_option maxRecDepth 20000

def allV (rs : List Hv) (L : List Hz) (xs : List Int) : List Hv := List.zipWith (fun (r : Hv) (h : Hz) => ⟨h.id, (distR xs h.vec).1, r.vec⟩) rs L

theorem allV_len {rs : List Hv} {L : List Hz} {xs : List Int} (h : rs.length = L.length) : (allV rs L xs).length = rs.length := by
  unfold allV; rw [List.length_zipWith]; omega

theorem allV_get {rs : List Hv} {L : List Hz} {xs : List Int} {j : Nat} (h1 : j < rs.length) (h2 : j < L.length) (h3 : j < (allV rs L xs).length) : (allV rs L xs)[j] = ⟨L[j].id, (distR xs L[j].vec).1, rs[j].vec⟩ := by
  exact List.getElem_zipWith ..

theorem allV_step {rs : List Hv} {L : List Hz} {xs : List Int} {j : Nat} (h1 : j < rs.length) (h2 : j < L.length) : flat3 ((allV rs L xs).take (j + 1)) = flat3 ((allV rs L xs).take j) ++ [.int .u64 L[j].id, .int .u64 (distR xs L[j].vec).1, rs[j].vec] := by
  have h3 : j < (allV rs L xs).length := by unfold allV; rw [List.length_zipWith]; omega
  rw [List.take_succ_eq_append_getElem h3, flat3_append, allV_get h1 h2 h3]
  rfl

theorem allV_rows {w : World} {B E : Nat} {rs : List Hv} {L : List Hz} (xs : List Int) (h : Held3 w B E rs L) (hE : E = 21) : Rows3 w (fun _ => True) (allV rs L xs) (allN L xs) := by
  subst hE
  have hl := h.len
  refine ⟨by rw [allV_len hl]; unfold allN; rw [List.length_map]; exact hl, fun i h1 h2 => ?_⟩
  have h3 : i < rs.length := by rw [allV_len hl] at h1; exact h1
  have h4 : i < L.length := by omega
  rw [allV_get h3 h4 h1]
  have e : (allN L xs)[i] = ⟨L[i].id, (distR xs L[i].vec).1, L[i].vec⟩ := List.getElem_map ..
  rw [e]
  exact ⟨rfl, rfl, Nums.of_own (h.own i h3 h4).2, fun _ _ _ => trivial⟩

theorem allN_ids {L : List Hz} (xs : List Int) (h : (L.map (·.id)).Nodup) : Ids (allN L xs) := by
  unfold Ids allN
  rw [List.pairwise_map]
  unfold List.Nodup at h
  rw [List.pairwise_map] at h
  exact h

def AllTells (w : World) (R : List Hz) (e : Ending) (w' : World) : Prop := ∃ u F, e = .returned u ∧ HitsF w' F u R ∧ Below w.heap.size w w'

set_option maxRecDepth 100000 in
set_option maxHeartbeats 8000000 in
theorem rAll {B : Nat} {w : World} {x c : Nat} {dim : Int} {vn ve lv : Value} {rs : List Hv} {s : Mz} (h : RzAt B w x c dim vn ve lv rs s) (ok : OkM dim s) (hL : s.L.length ≤ 900) (v : Value) (xs : List Int) (hv : Nums w .i32 v xs) (R : List Hz) (hA : AllM s xs R) :
    Calls Tryz.prog 29 #[.pointer (some ⟨x, 0, none⟩), v] w (AllTells w R) := by
  have hlr : rs.length = s.L.length := h.held.len
  obtain ⟨lp, ln, lc, hlv⟩ := own_form h.row
  subst hlv
  obtain rfl : ln = rs.length := own_len h.row
  have x2 := cellsB h.cell 2
  have H := Lib.hid h
  have V := Lib.hid hv
  obtain ⟨vq, vc, rfl, -, -, -, -⟩ := hv.slice
  have AM := Lib.hid hA
  have OK := Lib.hid ok
  have HLR := Lib.hid hlr
  obtain ⟨n, hn⟩ : ∃ n, n = rs.length := ⟨_, rfl⟩
  rw [← hn] at x2
  have hn9 : n ≤ 900 := by omega
  have NN := Lib.hid hn
  have hl63 : n ≤ 9223372036854775807 := by omega
  clear h hv hA ok hlr hn hL
  go_enter Tryz.func29, Tryz.ntmps29
  go_wp2_with fail
  go_loopg [5, 15] n (fun q' wv0 i wr => ∃ (j : Nat) (wv : Value), q' = n - j ∧ j ≤ n ∧ i = .int .i64 j ∧ wv = wv0 ∧ wr.ownsRow w.heap.size 38 3 wv j (flat3 ((allV rs s.L xs).take j)) ∧ Below w.heap.size w wr)
  case atStart => exact ⟨0, _, rfl, by omega, rfl, rfl, by simpa [flat3] using World.ownsRow_nil _ _ _ _, Below.refl _ _⟩
  case round =>
    obtain ⟨j, wv, rfl, hj, rfl, rfl, hown, hbr⟩ := hrel
    by_cases hlt : j < n
    · have j1 : j < rs.length := by have := NN.out; omega
      have j2 : j < s.L.length := by have := HLR.out; omega
      have ho := own_below H.out.row hbr
      obtain ⟨g, cg, hv, -, -⟩ := ho.form (by omega)
      obtain ⟨rfl, -, rfl⟩ := Value.slice.inj hv
      have hf := flat3_get rs j j1
      have e0 := own_cell ho rfl hf.1
      have e1 := own_cell ho rfl hf.2.1
      have e2 := own_cell ho rfl hf.2.2
      obtain ⟨⟨hid, -⟩, hvec⟩ := H.out.held.own j j1 j2
      have hst := allV_step (xs := xs) j1 j2
      obtain ⟨up, un, uc, hu⟩ := own_form hvec
      rw [hu] at e2 hvec hst
      obtain ⟨yi, hyi⟩ : ∃ z, z = s.L[j].id := ⟨_, rfl⟩
      rw [hid, ← hyi] at e0
      obtain ⟨yd, hyd⟩ : ∃ z, z = rs[j].dist := ⟨_, rfl⟩
      rw [← hyd] at e1
      obtain ⟨W2, hW2⟩ : ∃ W2, W2 = wr.alloc (.cells #[.int .u64 yi, .int .u64 yd, .slice up un uc] 38) := ⟨_, rfl⟩
      have hb2 : Below wr.heap.size wr W2 := by rw [hW2]; exact (Below.refl _ _).alloc (Nat.le_refl _) _
      have y2 : W2.heap[wr.heap.size]? = some (.cells #[.int .u64 yi, .int .u64 yd, .slice up un uc] 38 (0, 0)) := by rw [hW2]; exact heap_alloc_new _ _
      have BW2 := Lib.hid (hbr.trans (hb2.mono hbr.size))
      have n2 := own_below hvec BW2.out
      have cD := Lib.hid (refDist xs s.L[j].vec (.slice vq xs.length vc) (.slice up un uc) W2 (V.out.below BW2.out) (Nums.of_own n2))
      obtain ⟨dd, hdd⟩ : ∃ d, d = distR xs s.L[j].vec := ⟨_, rfl⟩
      rw [← hdd] at cD
      rw [← hdd, ← hyi] at hst
      have ST := Lib.hid hst
      have HW := Lib.hid hW2
      have Y2 := Lib.hid y2
      have OW := Lib.hid (And.intro hown (And.intro hbr hb2))
      clear hown hbr ho hv hf hid hvec hst hu hyi hyd hW2 hb2 y2 n2 hdd j1 j2
      obtain ⟨t, ht⟩ : ∃ t, t = wr.heap.size := ⟨_, rfl⟩
      rw [← ht] at Y2
      go_wp2_with fail
      rw [← HW.out]
      (with_reducible refine cD.out.mono ?_)
      rintro e w3 ⟨rfl, hb3⟩
      obtain ⟨d, hd⟩ : ∃ d, d = dd.1 := ⟨_, rfl⟩
      obtain ⟨d2, hd2⟩ : ∃ d, d = dd.2 := ⟨_, rfl⟩
      rw [← hd] at ST
      rw [← hd, ← hd2]
      have y3 := (hb3.block _ (lt_block Y2.out)).trans Y2.out
      have t0 := cellsB y3 0
      have t2 := cellsB y3 2
      have hbr3 : Below wr.heap.size wr w3 := OW.out.2.2.trans (hb3.mono OW.out.2.2.size)
      have hws : wr.heap.size ≤ w3.heap.size := hbr3.size
      obtain ⟨g9, cp, w9, hrun, hown9, hg9, -, -⟩ := run_push rowHit (own_below OW.out.1 hbr3) (by have := OW.out.2.1.size; omega) #[.int .u64 yi, .int .u64 d, .slice up un uc] rfl (by simp [Value.oneCell']) (by simp [maxLen]; omega) (by omega)
      have OW9 := Lib.hid (show w9.ownsRow w.heap.size 38 3 (.slice (some ⟨g9, 0, none⟩) (j + 1) cp) (j + 1) (flat3 ((allV rs s.L xs).take (j + 1))) ∧ Below w.heap.size w w9 from by
        refine ⟨?_, ?_⟩
        · rw [ST.out]; exact hown9
        · have b1 := OW.out.2.1.trans (hbr3.mono OW.out.2.1.size)
          have b2 := b1.alloc (by have := b1.size; omega : w.heap.size ≤ w3.heap.size) (.cells #[.int .u64 yi, .int .u64 d, .slice up un uc] 38)
          exact b2.grown hg9 (by have := b1.size; simp; omega) fun b hb => (OW.out.1.lt b hb).1)
      rw [← ht]
      clear hb3 hd hd2 hown9 hg9 y3 hbr3 ht
      go_wp2_with (with_reducible refine wpList_append_eq hrun rfl _ _ rfl rfl rfl ?_)
      go_roundg (n - (j + 1))
      case measure => omega
      case rel => exact ⟨j + 1, _, rfl, by omega, by go_num, rfl, OW9.out.1, OW9.out.2⟩
    · obtain rfl : j = n := by omega
      have hfull : (allV rs s.L xs).take j = allV rs s.L xs := List.take_of_length_le (by rw [allV_len HLR.out, ← NN.out]; exact Nat.le_refl _)
      rw [hfull] at hown
      have hH : HitsF wr (fun _ => True) wv (allN s.L xs) := HitsF.of_own hown (fun _ _ => trivial) (allV_rows xs (H.out.below hbr).held rfl)
      have cS := Lib.hid (sortT _ R AM.out.sorted (allN_ids xs OK.out.once) AM.out.perm (by unfold allN; rw [List.length_map]; have := HLR.out; have := NN.out; omega) wv _ wr hH)
      have BR := Lib.hid hbr
      obtain ⟨wp, wn, wc, rfl⟩ := own_form hown
      clear hown hbr hH hfull
      go_wp2_with fail
      (with_reducible refine cS.out.mono ?_)
      rintro e w8 ⟨v8, rs8, rfl, ho8, hr8, hb8⟩
      have FIN := Lib.hid (show HitsF w8 (fun _ => True) v8 R ∧ Below w.heap.size w w8 from ⟨HitsF.of_own ho8 (fun _ _ => trivial) (hr8.mono fun _ _ => trivial), BR.out.trans (hb8.mono BR.out.size)⟩)
      obtain ⟨p8, n8, c8, rfl⟩ := own_form ho8
      clear ho8 hr8 hb8
      go_wp2_with fail
      go_ret
      exact ⟨_, _, rfl, FIN.out.1, FIN.out.2⟩

end Go.Proofs.YtpjbkaibgajpcaaGreat
