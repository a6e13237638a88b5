/-
  gather's document: a result; once more; all are given up; the least stamp.
-/
import Derived.Test.YtfmlhdikagogcaaDoorJ22
import Derived.Test.YtfmlhdikagogcaaDoorJ23
namespace Go.Proofs.YtfmlhdikagogcaaDoor
open Go.RowKit
set_option maxRecDepth 20000


theorem DocF.elem {w : World} {F : Nat → Prop} {p : Option Addr} {n c : Nat} {xs : List (Qs × Dq)} (h : DocF w F (.slice p n c) xs) {i : Nat} (hi : i < xs.length) :
    ∃ b off, p = some ⟨b, off, none⟩ ∧ F b ∧ w.rangeAt b (off + i * 19) (dqCells xs[i]) ∧ DqAt w F xs[i].1 xs[i].2 := by
  obtain ⟨p', cap, hv, h1, h2, h3, h4, h5⟩ := h
  obtain ⟨rfl, rfl, rfl⟩ := Value.slice.inj hv
  rcases h3 with rfl | ⟨b, off, rfl, hb⟩
  · have := h4.nil rfl; omega
  · exact ⟨b, off, rfl, hb, h4.range dqCells_length hi, h5 _ (List.getElem_mem hi)⟩

theorem dresult (who query stamp code : Int) (hits : List Hz) (vh : Value) (G : Nat → Prop) (w : World) (hh : HitsF w G vh hits) (hG : ∀ k, G k → k < w.heap.size) :
    Calls Tryd.prog 51 #[.int .i64 who, .int .u64 query, .int .u64 stamp, .int .i64 code, vh] w (NewMails w 120 G [(who, resN stamp query code hits)]) := by
  obtain ⟨p4, c4, rfl, -, -, -, -⟩ := id hh
  have HH := Lib.hid hh
  have HG := Lib.hid hG
  clear hh hG
  go_enter Tryd.func51, Tryd.ntmps51
  go_wp2_with fail
  go_ret
  have hb : Below w.heap.size w (w.alloc (.cells #[.int .i64 who, .int .u8 11, .int .u64 0, .int .u64 0, .int .u64 stamp, .int .u64 0, .int .u64 0, .int .u64 query, .int .u64 0, .int .i64 0, .int .i64 0, .int .i64 code, .int .i64 0, .slice none 0 0, .slice none 0 0, .slice none 0 0, .slice p4 hits.length c4] 120)) := (Below.refl w.heap.size w).alloc (Nat.le_refl _) _
  refine ⟨_, [⟨who, resN stamp query code hits, .slice none 0 0, .slice none 0 0, .slice none 0 0, .slice p4 hits.length c4⟩], G, rfl, ?_, rfl, ?_, fun k hk => ⟨?_, ?_, .inr hk⟩, hb⟩
  · exact own_fresh w 120 17 1 #[.int .i64 who, .int .u8 11, .int .u64 0, .int .u64 0, .int .u64 stamp, .int .u64 0, .int .u64 0, .int .u64 query, .int .u64 0, .int .i64 0, .int .i64 0, .int .i64 code, .int .i64 0, .slice none 0 0, .slice none 0 0, .slice none 0 0, .slice p4 hits.length c4] rfl (by decide)
  · intro r hr
    rw [List.mem_singleton.1 hr]
    exact ⟨⟨Nums.nil _ _, RecsF.nil _ _, Nums.nil _ _, HH.out.below hb⟩, fun h => absurd h (by simp [resN]), fun h => absurd h (by simp [resN])⟩
  · have h1 := hb.size; have h2 := HG.out k hk; exact Nat.lt_of_lt_of_le h2 h1
  · have h2 := HG.out k hk; intro e; have e2 : some w.heap.size = some k := e; have e3 := Option.some.inj e2; clear hb; omega


set_option maxHeartbeats 4000000 in
theorem dwake (c : Nat) (F : Nat → Prop) (g : Gz) (w : World) (hG : RefG w c F g) (hok : GOk g) :
    Calls Tryd.prog 24 #[.pointer (some ⟨c, 0, none⟩)] w (DTold w c F (fun _ => False) (wakeL g) g) := by
  have RG := Lib.hid hG
  obtain ⟨v, xs, hob, hD, hxs, hlow⟩ := hG
  obtain ⟨p, cap, rfl, hcap, hbig, -, -, -⟩ := id hD
  have hxl : xs.length = g.l.length := by rw [← hxs]; simp
  have hcs := lt_block hob
  have x30 : w.cell? ⟨c, 3, none⟩ = some (.slice p xs.length cap) := by rw [cells_get hob 3]; rfl
  have gk : ∀ j (h : j < xs.length) (h' : j < g.l.length), xs[j].1 = g.l[j] := fun j h h' => by simp only [← hxs, List.getElem_map]
  have HD := Lib.hid hD
  have HX := Lib.hid (And.intro hxs (And.intro hob hlow))
  have GK := Lib.hid gk
  have hl9 : xs.length ≤ 9223372036854775807 := by omega
  have HXL := Lib.hid hxl
  clear hob hD hxs hlow gk hcap hbig hxl
  have OK := Lib.hid hok
  have hl8 : xs.length ≤ 8 := by have := hok.most; have := HXL.out; omega
  clear hok
  go_enter Tryd.func24, Tryd.ntmps24
  go_wp2_with fail
  go_loopg [3, 13] xs.length (fun q out i wr => ∃ (k : Nat) (rs : List Mv) (G : Nat → Prop), q = xs.length - k ∧ k ≤ xs.length ∧ i = .int .i64 k ∧ rs.length ≤ k * 4 ∧ wr.ownsRow w.heap.size 120 17 out rs.length (flatM rs) ∧ rs.map Mv.says = wakeL {g with l := g.l.take k} ∧ MailF wr G rs ∧ (∀ k, G k → k < wr.heap.size ∧ out.ownBlock ≠ some k ∧ (w.heap.size ≤ k ∨ F k)) ∧ Below w.heap.size w wr)
  case atStart => exact ⟨0, [], fun _ => False, rfl, by omega, rfl, Nat.le_refl _, World.ownsRow_nil _ _ _ _, rfl, fun r hr => absurd hr (by simp), fun _ h => h.elim, Below.refl _ _⟩
  case round =>
    obtain ⟨k, rs, G, rfl, hk, rfl, hlen, hown, hsay, hm, hF, HBW⟩ := hrel
    by_cases hlt : k < xs.length
    · obtain ⟨qo, no, co, rfl⟩ := own_form hown
      have O := Lib.hid (And.intro hown (And.intro hsay (And.intro hm (And.intro hF HBW))))
      have LN := Lib.hid hlen
      have hgl : k < g.l.length := by have := HXL.out; omega
      have PL := Lib.hid (show xs[k].1.parts.length ≤ 4 by rw [GK.out k hlt hgl]; exact (OK.out.each _ (List.getElem_mem hgl)).1)
      obtain ⟨bb, off, hpp, -, hrg, hdq⟩ := (HD.out.below HBW).elem hlt
      subst hpp
      obtain ⟨CS, hCS⟩ : ∃ CS : List Value, CS = dqCells xs[k] := ⟨_, rfl⟩
      have LEN : CS.length = 19 := by rw [hCS]; rfl
      have SZ : (Tryd.prog.info? 108).map (·.size) = some CS.length := by rw [LEN]; kernel_rfl
      have SZ' : (Tryd.prog.info? 108).map (·.size) = some CS.toArray.size := by rw [List.size_toArray, LEN]; kernel_rfl
      have RA : wr.rangeAt bb (off + k * 19) CS := by rw [hCS]; exact hrg
      have ONE : CS.toArray.all (·.oneCell') = true := by rw [hCS, Array.all_eq_true_iff_forall_mem]; intro u hu; exact hdq.one u (by simpa using hu)
      have hsz : (#[.int .u8 0, .int .u64 0, .int .u64 0, .int .u64 0, .int .u64 0, .int .u64 0, .int .u64 0, .int .u64 0, .int .i64 0, .int .i64 0, .int .i64 0, .int .i64 0, .slice none 0 0, .slice none 0 0, .slice none 0 0, .slice none 0 0, .int .i64 0, .int .u64 0, .slice none 0 0] : Array Value).size = CS.toArray.size := by rw [show CS.toArray.size = 19 by rw [List.size_toArray, LEN]]; rfl
      obtain ⟨W3, hW3⟩ : ∃ W3, W3 = (wr.alloc (.cells #[.int .u8 0, .int .u64 0, .int .u64 0, .int .u64 0, .int .u64 0, .int .u64 0, .int .u64 0, .int .u64 0, .int .i64 0, .int .i64 0, .int .i64 0, .int .i64 0, .slice none 0 0, .slice none 0 0, .slice none 0 0, .slice none 0 0, .int .i64 0, .int .u64 0, .slice none 0 0] 108)).setRow wr.heap.size CS.toArray := ⟨_, rfl⟩
      have b3 : Below wr.heap.size wr W3 := by rw [hW3]; exact below_setRow ((Below.refl _ _).alloc (Nat.le_refl _) _) (Nat.le_refl _) _
      have y3 : W3.heap[wr.heap.size]? = some (.cells CS.toArray 108 (0, 0)) := by rw [hW3]; exact setRow_heap _ _ _ _ _ _ (heap_alloc_new _ _)
      have Y3 := Lib.hid (And.intro y3 (And.intro hCS (hdq.below b3)))
      have x3 : W3.cell? ⟨wr.heap.size, 3, none⟩ = some (.int .u64 xs[k].1.note.stamp) := by rw [cells_get y3 3, List.getElem?_toArray, hCS]; rfl
      have x6 : W3.cell? ⟨wr.heap.size, 6, none⟩ = some (.int .u64 xs[k].1.note.query) := by rw [cells_get y3 6, List.getElem?_toArray, hCS]; rfl
      have x16 : W3.cell? ⟨wr.heap.size, 16, none⟩ = some (.int .i64 xs[k].1.who) := by rw [cells_get y3 16, List.getElem?_toArray, hCS]; rfl
      have x17 : W3.cell? ⟨wr.heap.size, 17, none⟩ = some (.int .u64 xs[k].1.query) := by rw [cells_get y3 17, List.getElem?_toArray, hCS]; rfl
      have HW3 := Lib.hid hW3
      have HB3 := Lib.hid b3
      have hs3 := b3.size
      clear hW3 hrg hdq hCS y3 b3
      go_upto_region 6 with (first | refine wpList_load_mid rfl 108 _ rfl bb (off + k * 19) (by rfl) CS _ RA Tryd.underlying108 rfl SZ ?_ | refine wpList_store_row rfl 108 _ _ rfl wr.heap.size CS.toArray (by rfl) (by rfl) 108 #[.int .u8 0, .int .u64 0, .int .u64 0, .int .u64 0, .int .u64 0, .int .u64 0, .int .u64 0, .int .u64 0, .int .i64 0, .int .i64 0, .int .i64 0, .int .i64 0, .slice none 0 0, .slice none 0 0, .slice none 0 0, .slice none 0 0, .int .i64 0, .int .u64 0, .slice none 0 0] (heap_alloc_new _ _) SZ' hsz ONE ?_)
      rw [← HW3.out]
      clear RA SZ' hsz ONE
      clear x3 x6 x16 x17 hown hsay hm hF HBW hlen
      have b03 := Lib.hid (O.out.2.2.2.2.trans (HB3.out.mono O.out.2.2.2.2.size))
      have RS := Lib.hid (dlooks xs[k].1 xs[k].2 F W3 Y3.out.2.2 (fun j hj => Nat.lt_of_lt_of_le (HX.out.2.2 j hj).1 b03.out.size) (by have := PL.out; omega))
      rw [← Y3.out.2.1] at RS
      have y3 := Y3.out.1
      have SZ3 : (Tryd.prog.info? 108).map (·.size) = some CS.toArray.size := by rw [List.size_toArray]; exact SZ
      go_wp2_with (refine wpList_load_row rfl 108 _ rfl wr.heap.size (by rfl) 108 CS.toArray (0, 0) _ y3 Tryd.underlying108 rfl SZ3 ?_)
      with_reducible refine RS.out.mono ?_
      rintro e w4 ⟨v4, rs4, G4, rfl, ho4, hs4, hm4, hG4, hb4⟩
      obtain ⟨q4, n4, c4, rfl⟩ := own_form ho4
      have h41 : rs4.length ≤ 4 := by have := congrArg List.length hs4; simp only [List.length_map, looksZ] at this; have h2 := List.length_filter_le (fun p => !hasTold xs[k].1.told p) xs[k].1.parts; have := PL.out; omega
      have hb34 := HB3.out.trans (hb4.mono HB3.out.size)
      obtain ⟨q5, n5, c5, w5, hrun, hown5, hg5, hat5⟩ := run_app rowMailR (own_below O.out.1 hb34) (by have := hb4.size; have := O.out.2.2.2.2.size; omega) (SrcAt.of_own ho4) hm4.one (by have := LN.out; simp [maxLen]; omega) (by have := LN.out; omega)
      obtain rfl : n4 = rs4.length := own_len ho4
      have A := Lib.hid (mails_app (R := F) O.out.1 O.out.2.2.1 O.out.2.2.2.1 O.out.2.2.2.2 (fun j hj => (HX.out.2.2 j hj).1) hm4 (fun k hk => ⟨(hG4 k hk).1, (hG4 k hk).2.2.imp (fun h => Nat.le_trans hs3 h) id⟩) hb34 hown5 hg5 hat5)
      have S4 := Lib.hid (And.intro hs4 h41)
      clear ho4 hs4 hm4 hG4 hb4 hb34 hown5 hg5 hat5 h41
      go_wp2_with (with_reducible refine wpList_append_eq hrun rfl _ _ rfl rfl rfl ?_)
      go_roundg (xs.length - (k + 1))
      case measure => omega
      case rel =>
        obtain ⟨G', a1, a2, a3, a4⟩ := A.out
        exact ⟨k + 1, rs ++ rs4, G', rfl, by omega, by go_num, by have := LN.out; have := S4.out.2; simp; omega, a1, by rw [List.map_append, O.out.2.1, S4.out.1, wake_take g k hgl, GK.out k hlt hgl], a2, a3, a4⟩
    · obtain rfl : k = xs.length := by omega
      obtain ⟨qo, no, co, rfl⟩ := own_form hown
      have O := Lib.hid (And.intro hown (And.intro hsay (And.intro hm (And.intro hF HBW))))
      clear hown hsay hm hF HBW hlen
      go_wp2_with fail
      go_ret
      obtain ⟨hown, hsay, hm, hF, hb⟩ := O.out
      exact ⟨_, rs, G, F, rfl, hown, by rw [hsay, HXL.out, List.take_length], hm, fun k hk => (hF k hk).1, RG.out.below hb, Mod.of_below hb, fun _ h => .inl h⟩

theorem dwake_nil (w : World) :
    Calls Tryd.prog 24 #[.pointer none] w fun e w' => e = .returned (.slice none 0 0) ∧ w = w' := by
  go_enter Tryd.func24, Tryd.ntmps24
  go_wp2_with fail
  go_ret
  exact ⟨rfl, rfl⟩

set_option maxHeartbeats 4000000 in
theorem dquit (c : Nat) (F : Nat → Prop) (g : Gz) (w : World) (hG : RefG w c F g) (hl : g.l.length ≤ 1000) :
    Calls Tryd.prog 25 #[.pointer (some ⟨c, 0, none⟩)] w (DTold w c F (fun _ => False) (quitL g) {g with l := []}) := by
  have RG := Lib.hid hG
  obtain ⟨v, xs, hob, hD, hxs, hlow⟩ := hG
  obtain ⟨p, cap, rfl, hcap, hbig, -, -, -⟩ := id hD
  have hxl : xs.length = g.l.length := by rw [← hxs]; simp
  have hcs := lt_block hob
  have x30 : w.cell? ⟨c, 3, none⟩ = some (.slice p xs.length cap) := by rw [cells_get hob 3]; rfl
  have gk : ∀ j (h : j < xs.length) (h' : j < g.l.length), xs[j].1 = g.l[j] := fun j h h' => by simp only [← hxs, List.getElem_map]
  have HD := Lib.hid hD
  have HX := Lib.hid (And.intro hxs (And.intro hob hlow))
  have GK := Lib.hid gk
  have hl9 : xs.length ≤ 9223372036854775807 := by omega
  have HXL := Lib.hid hxl
  clear hob hD hxs hlow gk hcap hbig hxl
  have hl8 : xs.length ≤ 1000 := by have := HXL.out; omega
  clear hl
  go_enter Tryd.func25, Tryd.ntmps25
  go_wp2_with fail
  go_loopg [3, 13] xs.length (fun q out i wr => ∃ (k : Nat) (rs : List Mv) (G : Nat → Prop), q = xs.length - k ∧ k ≤ xs.length ∧ i = .int .i64 k ∧ rs.length = k ∧ wr.ownsRow w.heap.size 120 17 out rs.length (flatM rs) ∧ rs.map Mv.says = quitL {g with l := g.l.take k} ∧ MailF wr G rs ∧ (∀ k, G k → k < wr.heap.size ∧ out.ownBlock ≠ some k ∧ (w.heap.size ≤ k ∨ False)) ∧ Below w.heap.size w wr)
  case atStart => exact ⟨0, [], fun _ => False, rfl, by omega, rfl, rfl, World.ownsRow_nil _ _ _ _, rfl, fun r hr => absurd hr (by simp), fun _ h => h.elim, Below.refl _ _⟩
  case round =>
    obtain ⟨k, rs, G, rfl, hk, rfl, hlen, hown, hsay, hm, hF, HBW⟩ := hrel
    by_cases hlt : k < xs.length
    · obtain ⟨qo, no, co, rfl⟩ := own_form hown
      have O := Lib.hid (And.intro hown (And.intro hsay (And.intro hm (And.intro hF HBW))))
      have LN := Lib.hid hlen
      have hgl : k < g.l.length := by have := HXL.out; omega
      obtain ⟨bb, off, hpp, -, hrg, hdq⟩ := (HD.out.below HBW).elem hlt
      subst hpp
      obtain ⟨CS, hCS⟩ : ∃ CS : List Value, CS = dqCells xs[k] := ⟨_, rfl⟩
      have LEN : CS.length = 19 := by rw [hCS]; rfl
      have SZ : (Tryd.prog.info? 108).map (·.size) = some CS.length := by rw [LEN]; kernel_rfl
      have SZ' : (Tryd.prog.info? 108).map (·.size) = some CS.toArray.size := by rw [List.size_toArray, LEN]; kernel_rfl
      have RA : wr.rangeAt bb (off + k * 19) CS := by rw [hCS]; exact hrg
      have ONE : CS.toArray.all (·.oneCell') = true := by rw [hCS, Array.all_eq_true_iff_forall_mem]; intro u hu; exact hdq.one u (by simpa using hu)
      have hsz : (#[.int .u8 0, .int .u64 0, .int .u64 0, .int .u64 0, .int .u64 0, .int .u64 0, .int .u64 0, .int .u64 0, .int .i64 0, .int .i64 0, .int .i64 0, .int .i64 0, .slice none 0 0, .slice none 0 0, .slice none 0 0, .slice none 0 0, .int .i64 0, .int .u64 0, .slice none 0 0] : Array Value).size = CS.toArray.size := by rw [show CS.toArray.size = 19 by rw [List.size_toArray, LEN]]; rfl
      obtain ⟨W3, hW3⟩ : ∃ W3, W3 = (wr.alloc (.cells #[.int .u8 0, .int .u64 0, .int .u64 0, .int .u64 0, .int .u64 0, .int .u64 0, .int .u64 0, .int .u64 0, .int .i64 0, .int .i64 0, .int .i64 0, .int .i64 0, .slice none 0 0, .slice none 0 0, .slice none 0 0, .slice none 0 0, .int .i64 0, .int .u64 0, .slice none 0 0] 108)).setRow wr.heap.size CS.toArray := ⟨_, rfl⟩
      have b3 : Below wr.heap.size wr W3 := by rw [hW3]; exact below_setRow ((Below.refl _ _).alloc (Nat.le_refl _) _) (Nat.le_refl _) _
      have y3 : W3.heap[wr.heap.size]? = some (.cells CS.toArray 108 (0, 0)) := by rw [hW3]; exact setRow_heap _ _ _ _ _ _ (heap_alloc_new _ _)
      have Y3 := Lib.hid (And.intro y3 (And.intro hCS (hdq.below b3)))
      have x3 : W3.cell? ⟨wr.heap.size, 3, none⟩ = some (.int .u64 xs[k].1.note.stamp) := by rw [cells_get y3 3, List.getElem?_toArray, hCS]; rfl
      have x6 : W3.cell? ⟨wr.heap.size, 6, none⟩ = some (.int .u64 xs[k].1.note.query) := by rw [cells_get y3 6, List.getElem?_toArray, hCS]; rfl
      have x16 : W3.cell? ⟨wr.heap.size, 16, none⟩ = some (.int .i64 xs[k].1.who) := by rw [cells_get y3 16, List.getElem?_toArray, hCS]; rfl
      have x17 : W3.cell? ⟨wr.heap.size, 17, none⟩ = some (.int .u64 xs[k].1.query) := by rw [cells_get y3 17, List.getElem?_toArray, hCS]; rfl
      have HW3 := Lib.hid hW3
      have HB3 := Lib.hid b3
      have hs3 := b3.size
      clear hW3 hrg hdq hCS y3 b3
      go_upto_region 6 with (first | refine wpList_load_mid rfl 108 _ rfl bb (off + k * 19) (by rfl) CS _ RA Tryd.underlying108 rfl SZ ?_ | refine wpList_store_row rfl 108 _ _ rfl wr.heap.size CS.toArray (by rfl) (by rfl) 108 #[.int .u8 0, .int .u64 0, .int .u64 0, .int .u64 0, .int .u64 0, .int .u64 0, .int .u64 0, .int .u64 0, .int .i64 0, .int .i64 0, .int .i64 0, .int .i64 0, .slice none 0 0, .slice none 0 0, .slice none 0 0, .slice none 0 0, .int .i64 0, .int .u64 0, .slice none 0 0] (heap_alloc_new _ _) SZ' hsz ONE ?_)
      rw [← HW3.out]
      clear RA SZ' hsz ONE
      clear x6 hown hsay hm hF HBW hlen
      have b03 := Lib.hid (O.out.2.2.2.2.trans (HB3.out.mono O.out.2.2.2.2.size))
      have RS := Lib.hid (dresult xs[k].1.who xs[k].1.query xs[k].1.note.stamp 12 [] (.slice none 0 0) (fun _ => False) W3 (HitsF.nil _ _) (fun _ h => h.elim))
      go_wp2_with fail
      with_reducible refine RS.out.mono ?_
      rintro e w4 ⟨v4, rs4, G4, rfl, ho4, hs4, hm4, hG4, hb4⟩
      obtain ⟨q4, n4, c4, rfl⟩ := own_form ho4
      have h41 : rs4.length = 1 := by have := congrArg List.length hs4; simpa using this
      have hb34 := HB3.out.trans (hb4.mono HB3.out.size)
      obtain ⟨q5, n5, c5, w5, hrun, hown5, hg5, hat5⟩ := run_app rowMailR (own_below O.out.1 hb34) (by have := hb4.size; have := O.out.2.2.2.2.size; omega) (SrcAt.of_own ho4) hm4.one (by have := LN.out; simp [maxLen]; omega) (by have := LN.out; omega)
      obtain rfl : n4 = rs4.length := own_len ho4
      have A := Lib.hid (mails_app (R := fun _ => False) O.out.1 O.out.2.2.1 O.out.2.2.2.1 O.out.2.2.2.2 (fun _ h => h.elim) hm4 (fun k hk => ⟨(hG4 k hk).1, (hG4 k hk).2.2.imp (fun h => Nat.le_trans hs3 h) id⟩) hb34 hown5 hg5 hat5)
      have S4 := Lib.hid (And.intro hs4 h41)
      clear ho4 hs4 hm4 hG4 hb4 hb34 hown5 hg5 hat5 h41
      go_wp2_with (with_reducible refine wpList_append_eq hrun rfl _ _ rfl rfl rfl ?_)
      go_roundg (xs.length - (k + 1))
      case measure => omega
      case rel =>
        obtain ⟨G', a1, a2, a3, a4⟩ := A.out
        exact ⟨k + 1, rs ++ rs4, G', rfl, by omega, by go_num, by have := LN.out; have := S4.out.2; simp; omega, a1, by rw [List.map_append, O.out.2.1, S4.out.1, quit_take g k hgl, GK.out k hlt hgl], a2, a3, a4⟩
    · obtain rfl : k = xs.length := by omega
      obtain ⟨qo, no, co, rfl⟩ := own_form hown
      have yc := (HBW.block c hcs).trans HX.out.2.1
      have yf3 := thawed yc 3
      have y3 : wr.cell? ⟨c, 3, none⟩ = some (.slice p xs.length cap) := by rw [cells_get yc 3]; rfl
      have O := Lib.hid (And.intro hown (And.intro hsay (And.intro hm (And.intro hF (And.intro HBW yc)))))
      clear hown hsay hm hF HBW hlen yc
      go_wp2_with fail
      go_returns
      obtain ⟨hown, hsay, hm, hF, hb, yc⟩ := O.out
      have hs := hb.size
      have hagree : ∀ k, k ≠ c → (wr.setCell ⟨c, 3, none⟩ (.slice none 0 0)).heap[k]? = wr.heap[k]? := fun k hk => Below.heap_setCell _ _ _ _ hk
      refine ⟨_, rs, G, fun _ => False, rfl, ?_, by rw [hsay, HXL.out, List.take_length], ?_, fun k hk => ?_, ⟨_, [], set_block yc 3 _, DocF.nil _ _, rfl, fun _ h => h.elim⟩, Mod.setCell (F := fun k => k = c) (Mod.of_below hb) (p := ⟨c, 3, none⟩) (.inl rfl) _, fun _ h => h.elim⟩
      · exact hown.kept (grownBy_setCells c [.slice none 0 0] 3 wr) (.inr (by intro e; have := (hown.lt c e).1; omega))
      · refine hm.agree fun k hk => hagree k ?_
        rintro rfl
        rcases (hF _ hk).2.2 with h | h
        · omega
        · exact h
      · have := (hF k hk).1; simp [World.setCell]; exact this

theorem dquit_nil (w : World) :
    Calls Tryd.prog 25 #[.pointer none] w fun e w' => e = .returned (.slice none 0 0) ∧ w = w' := by
  go_enter Tryd.func25, Tryd.ntmps25
  go_wp2_with fail
  go_ret
  exact ⟨rfl, rfl⟩

set_option maxHeartbeats 4000000 in
theorem doldest (c : Nat) (F : Nat → Prop) (g : Gz) (s : Int) (w : World) (hG : RefG w c F g) :
    Calls Tryd.prog 30 #[.pointer (some ⟨c, 0, none⟩), .int .u64 s] w fun e w' => e = .returned (.int .u64 (oldZ g.l s)) ∧ Below w.heap.size w w' := by
  obtain ⟨v, xs, hob, hD, hxs, hlow⟩ := hG
  obtain ⟨p, cap, rfl, hcap, hbig, -, -, -⟩ := id hD
  have hxl : xs.length = g.l.length := by rw [← hxs]; simp
  have hcs := lt_block hob
  have x30 : w.cell? ⟨c, 3, none⟩ = some (.slice p xs.length cap) := by rw [cells_get hob 3]; rfl
  have gk : ∀ j (h : j < xs.length) (h' : j < g.l.length), xs[j].1 = g.l[j] := fun j h h' => by simp only [← hxs, List.getElem_map]
  have HD := Lib.hid hD
  have HX := Lib.hid (And.intro hxs (And.intro hob hlow))
  have GK := Lib.hid gk
  have hl9 : xs.length ≤ 9223372036854775807 := by omega
  have HXL := Lib.hid hxl
  clear hob hD hxs hlow gk hcap hbig hxl
  go_enter Tryd.func30, Tryd.ntmps30
  go_wp2_with fail
  go_loopg [1, 14] xs.length (fun q s' i wr => ∃ k : Nat, q = xs.length - k ∧ k ≤ xs.length ∧ i = .int .i64 k ∧ s' = .int .u64 (oldZ (g.l.take k) s) ∧ Below w.heap.size w wr)
  case atStart => exact ⟨0, rfl, by omega, rfl, rfl, Below.refl _ _⟩
  case round =>
    obtain ⟨k, rfl, hk, rfl, rfl, HBW⟩ := hrel
    by_cases hlt : k < xs.length
    · have hgl : k < g.l.length := by have := HXL.out; omega
      have OT := Lib.hid (oldZ_take g.l s k hgl)
      rw [← GK.out k hlt hgl] at OT
      obtain ⟨bb, off, hpp, -, hrg, hdq⟩ := (HD.out.below HBW).elem hlt
      subst hpp
      obtain ⟨CS, hCS⟩ : ∃ CS : List Value, CS = dqCells xs[k] := ⟨_, rfl⟩
      have LEN : CS.length = 19 := by rw [hCS]; rfl
      have SZ : (Tryd.prog.info? 108).map (·.size) = some CS.length := by rw [LEN]; kernel_rfl
      have SZ' : (Tryd.prog.info? 108).map (·.size) = some CS.toArray.size := by rw [List.size_toArray, LEN]; kernel_rfl
      have RA : wr.rangeAt bb (off + k * 19) CS := by rw [hCS]; exact hrg
      have ONE : CS.toArray.all (·.oneCell') = true := by rw [hCS, Array.all_eq_true_iff_forall_mem]; intro u hu; exact hdq.one u (by simpa using hu)
      have hsz : (#[.int .u8 0, .int .u64 0, .int .u64 0, .int .u64 0, .int .u64 0, .int .u64 0, .int .u64 0, .int .u64 0, .int .i64 0, .int .i64 0, .int .i64 0, .int .i64 0, .slice none 0 0, .slice none 0 0, .slice none 0 0, .slice none 0 0, .int .i64 0, .int .u64 0, .slice none 0 0] : Array Value).size = CS.toArray.size := by rw [show CS.toArray.size = 19 by rw [List.size_toArray, LEN]]; rfl
      obtain ⟨W3, hW3⟩ : ∃ W3, W3 = (wr.alloc (.cells #[.int .u8 0, .int .u64 0, .int .u64 0, .int .u64 0, .int .u64 0, .int .u64 0, .int .u64 0, .int .u64 0, .int .i64 0, .int .i64 0, .int .i64 0, .int .i64 0, .slice none 0 0, .slice none 0 0, .slice none 0 0, .slice none 0 0, .int .i64 0, .int .u64 0, .slice none 0 0] 108)).setRow wr.heap.size CS.toArray := ⟨_, rfl⟩
      have b3 : Below wr.heap.size wr W3 := by rw [hW3]; exact below_setRow ((Below.refl _ _).alloc (Nat.le_refl _) _) (Nat.le_refl _) _
      have y3 : W3.heap[wr.heap.size]? = some (.cells CS.toArray 108 (0, 0)) := by rw [hW3]; exact setRow_heap _ _ _ _ _ _ (heap_alloc_new _ _)
      have Y3 := Lib.hid (And.intro y3 (And.intro hCS (hdq.below b3)))
      have x3 : W3.cell? ⟨wr.heap.size, 3, none⟩ = some (.int .u64 xs[k].1.note.stamp) := by rw [cells_get y3 3, List.getElem?_toArray, hCS]; rfl
      have x6 : W3.cell? ⟨wr.heap.size, 6, none⟩ = some (.int .u64 xs[k].1.note.query) := by rw [cells_get y3 6, List.getElem?_toArray, hCS]; rfl
      have x16 : W3.cell? ⟨wr.heap.size, 16, none⟩ = some (.int .i64 xs[k].1.who) := by rw [cells_get y3 16, List.getElem?_toArray, hCS]; rfl
      have x17 : W3.cell? ⟨wr.heap.size, 17, none⟩ = some (.int .u64 xs[k].1.query) := by rw [cells_get y3 17, List.getElem?_toArray, hCS]; rfl
      have HW3 := Lib.hid hW3
      have HB3 := Lib.hid b3
      have hs3 := b3.size
      clear hW3 hrg hdq hCS y3 b3
      go_upto_region 5 with (first | refine wpList_load_mid rfl 108 _ rfl bb (off + k * 19) (by rfl) CS _ RA Tryd.underlying108 rfl SZ ?_ | refine wpList_store_row rfl 108 _ _ rfl wr.heap.size CS.toArray (by rfl) (by rfl) 108 #[.int .u8 0, .int .u64 0, .int .u64 0, .int .u64 0, .int .u64 0, .int .u64 0, .int .u64 0, .int .u64 0, .int .i64 0, .int .i64 0, .int .i64 0, .int .i64 0, .slice none 0 0, .slice none 0 0, .slice none 0 0, .slice none 0 0, .int .i64 0, .int .u64 0, .slice none 0 0] (heap_alloc_new _ _) SZ' hsz ONE ?_)
      rw [← HW3.out]
      clear RA SZ' hsz ONE
      clear x6 x16 x17
      have B03 := Lib.hid (HBW.trans (HB3.out.mono HBW.size))
      clear HBW
      by_cases hle : xs[k].1.note.stamp < oldZ (g.l.take k) s
      · go_wp2_with fail
        go_roundg (xs.length - (k + 1))
        case measure => omega
        case rel => exact ⟨k + 1, rfl, by omega, by go_num, by rw [OT.out, Int.min_eq_right (by omega)], B03.out⟩
      · go_wp2_with fail
        go_roundg (xs.length - (k + 1))
        case measure => omega
        case rel => exact ⟨k + 1, rfl, by omega, by go_num, by rw [OT.out, Int.min_eq_left (by omega)], B03.out⟩
    · obtain rfl : k = xs.length := by omega
      go_wp2_with fail
      go_ret
      exact ⟨ret_int (by rw [HXL.out, List.take_length]), HBW⟩

theorem doldest_nil (s : Int) (w : World) :
    Calls Tryd.prog 30 #[.pointer none, .int .u64 s] w fun e w' => e = .returned (.int .u64 s) ∧ w = w' := by
  go_enter Tryd.func30, Tryd.ntmps30
  go_wp2_with fail
  go_ret
  exact ⟨rfl, rfl⟩

end Go.Proofs.YtfmlhdikagogcaaDoor
