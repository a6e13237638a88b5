/- best: one hit is added. -/
import Derived.Test.YtpjbkaibgajpcaaGreatJ04
namespace Go.Proofs.YtpjbkaibgajpcaaGreat
open Go.RowKit
set_option maxRecDepth 20000

def addZ (most : Nat) (l : List Hz) (h : Hz) : Bool × List Hz :=
  match l.findIdx? (fun x => decide (x.id = h.id)) with
  | some i => if h.dist < (l.getD i h).dist then (true, insZ (l.eraseIdx i) h) else (false, l)
  | none => if l.length = most then (if near h (l.getD (most - 1) h) = true then (true, insZ (l.take (most - 1)) h) else (false, l)) else (true, insZ l h)

theorem find_some {l : List Hz} {h : Hz} {k : Nat} (hk : k < l.length) (hall : ∀ j (hj : j < l.length), j < k → l[j].id ≠ h.id) (hx : l[k].id = h.id) : l.findIdx? (fun x => decide (x.id = h.id)) = some k := by
  rw [List.findIdx?_eq_some_iff_getElem]
  exact ⟨hk, by simpa using hx, fun j hj => by simpa using hall j (by omega) hj⟩

theorem find_none {l : List Hz} {h : Hz} (hall : ∀ j (hj : j < l.length), l[j].id ≠ h.id) : l.findIdx? (fun x => decide (x.id = h.id)) = none := by
  rw [List.findIdx?_eq_none_iff]
  intro x hx
  obtain ⟨i, hi, rfl⟩ := List.mem_iff_getElem.1 hx
  simpa using hall i hi

theorem add_cases (most : Nat) (l : List Hz) (h : Hz) (hm : 1 ≤ most) (_hl : l.length ≤ most) :
    (∃ k, ∃ hk : k < l.length, posZ h.id l = k ∧ ((l[k].dist ≤ h.dist ∧ addZ most l h = (false, l)) ∨ (h.dist < l[k].dist ∧ addZ most l h = (true, insZ (l.eraseIdx k) h)))) ∨
    (posZ h.id l = -1 ∧ ((l.length ≠ most ∧ addZ most l h = (true, insZ l h)) ∨ (l.length = most ∧ ∃ hk : most - 1 < l.length, ((near h l[most - 1] = false ∧ addZ most l h = (false, l)) ∨ (near h l[most - 1] = true ∧ addZ most l h = (true, insZ (l.take (most - 1)) h)))))) := by
  cases hf : l.findIdx? (fun x => decide (x.id = h.id)) with
  | some k =>
    have := List.findIdx?_eq_some_iff_getElem.1 hf
    obtain ⟨hk, h1, -⟩ := this
    refine .inl ⟨k, hk, by simp [posZ, hf], ?_⟩
    unfold addZ
    rw [hf]
    have hd : l.getD k h = l[k] := by simp [List.getD, List.getElem?_eq_getElem hk]
    simp only [hd]
    by_cases hlt : h.dist < l[k].dist
    · exact .inr ⟨hlt, by rw [if_pos hlt]⟩
    · exact .inl ⟨by omega, by rw [if_neg hlt]⟩
  | none =>
    refine .inr ⟨by simp [posZ, hf], ?_⟩
    unfold addZ
    rw [hf]
    by_cases he : l.length = most
    · have hk : most - 1 < l.length := by omega
      have hd : l.getD (most - 1) h = l[most - 1] := by simp [List.getD, List.getElem?_eq_getElem hk]
      refine .inr ⟨he, hk, ?_⟩
      simp only [hd, if_pos he]
      cases hn : near h l[most - 1]
      · exact .inl ⟨rfl, by simp⟩
      · exact .inr ⟨rfl, by simp⟩
    · exact .inl ⟨he, by simp [he]⟩

def AddTo (B c : Nat) (F : Nat → Prop) (most : Nat) (r : Bool × List Hz) (w : World) (e : Ending) (w' : World) : Prop :=
  e = .returned (.bool r.1) ∧ ListAt w' B (Plus F w w') c most r.2 ∧ Mod F w w'

theorem add_same {B c : Nat} {F : Nat → Prop} {most : Nat} {l : List Hz} {w w' : World} (h : ListAt w B F c most l) (hb : Below w.heap.size w w') : AddTo B c F most (false, l) w (.returned (.bool false)) w' :=
  ⟨rfl, (h.below hb).mono fun _ => .inl, Mod.of_below hb⟩

theorem insert (B : Nat) (p : Option Addr) (n cap i : Nat) (rs : List Hv) (r : Hv) (e0 : Nat) (w : World) (h : w.ownsRow B 38 3 (.slice p n cap) n (flat3 rs)) (hrn : rs.length = n) (hi : i ≤ n) (hB : B ≤ w.heap.size) (hn : n ≤ 1000000) (hone : r.vec.oneCell' = true) (hones : ∀ x ∈ rs, x.vec.oneCell' = true)
    (he : w.heap[e0]? = some (.cells #[.int .u64 r.id, .int .u64 r.dist, r.vec] 38 (0, 0))) (hne : (Value.slice p n cap).ownBlock ≠ some e0) :
    Calls Tryz.prog 95 #[.slice p n cap, .int .i64 i, .slice (some ⟨e0, 0, none⟩) 1 1] w (Inserted B (.slice p n cap) (n + 1) (rs.take i ++ r :: rs.drop i) w) := by
  by_cases hin : i = n
  · subst hin
    have : rs.take i ++ r :: rs.drop i = rs ++ [r] := by rw [List.take_of_length_le (by omega), List.drop_eq_nil_of_le (by omega)]
    rw [this]
    exact insert_end B p i cap rs r e0 w h hrn hB hn hone he
  · obtain ⟨g, c', hv, -, -⟩ := h.form (by omega)
    obtain ⟨rfl, -, rfl⟩ := Value.slice.inj hv
    have hc := (own_cap h).1
    by_cases hroom : n + 1 ≤ cap
    · exact insert_room B g n cap i rs r e0 w h hrn (by omega) hroom hn hone hones he (by rintro rfl; exact hne rfl)
    · obtain rfl : n = cap := by omega
      exact insert_grow B g n i rs r e0 w h hrn (by omega) hB hn hone hones he

theorem Nums.modOff {F : Nat → Prop} {w w' : World} {u : Value} {xs : List Int} (h : Nums w .i32 u xs) (hl : LiesIn (fun b => ¬ F b) u xs.length) (hm : Mod F w w') : Nums w' .i32 u xs := by
  obtain ⟨p, cap, rfl, -, -, -, h4⟩ := h.slice
  refine h.agree (F := fun b => 0 < xs.length ∧ (Value.slice p xs.length cap).ownBlock = some b) (fun hn b hb => ⟨hn, hb⟩) (Agree.of_mod hm (fun k hk => ?_) fun k hk => hl hk.1 k hk.2)
  obtain ⟨b, off, rfl, hc⟩ := h4 0 hk.1
  have := lt_of_cell hc
  have h2 := hk.2
  simp [Value.ownBlock] at h2
  simpa [← h2] using this

def MidAt (w W : World) (B c : Nat) (F : Nat → Prop) (most : Nat) (v : Value) (rs : List Hv) (G : Nat → Prop) (l : List Hz) : Prop :=
  ListOwn W B c most v rs G l ∧ F c ∧ (∀ b, v.ownBlock = some b → Plus F w W b) ∧ (∀ k, G k → Plus F w W k) ∧ Mod F w W

theorem plus_step {F : Nat → Prop} {w W W' : World} (hs : W.heap.size ≤ W'.heap.size) {k : Nat} (h : Plus F w W k) : Plus F w W' k := by
  rcases h with h | ⟨a, b⟩
  · exact .inl h
  · exact .inr ⟨a, by omega⟩

theorem MidAt.below {w W W' : World} {B c : Nat} {F : Nat → Prop} {most : Nat} {v : Value} {rs : List Hv} {G : Nat → Prop} {l : List Hz} (h : MidAt w W B c F most v rs G l) (hb : Below W.heap.size W W') : MidAt w W' B c F most v rs G l :=
  ⟨h.1.below hb, h.2.1, fun b hk => plus_step hb.size (h.2.2.1 b hk), fun k hk => plus_step hb.size (h.2.2.2.1 k hk), h.2.2.2.2.andBelow hb⟩

theorem tail_end {w W w5 w6 : World} {B c : Nat} {F : Nat → Prop} {most : Nat} {v u4 v' : Value} {rs : List Hv} {G : Nat → Prop} {l : List Hz} {h : Hz} {o : Obj} (hM : MidAt w W B c F most v rs G l) (hBW : B ≤ W.heap.size) (_hFhi : ∀ k, F k → k < w.heap.size) (hb5 : Below W.heap.size W w5)
    (hu : w5.ownsRow W.heap.size 21 1 u4 h.vec.length (h.vec.map (Value.int .i32)))
    (ho : w6.ownsRow B 38 3 v' (rs.length + 1) (flat3 (rs.take (rankZ l h) ++ ⟨h.id, h.dist, u4⟩ :: rs.drop (rankZ l h)))) (hm : Mod (fun k => v.ownBlock = some k) (w5.alloc o) w6)
    (hv : v'.ownBlock = v.ownBlock ∨ ∀ b, v'.ownBlock = some b → (w5.alloc o).heap.size ≤ b) :
    AddTo B c F most (true, insZ l h) w (.returned (.bool true)) (w6.setCell ⟨c, 1, none⟩ v') := by
  obtain ⟨hO, hFc, hFv, hFG, hMod⟩ := hM
  have hb5' : Below W.heap.size W (w5.alloc o) := hb5.alloc hb5.size o
  have hO5 := hO.below hb5'
  have hu5 := hu.alloc o
  have hs6 : (w6.setCell ⟨c, 1, none⟩ v').heap.size = w6.heap.size := by simp [World.setCell]
  have hs5 := hb5'.size
  have hm6 := hm.size
  have hwW := hMod.size
  have hap := own_apart hu5 hO5.row (by decide)
  have hu6 : w6.ownsRow W.heap.size 21 1 u4 h.vec.length (h.vec.map (Value.int .i32)) := by
    obtain ⟨h0, h1 | ⟨g, cp, cur, rfl, hb, hh, r⟩⟩ := hu5
    · exact ⟨h0, .inl h1⟩
    · refine ⟨h0, .inr ⟨g, cp, cur, rfl, hb, ?_, r⟩⟩
      rw [hm.block g (lt_block hh) (fun e => by
        rcases hap with h9 | h9
        · cases h9
        · exact h9 (by rw [e]; rfl))]
      exact hh
  have hc6 : w6.heap[c]? = some (.cells #[.int .i64 most, v] 156 (0, 0)) := by rw [hm.block c (lt_block hO5.obj) (own_not hO5.row hO5.obj (by decide))]; exact hO5.obj
  have hrows : Rows3 w6 (fun k => G k ∨ u4.ownBlock = some k) rs l := by
    refine (hO5.rows.agree fun k hk => ?_).mono fun k hk => .inl hk
    exact hm.block k (by have := hO.ghi k hk; omega) (fun e => hO.gv k e hk)
  have hl : LiesIn (fun k => G k ∨ u4.ownBlock = some k) u4 h.vec.length := fun _ b hb => .inr hb
  have hr' : Rows3 w6 (fun k => G k ∨ u4.ownBlock = some k) (rs.take (rankZ l h) ++ ⟨h.id, h.dist, u4⟩ :: rs.drop (rankZ l h)) (insZ l h) :=
    (hrows.take _).append ((Rows3.single (h := h) (Nums.of_own hu6) hl).append (hrows.drop _))
  have hlen : rs.length + 1 = (rs.take (rankZ l h) ++ ⟨h.id, h.dist, u4⟩ :: rs.drop (rankZ l h)).length := by simp; omega
  have hfin := hO5.put (v' := v') hm (by rw [← hlen]; exact ho) hr' (fun hk => by
      rcases hk with hk | hk
      · exact hO.gc hk
      · exact own_not hu6 hc6 (by decide) hk) (fun b hb hk => by
      rcases hk with hk | hk
      · rcases hv with e | e
        · exact hO.gv b (by rw [← e]; exact hb) hk
        · have := e b hb; have := hO.ghi b hk; omega
      · rcases own_apart hu6 ho (by decide) with h9 | h9
        · rw [h9] at hk; cases hk
        · exact h9 (by rw [hk, hb])) (fun k hk => by
      rcases hk with hk | hk
      · exact hO.glo k hk
      · have := (hu6.lt k hk).1; omega) (fun k hk => by
      rcases hk with hk | hk
      · have := hO.ghi k hk; omega
      · exact (hu6.lt k hk).2)
  refine ⟨rfl, ⟨v', _, _, hfin, .inl hFc, fun b hb => ?_, fun k hk => ?_⟩, ?_⟩
  · rcases hv with e | e
    · rcases hFv b (by rw [← e]; exact hb) with h1 | ⟨h1, h2⟩
      · exact .inl h1
      · exact .inr ⟨h1, by rw [hs6]; omega⟩
    · have := e b hb; exact .inr ⟨by omega, by rw [hs6]; exact (ho.lt b hb).2⟩
  · rcases hk with hk | hk
    · rcases hFG k hk with h1 | ⟨h1, h2⟩
      · exact .inl h1
      · exact .inr ⟨h1, by rw [hs6]; omega⟩
    · have := hu6.lt k hk; exact .inr ⟨by omega, by rw [hs6]; exact this.2⟩
  · refine (((hMod.andBelow hb5').trans hm fun k hk hvk => ?_)).setCell (.inl hFc) _
    rcases hFv k hvk with h1 | ⟨h1, _⟩
    · exact h1
    · omega

set_option maxHeartbeats 8000000 in
set_option maxRecDepth 100000 in
theorem add (B c : Nat) (F : Nat → Prop) (most : Nat) (l : List Hz) (h : Hz) (u : Value) (w : World) (hm1 : 1 ≤ most) (hm2 : most ≤ 100000) (hL : ListAt w B F c most l) (hF : ∀ k, F k → k < w.heap.size) (hB : B ≤ w.heap.size) (hll : l.length ≤ most) (hs : Sorted l) (hu : Nums w .i32 u h.vec) (hx : h.vec.length ≤ 1000000) (hue : LiesIn (fun b => ¬ F b) u h.vec.length) :
    Calls Tryz.prog 117 #[.pointer (some ⟨c, 0, none⟩), .agg #[.int .u64 h.id, .int .u64 h.dist, u]] w (AddTo B c F most (addZ most l h) w) := by
  have L0 := Lib.hid hL
  have U0 := Lib.hid hu
  have UE := Lib.hid hue
  clear hue
  obtain ⟨up, uc, rfl, -, -, -, -⟩ := hu.slice
  obtain ⟨v, rs, G, hO, hFc, hFv, hFG⟩ := hL
  have hb1 := (Below.refl w.heap.size w).alloc (Nat.le_refl _) (Obj.cells #[Value.int IntKind.u64 h.id, Value.int IntKind.u64 h.dist, Value.slice up h.vec.length uc] 38)
  have x0 : (w.alloc (Obj.cells #[Value.int IntKind.u64 h.id, Value.int IntKind.u64 h.dist, Value.slice up h.vec.length uc] 38)).cell? ⟨w.heap.size, 0, none⟩ = some (.int .u64 h.id) := by go_simp
  have x1 : (w.alloc (Obj.cells #[Value.int IntKind.u64 h.id, Value.int IntKind.u64 h.dist, Value.slice up h.vec.length uc] 38)).cell? ⟨w.heap.size, 1, none⟩ = some (.int .u64 h.dist) := by go_simp
  have x2 : (w.alloc (Obj.cells #[Value.int IntKind.u64 h.id, Value.int IntKind.u64 h.dist, Value.slice up h.vec.length uc] 38)).cell? ⟨w.heap.size, 2, none⟩ = some (.slice up h.vec.length uc) := by go_simp
  have O1 := hO.below hb1
  obtain ⟨p, cap, rfl, hcap, hbig, hnil, -⟩ := O1.hits
  obtain ⟨k0, k1, k2⟩ := O1.cells
  have IX := Lib.hid (indexFunc l h.id _ _ w.heap.size _ O1.hits x0)
  have B1 := Lib.hid hb1
  have OO := Lib.hid (And.intro O1 (And.intro hFc (And.intro hFv (And.intro hFG hF))))
  have S := Lib.hid hs
  have CS := add_cases most l h hm1 hll
  clear hO hb1 O1 hu hs
  go_enter Tryz.func117, Tryz.ntmps117
  go_wp2_with fail
  refine IX.out.mono ?_
  rintro e w2 ⟨rfl, hb2⟩
  generalize (w.alloc (Obj.cells #[Value.int IntKind.u64 h.id, Value.int IntKind.u64 h.dist, Value.slice up h.vec.length uc] 38)) = W1 at *
  replace x0 := below_cells hb2 x0
  replace x1 := below_cells hb2 x1
  replace x2 := below_cells hb2 x2
  have B2 := Lib.hid (B1.out.trans (hb2.mono B1.out.size))
  have O2 := Lib.hid (OO.out.1.below hb2)
  replace k0 := below_cells hb2 k0
  replace k1 := below_cells hb2 k1
  replace k2 := below_frozen hb2 (lt_of_cell OO.out.1.cells.2.1) k2
  clear hb2
  rcases CS with ⟨k, hk, hp, ⟨hd, ha⟩ | ⟨hd, ha⟩⟩ | ⟨hp, hrest⟩
  · -- the one that is there is as near
    rw [hp]
    have HA := Lib.hid ha
    obtain ⟨rs', -, -, hel⟩ := O2.out.hits.rows
    obtain ⟨bb, off, up', uc', -, rfl, -, -, c0, c1, c2, -, -⟩ := hel k hk
    have hk0 : (0 : Int) ≤ (k : Int) := by omega
    have hk1 : (k : Int) < (l.length : Int) := by omega
    have hdd : decide (l[k].dist ≤ h.dist) = true := decide_eq_true hd
    clear hel hd hp ha
    go_wp2_with fail
    go_quiet (fail)
    rename_i nq
    go_wp2_with fail
    go_ret
    rw [HA.out]
    exact add_same L0.out (below_drewN B2.out nq)
  · -- the one that is there is farther
    rw [hp]
    have HA := Lib.hid ha
    obtain ⟨g, cg, hv, -, -⟩ := O2.out.row.form (by rw [O2.out.rows.len]; omega)
    obtain ⟨rfl, -, rfl⟩ := Value.slice.inj hv
    obtain ⟨rs', -, -, hel⟩ := O2.out.hits.rows
    obtain ⟨bb, off, up', uc', -, hpb, -, -, c0, c1, c2, -, -⟩ := hel k hk
    obtain ⟨rfl, rfl⟩ : g = bb ∧ 0 = off := by simpa using hpb
    simp only [Nat.zero_add] at c0 c1 c2
    obtain ⟨n1, hn1⟩ : ∃ n1, l.length = n1 + 1 := ⟨l.length - 1, by omega⟩
    have hkl : (k : Int) < (l.length : Int) := by omega
    have hdd : decide (l[k].dist ≤ h.dist) = false := decide_eq_false (by omega)
    clear hel ha hp hv hpb
    go_wp2_with fail
    go_quiet (fail)
    rename_i nq
    have b3 := below_drewN (Below.refl w2.heap.size w2) nq
    replace x0 := below_cells b3 x0
    replace x1 := below_cells b3 x1
    replace x2 := below_cells b3 x2
    replace k0 := below_cells b3 k0
    replace k2 := below_frozen b3 (lt_of_cell k1) k2
    replace k1 := below_cells b3 k1
    have O3 := O2.out.below b3
    have B3 := Lib.hid (B2.out.trans (b3.mono B2.out.size))
    clear b3 c0 c1 c2
    generalize w2.drewN nq = W3 at *
    have hrl : rs.length = n1 + 1 := by rw [O3.rows.len]; exact hn1
    have DEL := Lib.hid (show Calls Tryz.prog 132 #[.slice (some ⟨g, 0, none⟩) l.length cap, .int .i64 k, .int .i64 (k + 1)] W3 (Deleted B g cap n1 (rs.eraseIdx k) W3) from by
      rw [hn1]
      refine delete B g cap n1 rs k (by omega) hrl O3.rows.one W3 ?_ (by omega)
      have := O3.row
      rw [hrl, hn1] at this
      exact this)
    have OB := Lib.hid (And.intro O3 (And.intro hrl hn1))
    have hn1' : n1 ≤ l.length := by omega
    have hn1'' : n1 + 1 ≤ most := by omega
    have hkn : k ≤ n1 := by omega
    clear O3 hrl hn1 hkl
    go_wp2_with fail
    with_reducible refine DEL.out.mono ?_
    clear hdd hd
    rintro e w4 ⟨rfl, ho4, hm4⟩
    have hgc : (Value.slice (some ⟨g, 0, none⟩) l.length cap).ownBlock ≠ some c := own_not OB.out.1.row OB.out.1.obj (by decide)
    have hc4 : w4.heap[c]? = some (.cells #[.int .i64 most, .slice (some ⟨g, 0, none⟩) l.length cap] 156 (0, 0)) := by rw [hm4.block c (lt_block OB.out.1.obj) (fun e => hgc (by rw [e]; rfl))]; exact OB.out.1.obj
    have j1 : w4.cell? ⟨c, 1, none⟩ = some (.slice (some ⟨g, 0, none⟩) l.length cap) := by simp [World.cell?, hc4]
    have j2 : w4.frozen? ⟨c, 1, none⟩ = false := by simp [World.frozen?, hc4]
    have hel : (rs.eraseIdx k).length = n1 := by rw [List.length_eraseIdx_of_lt (by have := OB.out.2.1; omega)]; have := OB.out.2.1; omega
    have hll2 : (l.eraseIdx k).length = n1 := by rw [List.length_eraseIdx_of_lt hk]; have := OB.out.2.2; omega
    have hgw : g < w.heap.size := OO.out.2.2.2.2 g (OO.out.2.2.1 g rfl)
    have hbox : ∀ a : Addr, a.block = w.heap.size → W3.heap.size > a.block → (w4.setCell ⟨c, 1, none⟩ (.slice (some ⟨g, 0, none⟩) n1 cap)).cell? a = W3.cell? a := fun a ha ha2 => by
      rw [World.cell?_setCell_other _ _ _ _ (fun e => by have := OO.out.2.2.2.2 c OO.out.2.1; rw [← e] at ha; simp at ha; omega)]
      exact World.cell?_of_block (hm4.block _ ha2 (by omega))
    have hrows : Rows3 w4 G (rs.eraseIdx k) (l.eraseIdx k) := by
      have h1 : Rows3 w4 G rs l := OB.out.1.rows.agree fun j hj => hm4.block j (OB.out.1.ghi j hj) (fun e => OB.out.1.gv g rfl (by rw [← e]; exact hj))
      rw [List.eraseIdx_eq_take_drop_succ, List.eraseIdx_eq_take_drop_succ]
      exact (h1.take k).append (h1.drop (k + 1))
    have hput := OB.out.1.put (v' := .slice (some ⟨g, 0, none⟩) n1 cap) (hm4.mono fun j _ hj => by rw [hj]; rfl) (by rw [hel]; exact ho4) hrows OB.out.1.gc (fun b hb => by cases hb; exact OB.out.1.gv g rfl) OB.out.1.glo (fun j hj => by have := OB.out.1.ghi j hj; have := hm4.size; omega)
    have hmod : Mod F w (w4.setCell ⟨c, 1, none⟩ (.slice (some ⟨g, 0, none⟩) n1 cap)) := ((Mod.of_below (F := F) B3.out).trans hm4 fun j _ hj => by rw [hj]; exact OO.out.2.2.1 g rfl).setCell (.inl OO.out.2.1) _
    replace x0 := (hbox ⟨w.heap.size, 0, none⟩ rfl (lt_of_cell x0)).trans x0
    replace x1 := (hbox ⟨w.heap.size, 1, none⟩ rfl (lt_of_cell x1)).trans x1
    replace x2 := (hbox ⟨w.heap.size, 2, none⟩ rfl (lt_of_cell x2)).trans x2
    have MM := Lib.hid (And.intro hput hmod)
    have UM := Lib.hid (show Nums (w4.setCell ⟨c, 1, none⟩ (.slice (some ⟨g, 0, none⟩) n1 cap)) .i32 (.slice up h.vec.length uc) h.vec from U0.out.modOff UE.out hmod)
    clear k0 k1 k2 ho4 hm4 hc4 hbox hrows hput hmod hgc
    go_wp2_with fail
    generalize (w4.setCell ⟨c, 1, none⟩ (.slice (some ⟨g, 0, none⟩) n1 cap)) = W4 at *
    obtain ⟨k0, k1, -⟩ := MM.out.1.cells
    have hz : ((n1 : Int) == (most : Int)) = false := by rw [beq_eq_false_iff_ne]; omega
    clear j1 j2
    go_quiet (fail)
    have b3 := below_drewN (Below.refl W4.heap.size W4) nq
    replace x0 := below_cells b3 x0
    replace x1 := below_cells b3 x1
    replace x2 := below_cells b3 x2
    replace k1 := below_cells b3 k1
    have M := Lib.hid (show MidAt w (W4.drewN nq) B c F most (.slice (some ⟨g, 0, none⟩) n1 cap) (rs.eraseIdx k) G (l.eraseIdx k) from ⟨MM.out.1.below b3, OO.out.2.1, fun b hb => .inl (by cases hb; exact OO.out.2.2.1 g rfl), fun j hj => .inl (OO.out.2.2.2.1 j hj), MM.out.2.andBelow b3⟩)
    have UU := Lib.hid (UM.out.below b3)
    have SR := Lib.hid (show Sorted (l.eraseIdx k) from S.out.sublist (List.eraseIdx_sublist _ _))
    have VB := Lib.hid (fun b (hb : (Value.slice (some ⟨g, 0, none⟩) n1 cap).ownBlock = some b) => (show b < w.heap.size from by cases hb; exact hgw))
    have hNR := hel
    clear k0 b3 hel
    generalize W4.drewN nq = W2 at *
    go_wp2_with fail
    obtain ⟨W0, hW0⟩ : ∃ W0, W0 = W2.drew := ⟨_, rfl⟩
    have b0 : Below W2.heap.size W2 W0 := by rw [hW0]; exact (Below.refl _ _).drew
    replace x0 := below_cells b0 x0
    replace x1 := below_cells b0 x1
    replace x2 := below_cells b0 x2
    replace k1 := below_cells b0 k1
    have M0 := Lib.hid (M.out.below b0)
    have U1 := Lib.hid (UU.out.below b0)
    have HW := Lib.hid hW0
    have BS := Lib.hid (bsearch ((l.eraseIdx k)) (by omega) h (.slice up h.vec.length uc) _ _ W0 M0.out.1.hits (rankZ ((l.eraseIdx k)) h) (rankZ_le _ _) (fun k hk hr => rankZ_below hk hr) (fun k hk hr => rankZ_above SR.out hk hr))
    have RL := rankZ_le ((l.eraseIdx k)) h
    clear hW0 b0
    refine region_go (fun w' => w'.cell? ⟨c, 1, none⟩ = some (.slice (some ⟨g, 0, none⟩) n1 cap) ∧ w'.cell? ⟨w.heap.size, 0, none⟩ = some (.int .u64 h.id) ∧ w'.cell? ⟨w.heap.size, 1, none⟩ = some (.int .u64 h.dist) ∧ w'.cell? ⟨w.heap.size, 2, none⟩ = some (.slice up h.vec.length uc)) (by kernel_rfl) ?hS0 (fun hH => ?_)
    case hS0 =>
      rw [← HW.out]; exact ⟨k1, x0, x1, x2⟩
    rw [← HW.out] at hH ⊢
    refine kY 0 hH ?_
    repeat simp only [Act.put, uA1, uB1, uC1]
    refine kY 1 hH ?_
    repeat simp only [Act.put, uA1, uB1, uC1]
    refine kY 2 hH ?_
    repeat simp only [Act.put, uA1, uB1, uC1]
    refine kY 3 hH ?_
    repeat simp only [Act.put, uA1, uB1, uC1]
    refine kY 4 hH ?_
    repeat simp only [Act.put, uA1, uB1, uC1]
    refine spk 5 rfl (by decide +kernel) (by rfl) (fun K' hK => ?_)
    go_simp
    refine BS.out.mono ?_
    rintro e w4 ⟨bo, rfl, hb4⟩
    try dsimp only
    refine hK.out _ _ ?hS (fun hH' => ?_)
    case hS =>
      exact ⟨below_cells hb4 k1, below_cells hb4 x0, below_cells hb4 x1, below_cells hb4 x2⟩
    clear hK K' hH; have hH := hH'; clear hH'; repeat simp only [Act.put, uA1, uB1, uC1]
    refine kY 6 hH ?_
    repeat simp only [Act.put, uA1, uB1, uC1]
    refine kY 7 hH ?_
    repeat simp only [Act.put, uA1, uB1, uC1]
    refine kY 8 hH ?_
    repeat simp only [Act.put, uA1, uB1, uC1]
    refine kY 9 hH ?_
    repeat simp only [Act.put, uA1, uB1, uC1]
    refine kY 10 hH ?_
    repeat simp only [Act.put, uA1, uB1, uC1]
    refine wpAnyH_done (by decide +kernel) ?_ _
    replace x0 := below_cells hb4 x0
    replace x1 := below_cells hb4 x1
    replace x2 := below_cells hb4 x2
    replace k1 := below_cells hb4 k1
    have M4 := Lib.hid (M0.out.below hb4)
    have U4 := Lib.hid (U1.out.below hb4)
    clear hH hb4
    go_wp2_with fail
    obtain ⟨W5, hW5⟩ : ∃ W5, W5 = w4.drew := ⟨_, rfl⟩
    have b5 : Below w4.heap.size w4 W5 := by rw [hW5]; exact (Below.refl _ _).drew
    replace x0 := below_cells b5 x0
    replace x1 := below_cells b5 x1
    replace x2 := below_cells b5 x2
    replace k1 := below_cells b5 k1
    have M5 := Lib.hid (M4.out.below b5)
    have U5 := Lib.hid (U4.out.below b5)
    have HW5 := Lib.hid hW5
    have hB5 : B ≤ W5.heap.size := Nat.le_trans hB M5.out.2.2.2.2.size
    clear hW5 b5
    refine region_go (fun w' => w'.cell? ⟨w.heap.size, 0, none⟩ = some (.int .u64 h.id) ∧ w'.cell? ⟨w.heap.size, 1, none⟩ = some (.int .u64 h.dist) ∧ w'.cell? ⟨w.heap.size, 2, none⟩ = some (.slice up h.vec.length uc)) (by kernel_rfl) ?hS0 (fun hH => ?_)
    case hS0 =>
      rw [← HW5.out]; exact ⟨x0, x1, x2⟩
    rw [← HW5.out] at hH ⊢
    refine kY 0 hH ?_
    repeat simp only [Act.put, uA1, uB1, uC1]
    refine kY 1 hH ?_
    repeat simp only [Act.put, uA1, uB1, uC1]
    refine kY 2 hH ?_
    repeat simp only [Act.put, uA1, uB1, uC1]
    refine kY 3 hH ?_
    repeat simp only [Act.put, uA1, uB1, uC1]
    refine kY 5 hH ?_
    repeat simp only [Act.put, uA1, uB1, uC1]
    refine kY 6 hH ?_
    repeat simp only [Act.put, uA1, uB1, uC1]
    refine spB 4 7 rfl rfl ?hr ?hw ?hv (fun K' hK => ?b1_1) (fun K' hK => ?b2_1)
    case hr => decide +kernel
    case hw => rfl
    case hv => rfl
    case b1_1 =>
      go_simp
      try dsimp only
      refine hK.out _ _ ?hS (fun hH' => ?_)
      case hS =>
        exact hH
      clear hK K' hH; have hH := hH'; clear hH'; repeat simp only [Act.put, uA1, uB1, uC1]
      refine spk 7 rfl (by decide +kernel) (by rfl) (fun K' hK => ?_)
      go_simp
      refine (copyOf h _ _ U5.out hx).mono ?_
      rintro e w5 ⟨u4, rfl, hu4, hb5⟩
      obtain ⟨q4, m4, k4, rfl⟩ := own_form hu4
      have kc5 := below_cells hb5 k1
      have hcw5 : c < w5.heap.size := lt_of_cell kc5
      have y0 := below_cells hb5 x0
      have y1 := below_cells hb5 x1
      have y2 := below_cells hb5 x2
      have O5 := M5.out.1.below hb5
      have IN := Lib.hid (insert B (some ⟨g, 0, none⟩) n1 cap (rankZ ((l.eraseIdx k)) h) (rs.eraseIdx k) ⟨h.id, h.dist, .slice q4 m4 k4⟩ w5.heap.size (w5.alloc (.cells #[.int .u64 h.id, .int .u64 h.dist, .slice q4 m4 k4] 38)) (by have := O5.row.alloc (.cells #[.int .u64 h.id, .int .u64 h.dist, .slice q4 m4 k4] 38); rw [hNR] at this; exact this) hNR (by omega) (by have := hb5.size; simp; omega) (by omega) rfl O5.rows.one (heap_alloc_new _ _) (fun e => by have := (O5.row.lt _ e).2; omega))
      have P5 := Lib.hid (And.intro hu4 (And.intro hb5 O5))
      clear hu4 O5
      try dsimp only
      refine hK.out _ _ ?hS (fun hH' => ?_)
      case hS =>
        exact ⟨y0, y1, y2⟩
      clear hK K' hH; have hH := hH'; clear hH'; repeat simp only [Act.put, uA1, uB1, uC1]
      refine spk 8 rfl (by decide +kernel) (by rfl) (fun K' hK => ?_)
      go_simp
      try dsimp only
      refine hK.out _ _ ?hS (fun hH' => ?_)
      case hS =>
        exact ⟨below_cells ((Below.refl _ _).alloc (Nat.le_refl _) _) y0, below_cells ((Below.refl _ _).alloc (Nat.le_refl _) _) y1, below_cells ((Below.refl _ _).alloc (Nat.le_refl _) _) y2⟩
      clear hK K' hH; have hH := hH'; clear hH'; repeat simp only [Act.put, uA1, uB1, uC1]
      refine spk 9 rfl (by decide +kernel) (by rfl) (fun K' hK => ?_)
      go_simp
      refine IN.out.mono ?_
      rintro e w6 ⟨q6, n6, c6, rfl, ho6, hm6, hv6⟩
      have O5a := P5.out.2.2.below ((Below.refl w5.heap.size w5).alloc (Nat.le_refl _) (.cells #[.int .u64 h.id, .int .u64 h.dist, .slice q4 m4 k4] 38))
      have hc6 : w6.heap[c]? = some (.cells #[.int .i64 most, .slice (some ⟨g, 0, none⟩) n1 cap] 156 (0, 0)) := by rw [hm6.block c (lt_block O5a.obj) (own_not O5a.row O5a.obj (by decide))]; exact O5a.obj
      have j1 : w6.cell? ⟨c, 1, none⟩ = some (.slice (some ⟨g, 0, none⟩) n1 cap) := by simp [World.cell?, hc6]
      have j2 : w6.frozen? ⟨c, 1, none⟩ = false := by simp [World.frozen?, hc6]
      have kb : ∀ a : Addr, a.block = w.heap.size → w6.cell? a = (w5.alloc (.cells #[.int .u64 h.id, .int .u64 h.dist, .slice q4 m4 k4] 38)).cell? a := fun a ha => World.cell?_of_block (by rw [ha]; exact hm6.block _ (by have := lt_of_cell y0; simp at this ⊢; omega) fun e => by have := VB.out _ e; omega)
      have z0 : w6.cell? ⟨w.heap.size, 0, none⟩ = some (.int .u64 h.id) := by rw [kb _ rfl]; exact below_cells ((Below.refl _ _).alloc (Nat.le_refl _) _) y0
      have z1 : w6.cell? ⟨w.heap.size, 1, none⟩ = some (.int .u64 h.dist) := by rw [kb _ rfl]; exact below_cells ((Below.refl _ _).alloc (Nat.le_refl _) _) y1
      have z2 : w6.cell? ⟨w.heap.size, 2, none⟩ = some (.slice up h.vec.length uc) := by rw [kb _ rfl]; exact below_cells ((Below.refl _ _).alloc (Nat.le_refl _) _) y2
      have E6 := Lib.hid (tail_end M5.out hB5 OO.out.2.2.2.2 P5.out.2.1 P5.out.1 (by rw [hNR]; exact ho6) hm6 hv6)
      have hbc : w.heap.size ≠ c := fun e => by have := OO.out.2.2.2.2 c OO.out.2.1; omega
      clear O5a hc6 ho6 hm6 hv6 kb
      try dsimp only
      refine hK.out _ _ ?hS (fun hH' => ?_)
      case hS =>
        exact ⟨z0, z1, z2⟩
      clear hK K' hH; have hH := hH'; clear hH'; repeat simp only [Act.put, uA1, uB1, uC1]
      refine kY 10 hH ?_
      repeat simp only [Act.put, uA1, uB1, uC1]
      refine kY 11 hH ?_
      repeat simp only [Act.put, uA1, uB1, uC1]
      refine spk 12 rfl (by decide +kernel) (by rfl) (fun K' hK => ?_)
      go_simp
      try dsimp only
      refine hK.out _ _ ?hS (fun hH' => ?_)
      case hS =>
        exact ⟨by rw [World.cell?_setCell_other _ _ _ _ (by simp [])]; exact z0, by rw [World.cell?_setCell_other _ _ _ _ (by simp [])]; exact z1, by rw [World.cell?_setCell_other _ _ _ _ (by simp [])]; exact z2⟩
      clear hK K' hH; have hH := hH'; clear hH'; repeat simp only [Act.put, uA1, uB1, uC1]
      refine wpAnyH_done (by decide +kernel) ?_ _
      clear hH z0 z1 z2 j1 j2 kc5 y0 y1 y2
      go_wp2_with fail
      go_ret
      rw [HA.out]
      exact E6.out
    case b2_1 =>
      go_simp
      refine (copyOf h _ _ U5.out hx).mono ?_
      rintro e w5 ⟨u4, rfl, hu4, hb5⟩
      obtain ⟨q4, m4, k4, rfl⟩ := own_form hu4
      have kc5 := below_cells hb5 k1
      have hcw5 : c < w5.heap.size := lt_of_cell kc5
      have y0 := below_cells hb5 x0
      have y1 := below_cells hb5 x1
      have y2 := below_cells hb5 x2
      have O5 := M5.out.1.below hb5
      have IN := Lib.hid (insert B (some ⟨g, 0, none⟩) n1 cap (rankZ ((l.eraseIdx k)) h) (rs.eraseIdx k) ⟨h.id, h.dist, .slice q4 m4 k4⟩ w5.heap.size (w5.alloc (.cells #[.int .u64 h.id, .int .u64 h.dist, .slice q4 m4 k4] 38)) (by have := O5.row.alloc (.cells #[.int .u64 h.id, .int .u64 h.dist, .slice q4 m4 k4] 38); rw [hNR] at this; exact this) hNR (by omega) (by have := hb5.size; simp; omega) (by omega) rfl O5.rows.one (heap_alloc_new _ _) (fun e => by have := (O5.row.lt _ e).2; omega))
      have P5 := Lib.hid (And.intro hu4 (And.intro hb5 O5))
      clear hu4 O5
      try dsimp only
      refine hK.out _ _ ?hS (fun hH' => ?_)
      case hS =>
        exact ⟨y0, y1, y2⟩
      clear hK K' hH; have hH := hH'; clear hH'; repeat simp only [Act.put, uA1, uB1, uC1]
      refine spB 4 8 rfl rfl ?hr ?hw ?hv (fun K' hK => ?b1_2) (fun K' hK => ?b2_2)
      case hr => decide +kernel
      case hw => rfl
      case hv => rfl
      case b1_2 =>
        go_simp
        try dsimp only
        refine hK.out _ _ ?hS (fun hH' => ?_)
        case hS =>
          exact hH
        clear hK K' hH; have hH := hH'; clear hH'; repeat simp only [Act.put, uA1, uB1, uC1]
        refine spk 8 rfl (by decide +kernel) (by rfl) (fun K' hK => ?_)
        go_simp
        try dsimp only
        refine hK.out _ _ ?hS (fun hH' => ?_)
        case hS =>
          exact ⟨below_cells ((Below.refl _ _).alloc (Nat.le_refl _) _) y0, below_cells ((Below.refl _ _).alloc (Nat.le_refl _) _) y1, below_cells ((Below.refl _ _).alloc (Nat.le_refl _) _) y2⟩
        clear hK K' hH; have hH := hH'; clear hH'; repeat simp only [Act.put, uA1, uB1, uC1]
        refine spk 9 rfl (by decide +kernel) (by rfl) (fun K' hK => ?_)
        go_simp
        refine IN.out.mono ?_
        rintro e w6 ⟨q6, n6, c6, rfl, ho6, hm6, hv6⟩
        have O5a := P5.out.2.2.below ((Below.refl w5.heap.size w5).alloc (Nat.le_refl _) (.cells #[.int .u64 h.id, .int .u64 h.dist, .slice q4 m4 k4] 38))
        have hc6 : w6.heap[c]? = some (.cells #[.int .i64 most, .slice (some ⟨g, 0, none⟩) n1 cap] 156 (0, 0)) := by rw [hm6.block c (lt_block O5a.obj) (own_not O5a.row O5a.obj (by decide))]; exact O5a.obj
        have j1 : w6.cell? ⟨c, 1, none⟩ = some (.slice (some ⟨g, 0, none⟩) n1 cap) := by simp [World.cell?, hc6]
        have j2 : w6.frozen? ⟨c, 1, none⟩ = false := by simp [World.frozen?, hc6]
        have kb : ∀ a : Addr, a.block = w.heap.size → w6.cell? a = (w5.alloc (.cells #[.int .u64 h.id, .int .u64 h.dist, .slice q4 m4 k4] 38)).cell? a := fun a ha => World.cell?_of_block (by rw [ha]; exact hm6.block _ (by have := lt_of_cell y0; simp at this ⊢; omega) fun e => by have := VB.out _ e; omega)
        have z0 : w6.cell? ⟨w.heap.size, 0, none⟩ = some (.int .u64 h.id) := by rw [kb _ rfl]; exact below_cells ((Below.refl _ _).alloc (Nat.le_refl _) _) y0
        have z1 : w6.cell? ⟨w.heap.size, 1, none⟩ = some (.int .u64 h.dist) := by rw [kb _ rfl]; exact below_cells ((Below.refl _ _).alloc (Nat.le_refl _) _) y1
        have z2 : w6.cell? ⟨w.heap.size, 2, none⟩ = some (.slice up h.vec.length uc) := by rw [kb _ rfl]; exact below_cells ((Below.refl _ _).alloc (Nat.le_refl _) _) y2
        have E6 := Lib.hid (tail_end M5.out hB5 OO.out.2.2.2.2 P5.out.2.1 P5.out.1 (by rw [hNR]; exact ho6) hm6 hv6)
        have hbc : w.heap.size ≠ c := fun e => by have := OO.out.2.2.2.2 c OO.out.2.1; omega
        clear O5a hc6 ho6 hm6 hv6 kb
        try dsimp only
        refine hK.out _ _ ?hS (fun hH' => ?_)
        case hS =>
          exact ⟨z0, z1, z2⟩
        clear hK K' hH; have hH := hH'; clear hH'; repeat simp only [Act.put, uA1, uB1, uC1]
        refine kY 10 hH ?_
        repeat simp only [Act.put, uA1, uB1, uC1]
        refine kY 11 hH ?_
        repeat simp only [Act.put, uA1, uB1, uC1]
        refine spk 12 rfl (by decide +kernel) (by rfl) (fun K' hK => ?_)
        go_simp
        try dsimp only
        refine hK.out _ _ ?hS (fun hH' => ?_)
        case hS =>
          exact ⟨by rw [World.cell?_setCell_other _ _ _ _ (by simp [])]; exact z0, by rw [World.cell?_setCell_other _ _ _ _ (by simp [])]; exact z1, by rw [World.cell?_setCell_other _ _ _ _ (by simp [])]; exact z2⟩
        clear hK K' hH; have hH := hH'; clear hH'; repeat simp only [Act.put, uA1, uB1, uC1]
        refine wpAnyH_done (by decide +kernel) ?_ _
        clear hH z0 z1 z2 j1 j2 kc5 y0 y1 y2
        go_wp2_with fail
        go_ret
        rw [HA.out]
        exact E6.out
      case b2_2 =>
        go_simp
        try dsimp only
        refine hK.out _ _ ?hS (fun hH' => ?_)
        case hS =>
          exact ⟨below_cells ((Below.refl _ _).alloc (Nat.le_refl _) _) y0, below_cells ((Below.refl _ _).alloc (Nat.le_refl _) _) y1, below_cells ((Below.refl _ _).alloc (Nat.le_refl _) _) y2⟩
        clear hK K' hH; have hH := hH'; clear hH'; repeat simp only [Act.put, uA1, uB1, uC1]
        refine spk 4 rfl (by decide +kernel) (by rfl) (fun K' hK => ?_)
        go_simp
        try dsimp only
        refine hK.out _ _ ?hS (fun hH' => ?_)
        case hS =>
          exact hH
        clear hK K' hH; have hH := hH'; clear hH'; repeat simp only [Act.put, uA1, uB1, uC1]
        refine spk 9 rfl (by decide +kernel) (by rfl) (fun K' hK => ?_)
        go_simp
        refine IN.out.mono ?_
        rintro e w6 ⟨q6, n6, c6, rfl, ho6, hm6, hv6⟩
        have O5a := P5.out.2.2.below ((Below.refl w5.heap.size w5).alloc (Nat.le_refl _) (.cells #[.int .u64 h.id, .int .u64 h.dist, .slice q4 m4 k4] 38))
        have hc6 : w6.heap[c]? = some (.cells #[.int .i64 most, .slice (some ⟨g, 0, none⟩) n1 cap] 156 (0, 0)) := by rw [hm6.block c (lt_block O5a.obj) (own_not O5a.row O5a.obj (by decide))]; exact O5a.obj
        have j1 : w6.cell? ⟨c, 1, none⟩ = some (.slice (some ⟨g, 0, none⟩) n1 cap) := by simp [World.cell?, hc6]
        have j2 : w6.frozen? ⟨c, 1, none⟩ = false := by simp [World.frozen?, hc6]
        have kb : ∀ a : Addr, a.block = w.heap.size → w6.cell? a = (w5.alloc (.cells #[.int .u64 h.id, .int .u64 h.dist, .slice q4 m4 k4] 38)).cell? a := fun a ha => World.cell?_of_block (by rw [ha]; exact hm6.block _ (by have := lt_of_cell y0; simp at this ⊢; omega) fun e => by have := VB.out _ e; omega)
        have z0 : w6.cell? ⟨w.heap.size, 0, none⟩ = some (.int .u64 h.id) := by rw [kb _ rfl]; exact below_cells ((Below.refl _ _).alloc (Nat.le_refl _) _) y0
        have z1 : w6.cell? ⟨w.heap.size, 1, none⟩ = some (.int .u64 h.dist) := by rw [kb _ rfl]; exact below_cells ((Below.refl _ _).alloc (Nat.le_refl _) _) y1
        have z2 : w6.cell? ⟨w.heap.size, 2, none⟩ = some (.slice up h.vec.length uc) := by rw [kb _ rfl]; exact below_cells ((Below.refl _ _).alloc (Nat.le_refl _) _) y2
        have E6 := Lib.hid (tail_end M5.out hB5 OO.out.2.2.2.2 P5.out.2.1 P5.out.1 (by rw [hNR]; exact ho6) hm6 hv6)
        have hbc : w.heap.size ≠ c := fun e => by have := OO.out.2.2.2.2 c OO.out.2.1; omega
        clear O5a hc6 ho6 hm6 hv6 kb
        try dsimp only
        refine hK.out _ _ ?hS (fun hH' => ?_)
        case hS =>
          exact ⟨z0, z1, z2⟩
        clear hK K' hH; have hH := hH'; clear hH'; repeat simp only [Act.put, uA1, uB1, uC1]
        refine kY 10 hH ?_
        repeat simp only [Act.put, uA1, uB1, uC1]
        refine kY 11 hH ?_
        repeat simp only [Act.put, uA1, uB1, uC1]
        refine spk 12 rfl (by decide +kernel) (by rfl) (fun K' hK => ?_)
        go_simp
        try dsimp only
        refine hK.out _ _ ?hS (fun hH' => ?_)
        case hS =>
          exact ⟨by rw [World.cell?_setCell_other _ _ _ _ (by simp [])]; exact z0, by rw [World.cell?_setCell_other _ _ _ _ (by simp [])]; exact z1, by rw [World.cell?_setCell_other _ _ _ _ (by simp [])]; exact z2⟩
        clear hK K' hH; have hH := hH'; clear hH'; repeat simp only [Act.put, uA1, uB1, uC1]
        refine wpAnyH_done (by decide +kernel) ?_ _
        clear hH z0 z1 z2 j1 j2 kc5 y0 y1 y2
        go_wp2_with fail
        go_ret
        rw [HA.out]
        exact E6.out
  · rw [hp]
    rcases hrest with ⟨hne, ha⟩ | ⟨heq, hrest⟩
    · have HA := Lib.hid ha
      have hz : ((l.length : Int) == (most : Int)) = false := by rw [beq_eq_false_iff_ne]; omega
      clear ha hp hne
      go_wp2_with fail
      go_quiet (fail)
      rename_i nq
      have b3 := below_drewN (Below.refl w2.heap.size w2) nq
      replace x0 := below_cells b3 x0
      replace x1 := below_cells b3 x1
      replace x2 := below_cells b3 x2
      replace k1 := below_cells b3 k1
      have M := Lib.hid (show MidAt w (w2.drewN nq) B c F most (.slice p l.length cap) rs G l from ⟨O2.out.below b3, OO.out.2.1, fun b hb => .inl (OO.out.2.2.1 b hb), fun k hk => .inl (OO.out.2.2.2.1 k hk), Mod.of_below (B2.out.trans (b3.mono B2.out.size))⟩)
      have UU := Lib.hid (U0.out.below (B2.out.trans (b3.mono B2.out.size)))
      have SR := S
      have VB := Lib.hid (fun b (hb : (Value.slice p l.length cap).ownBlock = some b) => hF b (OO.out.2.2.1 b hb))
      have hNR : rs.length = l.length := O2.out.rows.len
      clear k0 k2 b3
      generalize w2.drewN nq = W2 at *
      go_wp2_with fail
      obtain ⟨W0, hW0⟩ : ∃ W0, W0 = W2.drew := ⟨_, rfl⟩
      have b0 : Below W2.heap.size W2 W0 := by rw [hW0]; exact (Below.refl _ _).drew
      replace x0 := below_cells b0 x0
      replace x1 := below_cells b0 x1
      replace x2 := below_cells b0 x2
      replace k1 := below_cells b0 k1
      have M0 := Lib.hid (M.out.below b0)
      have U1 := Lib.hid (UU.out.below b0)
      have HW := Lib.hid hW0
      have BS := Lib.hid (bsearch (l) (by omega) h (.slice up h.vec.length uc) _ _ W0 M0.out.1.hits (rankZ (l) h) (rankZ_le _ _) (fun k hk hr => rankZ_below hk hr) (fun k hk hr => rankZ_above SR.out hk hr))
      have RL := rankZ_le (l) h
      clear hW0 b0
      refine region_go (fun w' => w'.cell? ⟨c, 1, none⟩ = some (.slice p l.length cap) ∧ w'.cell? ⟨w.heap.size, 0, none⟩ = some (.int .u64 h.id) ∧ w'.cell? ⟨w.heap.size, 1, none⟩ = some (.int .u64 h.dist) ∧ w'.cell? ⟨w.heap.size, 2, none⟩ = some (.slice up h.vec.length uc)) (by kernel_rfl) ?hS0 (fun hH => ?_)
      case hS0 =>
        rw [← HW.out]; exact ⟨k1, x0, x1, x2⟩
      rw [← HW.out] at hH ⊢
      refine kY 0 hH ?_
      repeat simp only [Act.put, uA1, uB1, uC1]
      refine kY 1 hH ?_
      repeat simp only [Act.put, uA1, uB1, uC1]
      refine kY 2 hH ?_
      repeat simp only [Act.put, uA1, uB1, uC1]
      refine kY 3 hH ?_
      repeat simp only [Act.put, uA1, uB1, uC1]
      refine kY 4 hH ?_
      repeat simp only [Act.put, uA1, uB1, uC1]
      refine spk 5 rfl (by decide +kernel) (by rfl) (fun K' hK => ?_)
      go_simp
      refine BS.out.mono ?_
      rintro e w4 ⟨bo, rfl, hb4⟩
      try dsimp only
      refine hK.out _ _ ?hS (fun hH' => ?_)
      case hS =>
        exact ⟨below_cells hb4 k1, below_cells hb4 x0, below_cells hb4 x1, below_cells hb4 x2⟩
      clear hK K' hH; have hH := hH'; clear hH'; repeat simp only [Act.put, uA1, uB1, uC1]
      refine kY 6 hH ?_
      repeat simp only [Act.put, uA1, uB1, uC1]
      refine kY 7 hH ?_
      repeat simp only [Act.put, uA1, uB1, uC1]
      refine kY 8 hH ?_
      repeat simp only [Act.put, uA1, uB1, uC1]
      refine kY 9 hH ?_
      repeat simp only [Act.put, uA1, uB1, uC1]
      refine kY 10 hH ?_
      repeat simp only [Act.put, uA1, uB1, uC1]
      refine wpAnyH_done (by decide +kernel) ?_ _
      replace x0 := below_cells hb4 x0
      replace x1 := below_cells hb4 x1
      replace x2 := below_cells hb4 x2
      replace k1 := below_cells hb4 k1
      have M4 := Lib.hid (M0.out.below hb4)
      have U4 := Lib.hid (U1.out.below hb4)
      clear hH hb4
      go_wp2_with fail
      obtain ⟨W5, hW5⟩ : ∃ W5, W5 = w4.drew := ⟨_, rfl⟩
      have b5 : Below w4.heap.size w4 W5 := by rw [hW5]; exact (Below.refl _ _).drew
      replace x0 := below_cells b5 x0
      replace x1 := below_cells b5 x1
      replace x2 := below_cells b5 x2
      replace k1 := below_cells b5 k1
      have M5 := Lib.hid (M4.out.below b5)
      have U5 := Lib.hid (U4.out.below b5)
      have HW5 := Lib.hid hW5
      have hB5 : B ≤ W5.heap.size := Nat.le_trans hB M5.out.2.2.2.2.size
      clear hW5 b5
      refine region_go (fun w' => w'.cell? ⟨w.heap.size, 0, none⟩ = some (.int .u64 h.id) ∧ w'.cell? ⟨w.heap.size, 1, none⟩ = some (.int .u64 h.dist) ∧ w'.cell? ⟨w.heap.size, 2, none⟩ = some (.slice up h.vec.length uc)) (by kernel_rfl) ?hS0 (fun hH => ?_)
      case hS0 =>
        rw [← HW5.out]; exact ⟨x0, x1, x2⟩
      rw [← HW5.out] at hH ⊢
      refine kY 0 hH ?_
      repeat simp only [Act.put, uA1, uB1, uC1]
      refine kY 1 hH ?_
      repeat simp only [Act.put, uA1, uB1, uC1]
      refine kY 2 hH ?_
      repeat simp only [Act.put, uA1, uB1, uC1]
      refine kY 3 hH ?_
      repeat simp only [Act.put, uA1, uB1, uC1]
      refine kY 5 hH ?_
      repeat simp only [Act.put, uA1, uB1, uC1]
      refine kY 6 hH ?_
      repeat simp only [Act.put, uA1, uB1, uC1]
      refine spB 4 7 rfl rfl ?hr ?hw ?hv (fun K' hK => ?b1_1) (fun K' hK => ?b2_1)
      case hr => decide +kernel
      case hw => rfl
      case hv => rfl
      case b1_1 =>
        go_simp
        try dsimp only
        refine hK.out _ _ ?hS (fun hH' => ?_)
        case hS =>
          exact hH
        clear hK K' hH; have hH := hH'; clear hH'; repeat simp only [Act.put, uA1, uB1, uC1]
        refine spk 7 rfl (by decide +kernel) (by rfl) (fun K' hK => ?_)
        go_simp
        refine (copyOf h _ _ U5.out hx).mono ?_
        rintro e w5 ⟨u4, rfl, hu4, hb5⟩
        obtain ⟨q4, m4, k4, rfl⟩ := own_form hu4
        have kc5 := below_cells hb5 k1
        have hcw5 : c < w5.heap.size := lt_of_cell kc5
        have y0 := below_cells hb5 x0
        have y1 := below_cells hb5 x1
        have y2 := below_cells hb5 x2
        have O5 := M5.out.1.below hb5
        have IN := Lib.hid (insert B p l.length cap (rankZ (l) h) rs ⟨h.id, h.dist, .slice q4 m4 k4⟩ w5.heap.size (w5.alloc (.cells #[.int .u64 h.id, .int .u64 h.dist, .slice q4 m4 k4] 38)) (by have := O5.row.alloc (.cells #[.int .u64 h.id, .int .u64 h.dist, .slice q4 m4 k4] 38); rw [hNR] at this; exact this) hNR (by omega) (by have := hb5.size; simp; omega) (by omega) rfl O5.rows.one (heap_alloc_new _ _) (fun e => by have := (O5.row.lt _ e).2; omega))
        have P5 := Lib.hid (And.intro hu4 (And.intro hb5 O5))
        clear hu4 O5
        try dsimp only
        refine hK.out _ _ ?hS (fun hH' => ?_)
        case hS =>
          exact ⟨y0, y1, y2⟩
        clear hK K' hH; have hH := hH'; clear hH'; repeat simp only [Act.put, uA1, uB1, uC1]
        refine spk 8 rfl (by decide +kernel) (by rfl) (fun K' hK => ?_)
        go_simp
        try dsimp only
        refine hK.out _ _ ?hS (fun hH' => ?_)
        case hS =>
          exact ⟨below_cells ((Below.refl _ _).alloc (Nat.le_refl _) _) y0, below_cells ((Below.refl _ _).alloc (Nat.le_refl _) _) y1, below_cells ((Below.refl _ _).alloc (Nat.le_refl _) _) y2⟩
        clear hK K' hH; have hH := hH'; clear hH'; repeat simp only [Act.put, uA1, uB1, uC1]
        refine spk 9 rfl (by decide +kernel) (by rfl) (fun K' hK => ?_)
        go_simp
        refine IN.out.mono ?_
        rintro e w6 ⟨q6, n6, c6, rfl, ho6, hm6, hv6⟩
        have O5a := P5.out.2.2.below ((Below.refl w5.heap.size w5).alloc (Nat.le_refl _) (.cells #[.int .u64 h.id, .int .u64 h.dist, .slice q4 m4 k4] 38))
        have hc6 : w6.heap[c]? = some (.cells #[.int .i64 most, .slice p l.length cap] 156 (0, 0)) := by rw [hm6.block c (lt_block O5a.obj) (own_not O5a.row O5a.obj (by decide))]; exact O5a.obj
        have j1 : w6.cell? ⟨c, 1, none⟩ = some (.slice p l.length cap) := by simp [World.cell?, hc6]
        have j2 : w6.frozen? ⟨c, 1, none⟩ = false := by simp [World.frozen?, hc6]
        have kb : ∀ a : Addr, a.block = w.heap.size → w6.cell? a = (w5.alloc (.cells #[.int .u64 h.id, .int .u64 h.dist, .slice q4 m4 k4] 38)).cell? a := fun a ha => World.cell?_of_block (by rw [ha]; exact hm6.block _ (by have := lt_of_cell y0; simp at this ⊢; omega) fun e => by have := VB.out _ e; omega)
        have z0 : w6.cell? ⟨w.heap.size, 0, none⟩ = some (.int .u64 h.id) := by rw [kb _ rfl]; exact below_cells ((Below.refl _ _).alloc (Nat.le_refl _) _) y0
        have z1 : w6.cell? ⟨w.heap.size, 1, none⟩ = some (.int .u64 h.dist) := by rw [kb _ rfl]; exact below_cells ((Below.refl _ _).alloc (Nat.le_refl _) _) y1
        have z2 : w6.cell? ⟨w.heap.size, 2, none⟩ = some (.slice up h.vec.length uc) := by rw [kb _ rfl]; exact below_cells ((Below.refl _ _).alloc (Nat.le_refl _) _) y2
        have E6 := Lib.hid (tail_end M5.out hB5 OO.out.2.2.2.2 P5.out.2.1 P5.out.1 (by rw [hNR]; exact ho6) hm6 hv6)
        have hbc : w.heap.size ≠ c := fun e => by have := OO.out.2.2.2.2 c OO.out.2.1; omega
        clear O5a hc6 ho6 hm6 hv6 kb
        try dsimp only
        refine hK.out _ _ ?hS (fun hH' => ?_)
        case hS =>
          exact ⟨z0, z1, z2⟩
        clear hK K' hH; have hH := hH'; clear hH'; repeat simp only [Act.put, uA1, uB1, uC1]
        refine kY 10 hH ?_
        repeat simp only [Act.put, uA1, uB1, uC1]
        refine kY 11 hH ?_
        repeat simp only [Act.put, uA1, uB1, uC1]
        refine spk 12 rfl (by decide +kernel) (by rfl) (fun K' hK => ?_)
        go_simp
        try dsimp only
        refine hK.out _ _ ?hS (fun hH' => ?_)
        case hS =>
          exact ⟨by rw [World.cell?_setCell_other _ _ _ _ (by simp [])]; exact z0, by rw [World.cell?_setCell_other _ _ _ _ (by simp [])]; exact z1, by rw [World.cell?_setCell_other _ _ _ _ (by simp [])]; exact z2⟩
        clear hK K' hH; have hH := hH'; clear hH'; repeat simp only [Act.put, uA1, uB1, uC1]
        refine wpAnyH_done (by decide +kernel) ?_ _
        clear hH z0 z1 z2 j1 j2 kc5 y0 y1 y2
        go_wp2_with fail
        go_ret
        rw [HA.out]
        exact E6.out
      case b2_1 =>
        go_simp
        refine (copyOf h _ _ U5.out hx).mono ?_
        rintro e w5 ⟨u4, rfl, hu4, hb5⟩
        obtain ⟨q4, m4, k4, rfl⟩ := own_form hu4
        have kc5 := below_cells hb5 k1
        have hcw5 : c < w5.heap.size := lt_of_cell kc5
        have y0 := below_cells hb5 x0
        have y1 := below_cells hb5 x1
        have y2 := below_cells hb5 x2
        have O5 := M5.out.1.below hb5
        have IN := Lib.hid (insert B p l.length cap (rankZ (l) h) rs ⟨h.id, h.dist, .slice q4 m4 k4⟩ w5.heap.size (w5.alloc (.cells #[.int .u64 h.id, .int .u64 h.dist, .slice q4 m4 k4] 38)) (by have := O5.row.alloc (.cells #[.int .u64 h.id, .int .u64 h.dist, .slice q4 m4 k4] 38); rw [hNR] at this; exact this) hNR (by omega) (by have := hb5.size; simp; omega) (by omega) rfl O5.rows.one (heap_alloc_new _ _) (fun e => by have := (O5.row.lt _ e).2; omega))
        have P5 := Lib.hid (And.intro hu4 (And.intro hb5 O5))
        clear hu4 O5
        try dsimp only
        refine hK.out _ _ ?hS (fun hH' => ?_)
        case hS =>
          exact ⟨y0, y1, y2⟩
        clear hK K' hH; have hH := hH'; clear hH'; repeat simp only [Act.put, uA1, uB1, uC1]
        refine spB 4 8 rfl rfl ?hr ?hw ?hv (fun K' hK => ?b1_2) (fun K' hK => ?b2_2)
        case hr => decide +kernel
        case hw => rfl
        case hv => rfl
        case b1_2 =>
          go_simp
          try dsimp only
          refine hK.out _ _ ?hS (fun hH' => ?_)
          case hS =>
            exact hH
          clear hK K' hH; have hH := hH'; clear hH'; repeat simp only [Act.put, uA1, uB1, uC1]
          refine spk 8 rfl (by decide +kernel) (by rfl) (fun K' hK => ?_)
          go_simp
          try dsimp only
          refine hK.out _ _ ?hS (fun hH' => ?_)
          case hS =>
            exact ⟨below_cells ((Below.refl _ _).alloc (Nat.le_refl _) _) y0, below_cells ((Below.refl _ _).alloc (Nat.le_refl _) _) y1, below_cells ((Below.refl _ _).alloc (Nat.le_refl _) _) y2⟩
          clear hK K' hH; have hH := hH'; clear hH'; repeat simp only [Act.put, uA1, uB1, uC1]
          refine spk 9 rfl (by decide +kernel) (by rfl) (fun K' hK => ?_)
          go_simp
          refine IN.out.mono ?_
          rintro e w6 ⟨q6, n6, c6, rfl, ho6, hm6, hv6⟩
          have O5a := P5.out.2.2.below ((Below.refl w5.heap.size w5).alloc (Nat.le_refl _) (.cells #[.int .u64 h.id, .int .u64 h.dist, .slice q4 m4 k4] 38))
          have hc6 : w6.heap[c]? = some (.cells #[.int .i64 most, .slice p l.length cap] 156 (0, 0)) := by rw [hm6.block c (lt_block O5a.obj) (own_not O5a.row O5a.obj (by decide))]; exact O5a.obj
          have j1 : w6.cell? ⟨c, 1, none⟩ = some (.slice p l.length cap) := by simp [World.cell?, hc6]
          have j2 : w6.frozen? ⟨c, 1, none⟩ = false := by simp [World.frozen?, hc6]
          have kb : ∀ a : Addr, a.block = w.heap.size → w6.cell? a = (w5.alloc (.cells #[.int .u64 h.id, .int .u64 h.dist, .slice q4 m4 k4] 38)).cell? a := fun a ha => World.cell?_of_block (by rw [ha]; exact hm6.block _ (by have := lt_of_cell y0; simp at this ⊢; omega) fun e => by have := VB.out _ e; omega)
          have z0 : w6.cell? ⟨w.heap.size, 0, none⟩ = some (.int .u64 h.id) := by rw [kb _ rfl]; exact below_cells ((Below.refl _ _).alloc (Nat.le_refl _) _) y0
          have z1 : w6.cell? ⟨w.heap.size, 1, none⟩ = some (.int .u64 h.dist) := by rw [kb _ rfl]; exact below_cells ((Below.refl _ _).alloc (Nat.le_refl _) _) y1
          have z2 : w6.cell? ⟨w.heap.size, 2, none⟩ = some (.slice up h.vec.length uc) := by rw [kb _ rfl]; exact below_cells ((Below.refl _ _).alloc (Nat.le_refl _) _) y2
          have E6 := Lib.hid (tail_end M5.out hB5 OO.out.2.2.2.2 P5.out.2.1 P5.out.1 (by rw [hNR]; exact ho6) hm6 hv6)
          have hbc : w.heap.size ≠ c := fun e => by have := OO.out.2.2.2.2 c OO.out.2.1; omega
          clear O5a hc6 ho6 hm6 hv6 kb
          try dsimp only
          refine hK.out _ _ ?hS (fun hH' => ?_)
          case hS =>
            exact ⟨z0, z1, z2⟩
          clear hK K' hH; have hH := hH'; clear hH'; repeat simp only [Act.put, uA1, uB1, uC1]
          refine kY 10 hH ?_
          repeat simp only [Act.put, uA1, uB1, uC1]
          refine kY 11 hH ?_
          repeat simp only [Act.put, uA1, uB1, uC1]
          refine spk 12 rfl (by decide +kernel) (by rfl) (fun K' hK => ?_)
          go_simp
          try dsimp only
          refine hK.out _ _ ?hS (fun hH' => ?_)
          case hS =>
            exact ⟨by rw [World.cell?_setCell_other _ _ _ _ (by simp [])]; exact z0, by rw [World.cell?_setCell_other _ _ _ _ (by simp [])]; exact z1, by rw [World.cell?_setCell_other _ _ _ _ (by simp [])]; exact z2⟩
          clear hK K' hH; have hH := hH'; clear hH'; repeat simp only [Act.put, uA1, uB1, uC1]
          refine wpAnyH_done (by decide +kernel) ?_ _
          clear hH z0 z1 z2 j1 j2 kc5 y0 y1 y2
          go_wp2_with fail
          go_ret
          rw [HA.out]
          exact E6.out
        case b2_2 =>
          go_simp
          try dsimp only
          refine hK.out _ _ ?hS (fun hH' => ?_)
          case hS =>
            exact ⟨below_cells ((Below.refl _ _).alloc (Nat.le_refl _) _) y0, below_cells ((Below.refl _ _).alloc (Nat.le_refl _) _) y1, below_cells ((Below.refl _ _).alloc (Nat.le_refl _) _) y2⟩
          clear hK K' hH; have hH := hH'; clear hH'; repeat simp only [Act.put, uA1, uB1, uC1]
          refine spk 4 rfl (by decide +kernel) (by rfl) (fun K' hK => ?_)
          go_simp
          try dsimp only
          refine hK.out _ _ ?hS (fun hH' => ?_)
          case hS =>
            exact hH
          clear hK K' hH; have hH := hH'; clear hH'; repeat simp only [Act.put, uA1, uB1, uC1]
          refine spk 9 rfl (by decide +kernel) (by rfl) (fun K' hK => ?_)
          go_simp
          refine IN.out.mono ?_
          rintro e w6 ⟨q6, n6, c6, rfl, ho6, hm6, hv6⟩
          have O5a := P5.out.2.2.below ((Below.refl w5.heap.size w5).alloc (Nat.le_refl _) (.cells #[.int .u64 h.id, .int .u64 h.dist, .slice q4 m4 k4] 38))
          have hc6 : w6.heap[c]? = some (.cells #[.int .i64 most, .slice p l.length cap] 156 (0, 0)) := by rw [hm6.block c (lt_block O5a.obj) (own_not O5a.row O5a.obj (by decide))]; exact O5a.obj
          have j1 : w6.cell? ⟨c, 1, none⟩ = some (.slice p l.length cap) := by simp [World.cell?, hc6]
          have j2 : w6.frozen? ⟨c, 1, none⟩ = false := by simp [World.frozen?, hc6]
          have kb : ∀ a : Addr, a.block = w.heap.size → w6.cell? a = (w5.alloc (.cells #[.int .u64 h.id, .int .u64 h.dist, .slice q4 m4 k4] 38)).cell? a := fun a ha => World.cell?_of_block (by rw [ha]; exact hm6.block _ (by have := lt_of_cell y0; simp at this ⊢; omega) fun e => by have := VB.out _ e; omega)
          have z0 : w6.cell? ⟨w.heap.size, 0, none⟩ = some (.int .u64 h.id) := by rw [kb _ rfl]; exact below_cells ((Below.refl _ _).alloc (Nat.le_refl _) _) y0
          have z1 : w6.cell? ⟨w.heap.size, 1, none⟩ = some (.int .u64 h.dist) := by rw [kb _ rfl]; exact below_cells ((Below.refl _ _).alloc (Nat.le_refl _) _) y1
          have z2 : w6.cell? ⟨w.heap.size, 2, none⟩ = some (.slice up h.vec.length uc) := by rw [kb _ rfl]; exact below_cells ((Below.refl _ _).alloc (Nat.le_refl _) _) y2
          have E6 := Lib.hid (tail_end M5.out hB5 OO.out.2.2.2.2 P5.out.2.1 P5.out.1 (by rw [hNR]; exact ho6) hm6 hv6)
          have hbc : w.heap.size ≠ c := fun e => by have := OO.out.2.2.2.2 c OO.out.2.1; omega
          clear O5a hc6 ho6 hm6 hv6 kb
          try dsimp only
          refine hK.out _ _ ?hS (fun hH' => ?_)
          case hS =>
            exact ⟨z0, z1, z2⟩
          clear hK K' hH; have hH := hH'; clear hH'; repeat simp only [Act.put, uA1, uB1, uC1]
          refine kY 10 hH ?_
          repeat simp only [Act.put, uA1, uB1, uC1]
          refine kY 11 hH ?_
          repeat simp only [Act.put, uA1, uB1, uC1]
          refine spk 12 rfl (by decide +kernel) (by rfl) (fun K' hK => ?_)
          go_simp
          try dsimp only
          refine hK.out _ _ ?hS (fun hH' => ?_)
          case hS =>
            exact ⟨by rw [World.cell?_setCell_other _ _ _ _ (by simp [])]; exact z0, by rw [World.cell?_setCell_other _ _ _ _ (by simp [])]; exact z1, by rw [World.cell?_setCell_other _ _ _ _ (by simp [])]; exact z2⟩
          clear hK K' hH; have hH := hH'; clear hH'; repeat simp only [Act.put, uA1, uB1, uC1]
          refine wpAnyH_done (by decide +kernel) ?_ _
          clear hH z0 z1 z2 j1 j2 kc5 y0 y1 y2
          go_wp2_with fail
          go_ret
          rw [HA.out]
          exact E6.out
    · have HEQ := Lib.hid heq
      obtain ⟨g, cg, hv, -, -⟩ := O2.out.row.form (by rw [O2.out.rows.len]; omega)
      obtain ⟨rfl, -, rfl⟩ := Value.slice.inj hv
      obtain ⟨n1, hn1⟩ : ∃ n1, n1 = most - 1 := ⟨_, rfl⟩
      rw [← hn1] at hrest
      have hk : n1 < l.length := by omega
      obtain ⟨bz, hbz, ha⟩ : ∃ bz, near h l[n1] = bz ∧ addZ most l h = (if bz = true then (true, insZ (l.take n1) h) else (false, l)) := by
        obtain ⟨_, ⟨h1, h2⟩ | ⟨h1, h2⟩⟩ := hrest
        · exact ⟨_, h1, h2⟩
        · exact ⟨_, h1, h2⟩
      clear hrest
      obtain ⟨rs', -, -, hel⟩ := O2.out.hits.rows
      obtain ⟨bb, off, up', uc', -, hpb, -, -, c0, c1, c2, -, -⟩ := hel n1 hk
      obtain ⟨rfl, rfl⟩ : g = bb ∧ 0 = off := by simpa using hpb
      simp only [Nat.zero_add] at c0 c1 c2
      have hz : ((l.length : Int) == (most : Int)) = true := by rw [beq_iff_eq]; omega
      have HSUB := Lib.hid (show IntKind.i64.wrap ((most : Int) - 1) = (n1 : Int) by rw [IntWalk.i64_in _ (by omega)]; omega)
      have NB := Lib.hid (show nearB h.id h.dist l[n1].id l[n1].dist = bz from hbz)
      have HA := Lib.hid ha
      have N1 := Lib.hid (show l.length = n1 + 1 by omega)
      have hn0 : (0 : Int) ≤ (n1 : Int) := by omega
      have hnl : (n1 : Int) < (l.length : Int) := by omega
      have hnc : n1 ≤ cap := by omega
      have hrl : rs.length = l.length := O2.out.rows.len
      clear hel ha hp hpb heq hbz hn1 hv
      go_wp2_with fail
      go_quiet (fail)
      have b3 := below_drewN (Below.refl w2.heap.size w2) nq
      replace x0 := below_cells b3 x0
      replace x1 := below_cells b3 x1
      replace x2 := below_cells b3 x2
      replace k0 := below_cells b3 k0
      replace k2 := below_frozen b3 (lt_of_cell k1) k2
      replace k1 := below_cells b3 k1
      replace c0 := below_cells b3 c0
      replace c1 := below_cells b3 c1
      replace c2 := below_cells b3 c2
      have O3 := Lib.hid (O2.out.below b3)
      have B3 := Lib.hid (B2.out.trans (b3.mono B2.out.size))
      clear b3
      generalize w2.drewN nq = W3 at *
      go_wp2_with fail
      obtain ⟨W0, hW0⟩ : ∃ W0, W0 = W3.drew := ⟨_, rfl⟩
      have b0 : Below W3.heap.size W3 W0 := by rw [hW0]; exact (Below.refl _ _).drew
      replace x0 := below_cells b0 x0
      replace x1 := below_cells b0 x1
      replace x2 := below_cells b0 x2
      replace k0 := below_cells b0 k0
      replace k2 := below_frozen b0 (lt_of_cell k1) k2
      replace k1 := below_cells b0 k1
      replace c0 := below_cells b0 c0
      replace c1 := below_cells b0 c1
      replace c2 := below_cells b0 c2
      have O4 := Lib.hid (O3.out.below b0)
      have B4 := Lib.hid (B3.out.trans (b0.mono B3.out.size))
      have HW := Lib.hid hW0
      have hcW : c < W0.heap.size := lt_of_cell k1
      have hs1 := HSUB.out
      have ht1 : ((n1 : Int)).toNat = n1 := Int.toNat_natCast _
      clear hW0 b0
      refine region_go (fun w' => w'.cell? ⟨c, 0, none⟩ = some (.int .i64 most) ∧ w'.cell? ⟨c, 1, none⟩ = some (.slice (some ⟨g, 0, none⟩) l.length cap) ∧ w'.frozen? ⟨c, 1, none⟩ = false ∧ w'.cell? ⟨w.heap.size, 0, none⟩ = some (.int .u64 h.id) ∧ w'.cell? ⟨w.heap.size, 1, none⟩ = some (.int .u64 h.dist) ∧ w'.cell? ⟨w.heap.size, 2, none⟩ = some (.slice up h.vec.length uc) ∧ w'.cell? ⟨g, n1 * 3, none⟩ = some (.int .u64 l[n1].id) ∧ w'.cell? ⟨g, n1 * 3 + 1, none⟩ = some (.int .u64 l[n1].dist) ∧ w'.cell? ⟨g, n1 * 3 + 1 + 1, none⟩ = some (.slice up' l[n1].vec.length uc')) (by kernel_rfl) ?hS0 (fun hH => ?_)
      case hS0 =>
        rw [← HW.out]; exact ⟨k0, k1, k2, x0, x1, x2, c0, c1, c2⟩
      rw [← HW.out] at hH ⊢
      refine kY 0 hH ?_
      repeat simp only [Act.put, uA1, uB1, uC1]
      refine kY 1 hH ?_
      repeat simp only [Act.put, uA1, uB1, uC1]
      refine kY 2 hH ?_
      repeat simp only [Act.put, uA1, uB1, uC1]
      refine kY 3 hH ?_
      repeat simp only [Act.put, uA1, uB1, uC1]
      refine kY 4 hH ?_
      repeat simp only [Act.put, uA1, uB1, uC1]
      refine kY 5 hH ?_
      repeat simp only [Act.put, uA1, uB1, uC1]
      refine kY 6 hH ?_
      repeat simp only [Act.put, uA1, uB1, uC1]
      refine kY 7 hH ?_
      repeat simp only [Act.put, uA1, uB1, uC1]
      refine kY 8 hH ?_
      repeat simp only [Act.put, uA1, uB1, uC1]
      refine kY 9 hH ?_
      repeat simp only [Act.put, uA1, uB1, uC1]
      refine kY 10 hH ?_
      repeat simp only [Act.put, uA1, uB1, uC1]
      refine kY 11 hH ?_
      repeat simp only [Act.put, uA1, uB1, uC1]
      refine spk 12 rfl (by decide +kernel) (by rfl) (fun K' hK => ?_)
      go_simp
      with_reducible refine (nearer h.id h.dist l[n1].id l[n1].dist _ _ _).mono ?_
      rintro e w4 ⟨rfl, hb4⟩
      try dsimp only
      refine hK.out _ _ ?hS (fun hH' => ?_)
      case hS =>
        exact ⟨below_cells hb4 k0, below_cells hb4 k1, below_frozen hb4 hcW k2, below_cells hb4 x0, below_cells hb4 x1, below_cells hb4 x2, below_cells hb4 c0, below_cells hb4 c1, below_cells hb4 c2⟩
      clear hK K' hH; have hH := hH'; clear hH'; repeat simp only [Act.put, uA1, uB1, uC1]
      refine kY 13 hH ?_
      repeat simp only [Act.put, uA1, uB1, uC1]
      refine wpAnyH_done (by decide +kernel) ?_ _
      have hnb := NB.out
      replace x0 := below_cells hb4 x0
      replace x1 := below_cells hb4 x1
      replace x2 := below_cells hb4 x2
      replace k2 := below_frozen hb4 hcW k2
      replace k0 := below_cells hb4 k0
      replace k1 := below_cells hb4 k1
      have O5 := Lib.hid (O4.out.below hb4)
      have B5 := Lib.hid (B4.out.trans (hb4.mono B4.out.size))
      clear hH c0 c1 c2 hb4
      cases bz
      · rw [hnb]
        clear hnb
        go_wp2_with fail
        go_ret
        rw [HA.out]
        exact add_same L0.out B5.out
      rw [hnb]
      clear hnb
      replace HA := Lib.hid (show addZ most l h = (true, insZ (l.take n1) h) from by simpa using HA.out)
      go_wp2_with fail
      obtain ⟨W6, hW6⟩ : ∃ W6, W6 = w4.drew := ⟨_, rfl⟩
      have b6 : Below w4.heap.size w4 W6 := by rw [hW6]; exact (Below.refl _ _).drew
      replace x0 := below_cells b6 x0
      replace x1 := below_cells b6 x1
      replace x2 := below_cells b6 x2
      replace k0 := below_cells b6 k0
      replace k2 := below_frozen b6 (lt_of_cell k1) k2
      replace k1 := below_cells b6 k1
      have O6 := Lib.hid (O5.out.below b6)
      have B6 := Lib.hid (B5.out.trans (b6.mono B5.out.size))
      have HW6 := Lib.hid hW6
      clear hW6 b6 HW O5 B5
      refine region_go (fun w' => w'.cell? ⟨c, 0, none⟩ = some (.int .i64 most)) (by kernel_rfl) ?hS0 (fun hH => ?_)
      case hS0 =>
        rw [← HW6.out]; exact k0
      rw [← HW6.out] at hH ⊢
      refine kY 0 hH ?_
      repeat simp only [Act.put, uA1, uB1, uC1]
      refine kY 1 hH ?_
      repeat simp only [Act.put, uA1, uB1, uC1]
      refine kY 2 hH ?_
      repeat simp only [Act.put, uA1, uB1, uC1]
      refine kY 3 hH ?_
      repeat simp only [Act.put, uA1, uB1, uC1]
      refine kY 5 hH ?_
      repeat simp only [Act.put, uA1, uB1, uC1]
      refine kY 6 hH ?_
      repeat simp only [Act.put, uA1, uB1, uC1]
      refine kY 7 hH ?_
      repeat simp only [Act.put, uA1, uB1, uC1]
      refine kY 8 hH ?_
      repeat simp only [Act.put, uA1, uB1, uC1]
      refine kY 9 hH ?_
      repeat simp only [Act.put, uA1, uB1, uC1]
      refine spk 4 rfl (by decide +kernel) (by rfl) (fun K' hK => ?_)
      go_simp
      try dsimp only
      refine hK.out _ _ ?hS (fun hH' => ?_)
      case hS =>
        exact hH
      clear hK K' hH; have hH := hH'; clear hH'; repeat simp only [Act.put, uA1, uB1, uC1]
      refine kY 10 hH ?_
      repeat simp only [Act.put, uA1, uB1, uC1]
      refine kY 11 hH ?_
      repeat simp only [Act.put, uA1, uB1, uC1]
      refine kY 12 hH ?_
      repeat simp only [Act.put, uA1, uB1, uC1]
      refine spk 13 rfl (by decide +kernel) (by rfl) (fun K' hK => ?_)
      go_simp
      try dsimp only
      refine hK.out _ _ ?hS (fun hH' => ?_)
      case hS =>
        exact (World.cell?_setCell_other _ _ _ _ (by simp)).trans hH
      clear hK K' hH; have hH := hH'; clear hH'; repeat simp only [Act.put, uA1, uB1, uC1]
      refine wpAnyH_done (by decide +kernel) ?_ _
      clear hH
      have hl1 := N1.out
      have hgw : g < w.heap.size := OO.out.2.2.2.2 g (OO.out.2.2.1 g rfl)
      have hel : (rs.take n1).length = n1 := by rw [List.length_take]; omega
      have hll2 : (l.take n1).length = n1 := by rw [List.length_take]; omega
      have hput := O6.out.put (v' := .slice (some ⟨g, 0, none⟩) n1 cap) (w1 := W6) (rs' := rs.take n1) (l' := l.take n1) (G' := G) (Mod.refl _ _) (by
        have := own_prefix (k := n1) (by have h9 := O6.out.row; rw [hrl] at h9; exact h9) (by omega)
        rw [flat3_take] at this
        rw [hel]
        exact this) (O6.out.rows.take n1) O6.out.gc (fun b hb => by cases hb; exact O6.out.gv g rfl) O6.out.glo O6.out.ghi
      have hmod : Mod F w (W6.setCell ⟨c, 1, none⟩ (.slice (some ⟨g, 0, none⟩) n1 cap)) := (Mod.of_below (F := F) B6.out).setCell (.inl OO.out.2.1) _
      have hbox : ∀ a : Addr, a.block = w.heap.size → (W6.setCell ⟨c, 1, none⟩ (.slice (some ⟨g, 0, none⟩) n1 cap)).cell? a = W6.cell? a := fun a ha => World.cell?_setCell_other _ _ _ _ (fun e => by have := OO.out.2.2.2.2 c OO.out.2.1; rw [← e] at ha; simp at ha; omega)
      replace x0 := (hbox ⟨w.heap.size, 0, none⟩ rfl).trans x0
      replace x1 := (hbox ⟨w.heap.size, 1, none⟩ rfl).trans x1
      replace x2 := (hbox ⟨w.heap.size, 2, none⟩ rfl).trans x2
      replace k1 := hput.cells.2.1
      have UU := Lib.hid (U0.out.modOff UE.out hmod)
      have M := Lib.hid (show MidAt w (W6.setCell ⟨c, 1, none⟩ (.slice (some ⟨g, 0, none⟩) n1 cap)) B c F most (.slice (some ⟨g, 0, none⟩) n1 cap) (rs.take n1) G (l.take n1) from ⟨hput, OO.out.2.1, fun b hb => .inl (by cases hb; exact OO.out.2.2.1 g rfl), fun j hj => .inl (OO.out.2.2.2.1 j hj), hmod⟩)
      have SR := Lib.hid (show Sorted (l.take n1) from S.out.sublist (List.take_sublist _ _))
      have VB := Lib.hid (fun b (hb : (Value.slice (some ⟨g, 0, none⟩) n1 cap).ownBlock = some b) => (show b < w.heap.size from by cases hb; exact hgw))
      have hNR := hel
      have hn1'' : n1 + 1 ≤ most := by omega
      clear k0 k2 hput hmod hbox hel hl1 hrl
      generalize (W6.setCell ⟨c, 1, none⟩ (.slice (some ⟨g, 0, none⟩) n1 cap)) = W7 at *
      go_wp2_with fail
      obtain ⟨W0, hW0⟩ : ∃ W0, W0 = W7.drew := ⟨_, rfl⟩
      have b0 : Below W7.heap.size W7 W0 := by rw [hW0]; exact (Below.refl _ _).drew
      replace x0 := below_cells b0 x0
      replace x1 := below_cells b0 x1
      replace x2 := below_cells b0 x2
      replace k1 := below_cells b0 k1
      have M0 := Lib.hid (M.out.below b0)
      have U1 := Lib.hid (UU.out.below b0)
      have HW := Lib.hid hW0
      have BS := Lib.hid (bsearch ((l.take n1)) (by omega) h (.slice up h.vec.length uc) _ _ W0 M0.out.1.hits (rankZ ((l.take n1)) h) (rankZ_le _ _) (fun k hk hr => rankZ_below hk hr) (fun k hk hr => rankZ_above SR.out hk hr))
      have RL := rankZ_le ((l.take n1)) h
      clear hW0 b0
      refine region_go (fun w' => w'.cell? ⟨c, 1, none⟩ = some (.slice (some ⟨g, 0, none⟩) n1 cap) ∧ w'.cell? ⟨w.heap.size, 0, none⟩ = some (.int .u64 h.id) ∧ w'.cell? ⟨w.heap.size, 1, none⟩ = some (.int .u64 h.dist) ∧ w'.cell? ⟨w.heap.size, 2, none⟩ = some (.slice up h.vec.length uc)) (by kernel_rfl) ?hS0 (fun hH => ?_)
      case hS0 =>
        rw [← HW.out]; exact ⟨k1, x0, x1, x2⟩
      rw [← HW.out] at hH ⊢
      refine kY 0 hH ?_
      repeat simp only [Act.put, uA1, uB1, uC1]
      refine kY 1 hH ?_
      repeat simp only [Act.put, uA1, uB1, uC1]
      refine kY 2 hH ?_
      repeat simp only [Act.put, uA1, uB1, uC1]
      refine kY 3 hH ?_
      repeat simp only [Act.put, uA1, uB1, uC1]
      refine kY 4 hH ?_
      repeat simp only [Act.put, uA1, uB1, uC1]
      refine spk 5 rfl (by decide +kernel) (by rfl) (fun K' hK => ?_)
      go_simp
      refine BS.out.mono ?_
      rintro e w4 ⟨bo, rfl, hb4⟩
      try dsimp only
      refine hK.out _ _ ?hS (fun hH' => ?_)
      case hS =>
        exact ⟨below_cells hb4 k1, below_cells hb4 x0, below_cells hb4 x1, below_cells hb4 x2⟩
      clear hK K' hH; have hH := hH'; clear hH'; repeat simp only [Act.put, uA1, uB1, uC1]
      refine kY 6 hH ?_
      repeat simp only [Act.put, uA1, uB1, uC1]
      refine kY 7 hH ?_
      repeat simp only [Act.put, uA1, uB1, uC1]
      refine kY 8 hH ?_
      repeat simp only [Act.put, uA1, uB1, uC1]
      refine kY 9 hH ?_
      repeat simp only [Act.put, uA1, uB1, uC1]
      refine kY 10 hH ?_
      repeat simp only [Act.put, uA1, uB1, uC1]
      refine wpAnyH_done (by decide +kernel) ?_ _
      replace x0 := below_cells hb4 x0
      replace x1 := below_cells hb4 x1
      replace x2 := below_cells hb4 x2
      replace k1 := below_cells hb4 k1
      have M4 := Lib.hid (M0.out.below hb4)
      have U4 := Lib.hid (U1.out.below hb4)
      clear hH hb4
      go_wp2_with fail
      obtain ⟨W5, hW5⟩ : ∃ W5, W5 = w4.drew := ⟨_, rfl⟩
      have b5 : Below w4.heap.size w4 W5 := by rw [hW5]; exact (Below.refl _ _).drew
      replace x0 := below_cells b5 x0
      replace x1 := below_cells b5 x1
      replace x2 := below_cells b5 x2
      replace k1 := below_cells b5 k1
      have M5 := Lib.hid (M4.out.below b5)
      have U5 := Lib.hid (U4.out.below b5)
      have HW5 := Lib.hid hW5
      have hB5 : B ≤ W5.heap.size := Nat.le_trans hB M5.out.2.2.2.2.size
      clear hW5 b5
      refine region_go (fun w' => w'.cell? ⟨w.heap.size, 0, none⟩ = some (.int .u64 h.id) ∧ w'.cell? ⟨w.heap.size, 1, none⟩ = some (.int .u64 h.dist) ∧ w'.cell? ⟨w.heap.size, 2, none⟩ = some (.slice up h.vec.length uc)) (by kernel_rfl) ?hS0 (fun hH => ?_)
      case hS0 =>
        rw [← HW5.out]; exact ⟨x0, x1, x2⟩
      rw [← HW5.out] at hH ⊢
      refine kY 0 hH ?_
      repeat simp only [Act.put, uA1, uB1, uC1]
      refine kY 1 hH ?_
      repeat simp only [Act.put, uA1, uB1, uC1]
      refine kY 2 hH ?_
      repeat simp only [Act.put, uA1, uB1, uC1]
      refine kY 3 hH ?_
      repeat simp only [Act.put, uA1, uB1, uC1]
      refine kY 5 hH ?_
      repeat simp only [Act.put, uA1, uB1, uC1]
      refine kY 6 hH ?_
      repeat simp only [Act.put, uA1, uB1, uC1]
      refine spB 4 7 rfl rfl ?hr ?hw ?hv (fun K' hK => ?b1_1) (fun K' hK => ?b2_1)
      case hr => decide +kernel
      case hw => rfl
      case hv => rfl
      case b1_1 =>
        go_simp
        try dsimp only
        refine hK.out _ _ ?hS (fun hH' => ?_)
        case hS =>
          exact hH
        clear hK K' hH; have hH := hH'; clear hH'; repeat simp only [Act.put, uA1, uB1, uC1]
        refine spk 7 rfl (by decide +kernel) (by rfl) (fun K' hK => ?_)
        go_simp
        refine (copyOf h _ _ U5.out hx).mono ?_
        rintro e w5 ⟨u4, rfl, hu4, hb5⟩
        obtain ⟨q4, m4, k4, rfl⟩ := own_form hu4
        have kc5 := below_cells hb5 k1
        have hcw5 : c < w5.heap.size := lt_of_cell kc5
        have y0 := below_cells hb5 x0
        have y1 := below_cells hb5 x1
        have y2 := below_cells hb5 x2
        have O5 := M5.out.1.below hb5
        have IN := Lib.hid (insert B (some ⟨g, 0, none⟩) n1 cap (rankZ ((l.take n1)) h) (rs.take n1) ⟨h.id, h.dist, .slice q4 m4 k4⟩ w5.heap.size (w5.alloc (.cells #[.int .u64 h.id, .int .u64 h.dist, .slice q4 m4 k4] 38)) (by have := O5.row.alloc (.cells #[.int .u64 h.id, .int .u64 h.dist, .slice q4 m4 k4] 38); rw [hNR] at this; exact this) hNR (by omega) (by have := hb5.size; simp; omega) (by omega) rfl O5.rows.one (heap_alloc_new _ _) (fun e => by have := (O5.row.lt _ e).2; omega))
        have P5 := Lib.hid (And.intro hu4 (And.intro hb5 O5))
        clear hu4 O5
        try dsimp only
        refine hK.out _ _ ?hS (fun hH' => ?_)
        case hS =>
          exact ⟨y0, y1, y2⟩
        clear hK K' hH; have hH := hH'; clear hH'; repeat simp only [Act.put, uA1, uB1, uC1]
        refine spk 8 rfl (by decide +kernel) (by rfl) (fun K' hK => ?_)
        go_simp
        try dsimp only
        refine hK.out _ _ ?hS (fun hH' => ?_)
        case hS =>
          exact ⟨below_cells ((Below.refl _ _).alloc (Nat.le_refl _) _) y0, below_cells ((Below.refl _ _).alloc (Nat.le_refl _) _) y1, below_cells ((Below.refl _ _).alloc (Nat.le_refl _) _) y2⟩
        clear hK K' hH; have hH := hH'; clear hH'; repeat simp only [Act.put, uA1, uB1, uC1]
        refine spk 9 rfl (by decide +kernel) (by rfl) (fun K' hK => ?_)
        go_simp
        refine IN.out.mono ?_
        rintro e w6 ⟨q6, n6, c6, rfl, ho6, hm6, hv6⟩
        have O5a := P5.out.2.2.below ((Below.refl w5.heap.size w5).alloc (Nat.le_refl _) (.cells #[.int .u64 h.id, .int .u64 h.dist, .slice q4 m4 k4] 38))
        have hc6 : w6.heap[c]? = some (.cells #[.int .i64 most, .slice (some ⟨g, 0, none⟩) n1 cap] 156 (0, 0)) := by rw [hm6.block c (lt_block O5a.obj) (own_not O5a.row O5a.obj (by decide))]; exact O5a.obj
        have j1 : w6.cell? ⟨c, 1, none⟩ = some (.slice (some ⟨g, 0, none⟩) n1 cap) := by simp [World.cell?, hc6]
        have j2 : w6.frozen? ⟨c, 1, none⟩ = false := by simp [World.frozen?, hc6]
        have kb : ∀ a : Addr, a.block = w.heap.size → w6.cell? a = (w5.alloc (.cells #[.int .u64 h.id, .int .u64 h.dist, .slice q4 m4 k4] 38)).cell? a := fun a ha => World.cell?_of_block (by rw [ha]; exact hm6.block _ (by have := lt_of_cell y0; simp at this ⊢; omega) fun e => by have := VB.out _ e; omega)
        have z0 : w6.cell? ⟨w.heap.size, 0, none⟩ = some (.int .u64 h.id) := by rw [kb _ rfl]; exact below_cells ((Below.refl _ _).alloc (Nat.le_refl _) _) y0
        have z1 : w6.cell? ⟨w.heap.size, 1, none⟩ = some (.int .u64 h.dist) := by rw [kb _ rfl]; exact below_cells ((Below.refl _ _).alloc (Nat.le_refl _) _) y1
        have z2 : w6.cell? ⟨w.heap.size, 2, none⟩ = some (.slice up h.vec.length uc) := by rw [kb _ rfl]; exact below_cells ((Below.refl _ _).alloc (Nat.le_refl _) _) y2
        have E6 := Lib.hid (tail_end M5.out hB5 OO.out.2.2.2.2 P5.out.2.1 P5.out.1 (by rw [hNR]; exact ho6) hm6 hv6)
        have hbc : w.heap.size ≠ c := fun e => by have := OO.out.2.2.2.2 c OO.out.2.1; omega
        clear O5a hc6 ho6 hm6 hv6 kb
        try dsimp only
        refine hK.out _ _ ?hS (fun hH' => ?_)
        case hS =>
          exact ⟨z0, z1, z2⟩
        clear hK K' hH; have hH := hH'; clear hH'; repeat simp only [Act.put, uA1, uB1, uC1]
        refine kY 10 hH ?_
        repeat simp only [Act.put, uA1, uB1, uC1]
        refine kY 11 hH ?_
        repeat simp only [Act.put, uA1, uB1, uC1]
        refine spk 12 rfl (by decide +kernel) (by rfl) (fun K' hK => ?_)
        go_simp
        try dsimp only
        refine hK.out _ _ ?hS (fun hH' => ?_)
        case hS =>
          exact ⟨by rw [World.cell?_setCell_other _ _ _ _ (by simp [])]; exact z0, by rw [World.cell?_setCell_other _ _ _ _ (by simp [])]; exact z1, by rw [World.cell?_setCell_other _ _ _ _ (by simp [])]; exact z2⟩
        clear hK K' hH; have hH := hH'; clear hH'; repeat simp only [Act.put, uA1, uB1, uC1]
        refine wpAnyH_done (by decide +kernel) ?_ _
        clear hH z0 z1 z2 j1 j2 kc5 y0 y1 y2
        go_wp2_with fail
        go_ret
        rw [HA.out]
        exact E6.out
      case b2_1 =>
        go_simp
        refine (copyOf h _ _ U5.out hx).mono ?_
        rintro e w5 ⟨u4, rfl, hu4, hb5⟩
        obtain ⟨q4, m4, k4, rfl⟩ := own_form hu4
        have kc5 := below_cells hb5 k1
        have hcw5 : c < w5.heap.size := lt_of_cell kc5
        have y0 := below_cells hb5 x0
        have y1 := below_cells hb5 x1
        have y2 := below_cells hb5 x2
        have O5 := M5.out.1.below hb5
        have IN := Lib.hid (insert B (some ⟨g, 0, none⟩) n1 cap (rankZ ((l.take n1)) h) (rs.take n1) ⟨h.id, h.dist, .slice q4 m4 k4⟩ w5.heap.size (w5.alloc (.cells #[.int .u64 h.id, .int .u64 h.dist, .slice q4 m4 k4] 38)) (by have := O5.row.alloc (.cells #[.int .u64 h.id, .int .u64 h.dist, .slice q4 m4 k4] 38); rw [hNR] at this; exact this) hNR (by omega) (by have := hb5.size; simp; omega) (by omega) rfl O5.rows.one (heap_alloc_new _ _) (fun e => by have := (O5.row.lt _ e).2; omega))
        have P5 := Lib.hid (And.intro hu4 (And.intro hb5 O5))
        clear hu4 O5
        try dsimp only
        refine hK.out _ _ ?hS (fun hH' => ?_)
        case hS =>
          exact ⟨y0, y1, y2⟩
        clear hK K' hH; have hH := hH'; clear hH'; repeat simp only [Act.put, uA1, uB1, uC1]
        refine spB 4 8 rfl rfl ?hr ?hw ?hv (fun K' hK => ?b1_2) (fun K' hK => ?b2_2)
        case hr => decide +kernel
        case hw => rfl
        case hv => rfl
        case b1_2 =>
          go_simp
          try dsimp only
          refine hK.out _ _ ?hS (fun hH' => ?_)
          case hS =>
            exact hH
          clear hK K' hH; have hH := hH'; clear hH'; repeat simp only [Act.put, uA1, uB1, uC1]
          refine spk 8 rfl (by decide +kernel) (by rfl) (fun K' hK => ?_)
          go_simp
          try dsimp only
          refine hK.out _ _ ?hS (fun hH' => ?_)
          case hS =>
            exact ⟨below_cells ((Below.refl _ _).alloc (Nat.le_refl _) _) y0, below_cells ((Below.refl _ _).alloc (Nat.le_refl _) _) y1, below_cells ((Below.refl _ _).alloc (Nat.le_refl _) _) y2⟩
          clear hK K' hH; have hH := hH'; clear hH'; repeat simp only [Act.put, uA1, uB1, uC1]
          refine spk 9 rfl (by decide +kernel) (by rfl) (fun K' hK => ?_)
          go_simp
          refine IN.out.mono ?_
          rintro e w6 ⟨q6, n6, c6, rfl, ho6, hm6, hv6⟩
          have O5a := P5.out.2.2.below ((Below.refl w5.heap.size w5).alloc (Nat.le_refl _) (.cells #[.int .u64 h.id, .int .u64 h.dist, .slice q4 m4 k4] 38))
          have hc6 : w6.heap[c]? = some (.cells #[.int .i64 most, .slice (some ⟨g, 0, none⟩) n1 cap] 156 (0, 0)) := by rw [hm6.block c (lt_block O5a.obj) (own_not O5a.row O5a.obj (by decide))]; exact O5a.obj
          have j1 : w6.cell? ⟨c, 1, none⟩ = some (.slice (some ⟨g, 0, none⟩) n1 cap) := by simp [World.cell?, hc6]
          have j2 : w6.frozen? ⟨c, 1, none⟩ = false := by simp [World.frozen?, hc6]
          have kb : ∀ a : Addr, a.block = w.heap.size → w6.cell? a = (w5.alloc (.cells #[.int .u64 h.id, .int .u64 h.dist, .slice q4 m4 k4] 38)).cell? a := fun a ha => World.cell?_of_block (by rw [ha]; exact hm6.block _ (by have := lt_of_cell y0; simp at this ⊢; omega) fun e => by have := VB.out _ e; omega)
          have z0 : w6.cell? ⟨w.heap.size, 0, none⟩ = some (.int .u64 h.id) := by rw [kb _ rfl]; exact below_cells ((Below.refl _ _).alloc (Nat.le_refl _) _) y0
          have z1 : w6.cell? ⟨w.heap.size, 1, none⟩ = some (.int .u64 h.dist) := by rw [kb _ rfl]; exact below_cells ((Below.refl _ _).alloc (Nat.le_refl _) _) y1
          have z2 : w6.cell? ⟨w.heap.size, 2, none⟩ = some (.slice up h.vec.length uc) := by rw [kb _ rfl]; exact below_cells ((Below.refl _ _).alloc (Nat.le_refl _) _) y2
          have E6 := Lib.hid (tail_end M5.out hB5 OO.out.2.2.2.2 P5.out.2.1 P5.out.1 (by rw [hNR]; exact ho6) hm6 hv6)
          have hbc : w.heap.size ≠ c := fun e => by have := OO.out.2.2.2.2 c OO.out.2.1; omega
          clear O5a hc6 ho6 hm6 hv6 kb
          try dsimp only
          refine hK.out _ _ ?hS (fun hH' => ?_)
          case hS =>
            exact ⟨z0, z1, z2⟩
          clear hK K' hH; have hH := hH'; clear hH'; repeat simp only [Act.put, uA1, uB1, uC1]
          refine kY 10 hH ?_
          repeat simp only [Act.put, uA1, uB1, uC1]
          refine kY 11 hH ?_
          repeat simp only [Act.put, uA1, uB1, uC1]
          refine spk 12 rfl (by decide +kernel) (by rfl) (fun K' hK => ?_)
          go_simp
          try dsimp only
          refine hK.out _ _ ?hS (fun hH' => ?_)
          case hS =>
            exact ⟨by rw [World.cell?_setCell_other _ _ _ _ (by simp [])]; exact z0, by rw [World.cell?_setCell_other _ _ _ _ (by simp [])]; exact z1, by rw [World.cell?_setCell_other _ _ _ _ (by simp [])]; exact z2⟩
          clear hK K' hH; have hH := hH'; clear hH'; repeat simp only [Act.put, uA1, uB1, uC1]
          refine wpAnyH_done (by decide +kernel) ?_ _
          clear hH z0 z1 z2 j1 j2 kc5 y0 y1 y2
          go_wp2_with fail
          go_ret
          rw [HA.out]
          exact E6.out
        case b2_2 =>
          go_simp
          try dsimp only
          refine hK.out _ _ ?hS (fun hH' => ?_)
          case hS =>
            exact ⟨below_cells ((Below.refl _ _).alloc (Nat.le_refl _) _) y0, below_cells ((Below.refl _ _).alloc (Nat.le_refl _) _) y1, below_cells ((Below.refl _ _).alloc (Nat.le_refl _) _) y2⟩
          clear hK K' hH; have hH := hH'; clear hH'; repeat simp only [Act.put, uA1, uB1, uC1]
          refine spk 4 rfl (by decide +kernel) (by rfl) (fun K' hK => ?_)
          go_simp
          try dsimp only
          refine hK.out _ _ ?hS (fun hH' => ?_)
          case hS =>
            exact hH
          clear hK K' hH; have hH := hH'; clear hH'; repeat simp only [Act.put, uA1, uB1, uC1]
          refine spk 9 rfl (by decide +kernel) (by rfl) (fun K' hK => ?_)
          go_simp
          refine IN.out.mono ?_
          rintro e w6 ⟨q6, n6, c6, rfl, ho6, hm6, hv6⟩
          have O5a := P5.out.2.2.below ((Below.refl w5.heap.size w5).alloc (Nat.le_refl _) (.cells #[.int .u64 h.id, .int .u64 h.dist, .slice q4 m4 k4] 38))
          have hc6 : w6.heap[c]? = some (.cells #[.int .i64 most, .slice (some ⟨g, 0, none⟩) n1 cap] 156 (0, 0)) := by rw [hm6.block c (lt_block O5a.obj) (own_not O5a.row O5a.obj (by decide))]; exact O5a.obj
          have j1 : w6.cell? ⟨c, 1, none⟩ = some (.slice (some ⟨g, 0, none⟩) n1 cap) := by simp [World.cell?, hc6]
          have j2 : w6.frozen? ⟨c, 1, none⟩ = false := by simp [World.frozen?, hc6]
          have kb : ∀ a : Addr, a.block = w.heap.size → w6.cell? a = (w5.alloc (.cells #[.int .u64 h.id, .int .u64 h.dist, .slice q4 m4 k4] 38)).cell? a := fun a ha => World.cell?_of_block (by rw [ha]; exact hm6.block _ (by have := lt_of_cell y0; simp at this ⊢; omega) fun e => by have := VB.out _ e; omega)
          have z0 : w6.cell? ⟨w.heap.size, 0, none⟩ = some (.int .u64 h.id) := by rw [kb _ rfl]; exact below_cells ((Below.refl _ _).alloc (Nat.le_refl _) _) y0
          have z1 : w6.cell? ⟨w.heap.size, 1, none⟩ = some (.int .u64 h.dist) := by rw [kb _ rfl]; exact below_cells ((Below.refl _ _).alloc (Nat.le_refl _) _) y1
          have z2 : w6.cell? ⟨w.heap.size, 2, none⟩ = some (.slice up h.vec.length uc) := by rw [kb _ rfl]; exact below_cells ((Below.refl _ _).alloc (Nat.le_refl _) _) y2
          have E6 := Lib.hid (tail_end M5.out hB5 OO.out.2.2.2.2 P5.out.2.1 P5.out.1 (by rw [hNR]; exact ho6) hm6 hv6)
          have hbc : w.heap.size ≠ c := fun e => by have := OO.out.2.2.2.2 c OO.out.2.1; omega
          clear O5a hc6 ho6 hm6 hv6 kb
          try dsimp only
          refine hK.out _ _ ?hS (fun hH' => ?_)
          case hS =>
            exact ⟨z0, z1, z2⟩
          clear hK K' hH; have hH := hH'; clear hH'; repeat simp only [Act.put, uA1, uB1, uC1]
          refine kY 10 hH ?_
          repeat simp only [Act.put, uA1, uB1, uC1]
          refine kY 11 hH ?_
          repeat simp only [Act.put, uA1, uB1, uC1]
          refine spk 12 rfl (by decide +kernel) (by rfl) (fun K' hK => ?_)
          go_simp
          try dsimp only
          refine hK.out _ _ ?hS (fun hH' => ?_)
          case hS =>
            exact ⟨by rw [World.cell?_setCell_other _ _ _ _ (by simp [])]; exact z0, by rw [World.cell?_setCell_other _ _ _ _ (by simp [])]; exact z1, by rw [World.cell?_setCell_other _ _ _ _ (by simp [])]; exact z2⟩
          clear hK K' hH; have hH := hH'; clear hH'; repeat simp only [Act.put, uA1, uB1, uC1]
          refine wpAnyH_done (by decide +kernel) ?_ _
          clear hH z0 z1 z2 j1 j2 kc5 y0 y1 y2
          go_wp2_with fail
          go_ret
          rw [HA.out]
          exact E6.out

end Go.Proofs.YtpjbkaibgajpcaaGreat
