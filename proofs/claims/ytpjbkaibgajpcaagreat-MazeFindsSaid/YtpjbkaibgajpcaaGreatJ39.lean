/- maze's document: how it lies; the calls that only read it. maze's document: seen from a vector; a walk over it. maze's document: what Put turns; a walk over it. -/
import Derived.Test.YtpjbkaibgajpcaaGreatJ37
import Derived.Test.YtpjbkaibgajpcaaGreatJ38
namespace Go.Proofs.YtpjbkaibgajpcaaGreat
open Go.RowKit Go.ChangeMaps
set_option maxRecDepth 20000

structure RzAt (B : Nat) (w : World) (x c : Nat) (dim : Int) (vn ve lv : Value) (rs : List Hv) (s : Mz) : Prop where
  cell : w.heap[x]? = some (.cells #[.int .i64 dim, .pointer (some ⟨c, 0, none⟩), lv] 50 (0, 0))
  doc : DGr w B c s.N s.E vn ve
  row : w.ownsRow B 38 3 lv rs.length (flat3 rs)
  held : Held3 w B 21 rs s.L
  low : B ≤ x
  big : B ≤ w.heap.size

def RTurn (w : World) (B j : Nat) : Prop := B ≤ j ∧ (OfType w 50 j ∨ OfType w 96 j ∨ OfType w 144 j)

theorem RTurn.types {w : World} {B j : Nat} (h : RTurn w B j) : ∃ T, OfType w T j ∧ (T = 50 ∨ T = 96 ∨ T = 144) := by
  rcases h.2 with e | e | e
  · exact ⟨_, e, .inl rfl⟩
  · exact ⟨_, e, .inr (.inl rfl)⟩
  · exact ⟨_, e, .inr (.inr rfl)⟩

theorem RTurn.trans {w W w' : World} {B : Nat} (h : Mod (RTurn w B) w W) (g : Mod (RTurn W B) W w') : Mod (RTurn w B) w w' := by
  refine h.trans g fun k hk hf => ?_
  by_cases hF : RTurn w B k
  · exact hF
  · have hb := h.block k hk hF
    refine ⟨hf.1, ?_⟩
    rcases hf.2 with ⟨cs, fr, e⟩ | ⟨cs, fr, e⟩ | ⟨cs, fr, e⟩
    · exact .inl ⟨cs, fr, by rw [← hb]; exact e⟩
    · exact .inr (.inl ⟨cs, fr, by rw [← hb]; exact e⟩)
    · exact .inr (.inr ⟨cs, fr, by rw [← hb]; exact e⟩)

theorem RTurn.box {w w' : World} {B b T : Nat} {cs : Array Value} {fr : Nat × Nat} (hm : Mod (RTurn w B) w w') (hb : w.heap[b]? = some (.cells cs T fr)) (h1 : T ≠ 50 ∧ T ≠ 96 ∧ T ≠ 144) : w'.heap[b]? = some (.cells cs T fr) := by
  refine (hm.block b (lt_block hb) fun hf => ?_).trans hb
  obtain ⟨T2, ht, hT⟩ := hf.types
  have e : T2 = T := ht.ne ⟨_, _, hb⟩
  rcases hT with h2 | h2 | h2
  · exact h1.1 (e ▸ h2)
  · exact h1.2.1 (e ▸ h2)
  · exact h1.2.2 (e ▸ h2)

theorem OfType.rturn {w w' : World} {B T j : Nat} (h : OfType w T j) (hm : Mod (RTurn w B) w w') (hT : T ≠ 50 ∧ T ≠ 96 ∧ T ≠ 144) : w'.heap[j]? = w.heap[j]? ∧ OfType w' T j := by
  obtain ⟨cs, fr, e⟩ := h
  have := RTurn.box hm e hT
  exact ⟨this.trans e.symm, cs, fr, this⟩

theorem HitsT.rturn {w w' : World} {B : Nat} {v : Value} {l : List Hz} (h : HitsT w v l) (hm : Mod (RTurn w B) w w') : HitsT w' v l :=
  (HitsF.agree h fun j hj => (hj.rturn hm (by decide)).1).mono fun j hj => (hj.rturn hm (by decide)).2

theorem Nums.rturn {w w' : World} {B : Nat} {v : Value} {xs : List Int} (h : Nums w .i32 v xs) (ht : LiesIn (OfType w 21) v xs.length) (hm : Mod (RTurn w B) w w') : Nums w' .i32 v xs ∧ LiesIn (OfType w' 21) v xs.length :=
  ⟨h.agree ht fun j hj => (hj.rturn hm (by decide)).1, ht.mono fun j hj => (hj.rturn hm (by decide)).2⟩

section
variable {B : Nat} {w w' : World} {x c : Nat} {dim : Int} {vn ve lv : Value} {rs : List Hv} {s : Mz}

theorem RzAt.below (h : RzAt B w x c dim vn ve lv rs s) (hb : Below w.heap.size w w') : RzAt B w' x c dim vn ve lv rs s :=
  ⟨(hb.block x (lt_block h.cell)).trans h.cell, h.doc.below hb, own_below h.row hb, h.held.below hb, h.low, Nat.le_trans h.big hb.size⟩

theorem Held3.agreed {w w' : World} {B E : Nat} {rs : List Hv} {l : List Hz} (h : Held3 w B E rs l) (ha : ∀ j, OfType w E j → w'.heap[j]? = w.heap[j]?) : Held3 w' B E rs l :=
  ⟨h.len, fun i h1 h2 => ⟨(h.own i h1 h2).1, own_agree (h.own i h1 h2).2 fun k hk => ha k (own_type (h.own i h1 h2).2 hk)⟩, h.apart⟩

theorem RzAt.mturn (h : RzAt B w x c dim vn ve lv rs s) {B' : Nat} (hm : Mod (MTurn w B') w w') : RzAt B w' x c dim vn ve lv rs s := by
  have no : ∀ T j, OfType w T j → T ≠ 85 → ¬ MTurn w B' j := fun T j ht hT hf => by
    rcases hf.2 with e | e
    · exact e.no ht
    · exact hT (ht.ne e)
  refine ⟨(hm.block x (lt_block h.cell) (no _ x ⟨_, _, h.cell⟩ (by decide))).trans h.cell, h.doc.kept hm (fun j _ ht => no _ j ht (by decide)) (fun j _ ht => no _ j ht (by decide)) (fun j _ ht => no _ j ht (by decide)), own_agree h.row fun k hk => hm.block k (h.row.lt k hk).2 (no _ k (own_type h.row hk) (by decide)), h.held.agreed fun j ⟨cs, fr, e⟩ => hm.block j (lt_block e) (no _ j ⟨cs, fr, e⟩ (by decide)), h.low, Nat.le_trans h.big hm.size⟩

theorem RzAt.hits (h : RzAt B w x c dim vn ve lv rs s) : HitsF w (fun k => B ≤ k ∧ k < w.heap.size) lv s.L :=
  HitsF.of_own h.row (fun b hb => h.row.lt b hb) h.held.rows

theorem MzAt.rturn {z p m mv : Nat} {Q : Gr} {en : Int} {VL : List (Int × Value)} {B' : Nat} (h : MzAt B w z p m mv Q dim en VL s) (hm : Mod (RTurn w B') w w') : MzAt B w' z p m mv Q dim en VL s :=
  h.other hm fun j hj => by
    obtain ⟨T, ht, hT⟩ := hj.types
    exact ⟨T, ht, by rcases hT with e | e | e <;> rw [e] <;> decide⟩
end

theorem rRight (w : World) (x : Nat) (dim : Int) (v : Value) (xs : List Int) (h : w.cell? ⟨x, 0, none⟩ = some (.int .i64 dim)) (hv : Nums w .i32 v xs) :
    Calls Tryz.prog 46 #[.pointer (some ⟨x, 0, none⟩), v] w fun e w' => e = .returned (.bool (rightZ dim xs)) ∧ w' = w := by
  have cR := Lib.hid (refRight xs v w hv)
  obtain ⟨q, c, rfl, -, -, -, -⟩ := hv.slice
  clear hv
  unfold rightZ
  cases hr : rightB xs with
  | false =>
    rw [hr] at cR
    clear hr
    go_enter Tryz.func46, Tryz.ntmps46
    go_wp2_with fail
    (with_reducible refine cR.out.mono ?_)
    rintro e w1 ⟨rfl, rfl⟩
    go_wp2_with fail
    go_ret
    exact ⟨rfl, rfl⟩
  | true =>
    rw [hr] at cR
    clear hr
    go_enter Tryz.func46, Tryz.ntmps46
    go_wp2_with fail
    (with_reducible refine cR.out.mono ?_)
    rintro e w1 ⟨rfl, rfl⟩
    go_wp2_with fail
    go_ret
    exact ⟨ret_bool (by rw [Bool.eq_iff_iff]; simp), rfl⟩

theorem vec_at {L : List Hz} {k : Int} {j : Nat} (hj : j < L.length) (hall : ∀ i (hi : i < L.length), i < j → L[i].id ≠ k) (he : L[j].id = k) : vecOf L k = L[j].vec := by
  unfold vecOf
  rw [(List.find?_eq_some_iff_getElem (p := fun h : Hz => decide (h.id = k)) (xs := L) (b := L[j])).2 ⟨by simpa using he, j, hj, rfl, fun i hi => by simpa using hall i (by omega) hi⟩]
  rfl

theorem vec_not {L : List Hz} {k : Int} (hall : ∀ i (hi : i < L.length), L[i].id ≠ k) : vecOf L k = [] := vec_none fun hm => by
  obtain ⟨y, hy, e⟩ := List.mem_map.1 hm
  obtain ⟨i, hi, rfl⟩ := List.mem_iff_getElem.1 hy
  exact hall i hi e

set_option maxRecDepth 100000 in
theorem rVec {B : Nat} {w : World} {x c : Nat} {dim : Int} {vn ve lv : Value} {rs : List Hv} {s : Mz} (h : RzAt B w x c dim vn ve lv rs s) (k : Int) :
    Calls Tryz.prog 18 #[.pointer (some ⟨x, 0, none⟩), .int .u64 k] w fun e w' => ∃ u, e = .returned u ∧ Nums w' .i32 u (vecOf s.L k) ∧ LiesIn (OfType w' 21) u (vecOf s.L k).length ∧ Below w.heap.size w w' := by
  have x2 := cellsB h.cell 2
  have hh := h.hits
  obtain ⟨lp, lc, rfl, hl1, hl2, -, -⟩ := id hh
  have hl : s.L.length ≤ 9223372036854775807 := by omega
  have HH := Lib.hid hh
  have H := Lib.hid h
  clear hh h hl1 hl2
  go_enter Tryz.func18, Tryz.ntmps18
  go_wp2_with fail
  go_loopg [14] s.L.length (fun q' i wr => ∃ j : Nat, q' = s.L.length - j ∧ j ≤ s.L.length ∧ i = .int .i64 j ∧ (∀ i (hi : i < s.L.length), i < j → s.L[i].id ≠ k) ∧ Below w.heap.size w wr)
  case atStart => exact ⟨0, rfl, by omega, rfl, fun i _ h => absurd h (by omega), Below.refl _ _⟩
  case round =>
    obtain ⟨j, rfl, hj, rfl, hall, hbr⟩ := hrel
    by_cases hlt : j < s.L.length
    · have hlr : rs.length = s.L.length := H.out.held.len
      have ho := own_below H.out.row hbr
      obtain ⟨g, cg, hv, -, -⟩ := ho.form (by omega)
      obtain ⟨rfl, -, rfl⟩ := Value.slice.inj hv
      have hf := flat3_get rs j (by omega)
      have e0 := own_cell ho rfl hf.1
      have e1 := own_cell ho rfl hf.2.1
      have e2 := own_cell ho rfl hf.2.2
      obtain ⟨⟨hid, -⟩, hown⟩ := H.out.held.own j (by omega) hlt
      obtain ⟨up, un, uc, hu⟩ := own_form hown
      rw [hu] at e2 hown
      obtain ⟨yi, hyi⟩ : ∃ z, z = s.L[j].id := ⟨_, rfl⟩
      rw [hid, ← hyi] at e0
      obtain ⟨yd, hyd⟩ : ∃ z, z = rs[j].dist := ⟨_, rfl⟩
      rw [← hyd] at e1
      obtain ⟨W2, hW2⟩ : ∃ W2, W2 = wr.alloc (.cells #[.int .u64 yi, .int .u64 yd, .slice up un uc] 38) := ⟨_, rfl⟩
      have hb2 : Below wr.heap.size wr W2 := by rw [hW2]; exact (Below.refl _ _).alloc (Nat.le_refl _) _
      have B2 := Lib.hid (hbr.trans (hb2.mono hbr.size))
      have HW := Lib.hid hW2
      by_cases he : yi = k
      · have ho2 := own_below hown B2.out
        have hve := vec_at hlt hall (hyi.symm.trans he)
        have FIN := Lib.hid (show Nums W2 .i32 (.slice up un uc) (vecOf s.L k) ∧ LiesIn (OfType W2 21) (.slice up un uc) (vecOf s.L k).length from by
          rw [hve]
          exact ⟨Nums.of_own ho2, fun _ b hb => own_type ho2 hb⟩)
        clear hall hbr hown hid hyi hyd hW2 hb2 ho hv hf hu hve ho2
        go_wp2_with fail
        go_ret
        have FF := HW.out ▸ (And.intro FIN.out (show Below w.heap.size w W2 from B2.out))
        rw [he] at FF
        exact ⟨_, rfl, FF.1.1, FF.1.2, FF.2⟩
      · have AL := Lib.hid (show ∀ i (hi : i < s.L.length), i < j + 1 → s.L[i].id ≠ k from fun i hi h9 => by
          rcases Nat.lt_or_ge i j with h8 | h8
          · exact hall i hi h8
          · obtain rfl : i = j := by omega
            rw [← hyi]; exact he)
        clear hall hbr hown hid hyi hyd hW2 hb2 ho hv hf hu
        go_wp2_with fail
        go_roundg (s.L.length - (j + 1))
        case measure => omega
        case rel => exact ⟨j + 1, rfl, by omega, by go_num, AL.out, by rw [← HW.out]; exact B2.out⟩
    · obtain rfl : j = s.L.length := by omega
      have VN := Lib.hid (vec_not fun i hi => hall i hi hi)
      have BR := Lib.hid hbr
      clear hall hbr
      go_wp2_with fail
      go_ret
      exact ⟨_, rfl, by rw [VN.out]; exact nums_none _, fun h0 => by rw [VN.out] at h0; simp at h0, BR.out⟩

end Go.Proofs.YtpjbkaibgajpcaaGreat

namespace Go.Proofs.YtpjbkaibgajpcaaGreat
open Go.RowKit Go.ChangeMaps
set_option maxRecDepth 20000

structure SpR (w0 w : World) (x c : Nat) (lv : Value) (l : List Hz) : Prop where
  cell : w.heap[x]? = some (.cells #[.pointer (some ⟨c, 0, none⟩), lv] 142 (0, 0))
  row : w.ownsRow w0.heap.size 38 3 lv l.length (flat3 (l.map bareV))
  low : w0.heap.size ≤ x
  old : Below w0.heap.size w0 w

theorem SpR.below {w0 w w' : World} {x c : Nat} {lv : Value} {l : List Hz} (h : SpR w0 w x c lv l) (hb : Below w.heap.size w w') : SpR w0 w' x c lv l :=
  ⟨(hb.block x (lt_block h.cell)).trans h.cell, own_below h.row hb, h.low, h.old.trans (hb.mono h.old.size)⟩

theorem SpR.push {w0 w : World} {x c : Nat} {lv : Value} {l : List Hz} (h : SpR w0 w x c lv l) (k d : Int) (hL : l.length ≤ 100000) : ∃ (g cp : Nat) (w' : World), (∀ ty, (Builtin.append_ #[30, 30] ty #[lv, .slice (some ⟨w.heap.size, 0, none⟩) 1 1]).run Tryz.prog (w.alloc (.cells #[.int .u64 k, .int .u64 d, .slice none 0 0] 38)) = .ok (.slice (some ⟨g, 0, none⟩) (l.length + 1) cp) w') ∧
    SpR w0 (w'.setCell ⟨x, 1, none⟩ (.slice (some ⟨g, 0, none⟩) (l.length + 1) cp)) x c (.slice (some ⟨g, 0, none⟩) (l.length + 1) cp) (l ++ [hitK k d]) ∧ w'.heap[x]? = w.heap[x]? ∧ ∀ j, j < w.heap.size → lv.ownBlock ≠ some j → w'.heap[j]? = w.heap[j]? := by
  obtain ⟨g, cp, w', hrun, hown, hg, hat, hgl⟩ := run_push rowHit h.row h.old.size #[.int .u64 k, .int .u64 d, .slice none 0 0] rfl (by simp [Value.oneCell']) (by simp [maxLen]; omega) (by omega)
  have hb1 : Below w.heap.size w (w.alloc (.cells #[.int .u64 k, .int .u64 d, .slice none 0 0] 38)) := (Below.refl _ w).alloc (Nat.le_refl _) _
  have hmw : Mod (fun j => lv.ownBlock = some j) w w' := (Mod.of_below (F := fun j => lv.ownBlock = some j) hb1).grown hg (fun j hj => .inl hj)
  have nx : lv.ownBlock ≠ some x := fun e => absurd (OfType.ne (own_type h.row e) ⟨_, _, h.cell⟩) (by decide)
  have hcx := hmw.block x (lt_block h.cell) nx
  have hset := setBk (hcx.trans h.cell) 1 (.slice (some ⟨g, 0, none⟩) (l.length + 1) cp)
  have hgx : g ≠ x := by
    rcases hat with e | e
    · rintro rfl; exact nx e
    · have := lt_block h.cell; omega
  have ef : flat3 ((l ++ [hitK k d]).map bareV) = flat3 (l.map bareV) ++ [.int .u64 k, .int .u64 d, .slice none 0 0] := by rw [List.map_append, flat3_append]; rfl
  have hm2 : Mod (fun j => lv.ownBlock = some j ∨ j = x) w (w'.setCell ⟨x, 1, none⟩ (.slice (some ⟨g, 0, none⟩) (l.length + 1) cp)) := (hmw.mono fun j _ e => .inl e).setCell (p := ⟨x, 1, none⟩) (.inl (.inr rfl)) _
  refine ⟨g, cp, w', hrun, ⟨by simpa using hset, ?_, h.low, h.old.trans (hm2.below h.old.size fun j hj => ?_)⟩, hcx, fun j hj hne => hmw.block j hj hne⟩
  · rw [ef, List.length_append]
    exact own_agree hown fun j hj => setBk_other (fun e => hgx ((show g = j from by simpa [Value.ownBlock] using hj).trans e))
  · rcases hj with hj | rfl
    · exact (h.row.lt j hj).1
    · exact h.low

theorem SpR.hits {w0 w : World} {x c : Nat} {lv : Value} {l : List Hz} (h : SpR w0 w x c lv l) (hb : ∀ y ∈ l, y.vec = []) : HitsF w (fun k => lv.ownBlock = some k) lv l :=
  HitsF.of_own h.row (fun _b hb => hb) (bare_rows hb)

theorem space_bare (L : List Hz) (xs : List Int) : ∀ y ∈ spaceZ L xs, y.vec = [] := by
  intro y hy
  unfold spaceZ at hy
  obtain ⟨u, -, rfl⟩ := List.mem_map.1 hy
  rfl

set_option maxRecDepth 100000 in
set_option maxHeartbeats 16000000 in
theorem rSpace {B : Nat} {w : World} {x c : Nat} {dim : Int} {vn ve lv : Value} {rs : List Hv} {s : Mz} (h : RzAt B w x c dim vn ve lv rs s) (hL : s.L.length ≤ 900) (v : Value) (xs : List Int) (hv : Nums w .i32 v xs) :
    Calls Tryz.prog 48 #[.pointer (some ⟨x, 0, none⟩), v] w fun e w' => ∃ sx sv, e = .returned (.pointer (some ⟨sx, 0, none⟩)) ∧ SpR w w' sx c sv (spaceZ s.L xs) := by
  have x1 := cellsB h.cell 1
  have hlr : rs.length = s.L.length := h.held.len
  obtain ⟨lp, ln, lc, hlv⟩ := own_form h.row
  subst hlv
  obtain rfl : ln = rs.length := own_len h.row
  have H := Lib.hid h
  have V := Lib.hid hv
  obtain ⟨vq, vc, rfl, -, -, -, -⟩ := hv.slice
  have hl63 : rs.length ≤ 9223372036854775807 := by omega
  clear h hv
  go_enter Tryz.func48, Tryz.ntmps48
  go_upto_region 2 with fail
  obtain ⟨W1, hW1⟩ : ∃ W1, W1 = w.alloc (.cells #[.pointer (some ⟨c, 0, none⟩), .slice none 0 0] 142) := ⟨_, rfl⟩
  have hb1 : Below w.heap.size w W1 := by rw [hW1]; exact (Below.refl _ _).alloc (Nat.le_refl _) _
  have y1 : W1.heap[w.heap.size]? = some (.cells #[.pointer (some ⟨c, 0, none⟩), .slice none 0 0] 142 (0, 0)) := by rw [hW1]; exact heap_alloc_new _ _
  rw [← hW1]
  obtain ⟨sx, hsx⟩ : ∃ sx, sx = w.heap.size := ⟨_, rfl⟩
  rw [← hsx] at y1 ⊢
  have S1 := Lib.hid (show SpR w W1 sx c (.slice none 0 0) [] from ⟨y1, World.ownsRow_nil _ _ _ _, by omega, hb1⟩)
  have H1 := Lib.hid (H.out.below hb1)
  have x2 := cellsB H1.out.cell 2
  clear hW1 hb1 y1 hsx x1
  go_wp2_with fail
  go_loopg [21] rs.length (fun q' i wr => ∃ (j : Nat) (sv : Value), q' = rs.length - j ∧ j ≤ rs.length ∧ i = .int .i64 j ∧ SpR w wr sx c sv (spaceZ (s.L.take j) xs))
  case atStart => exact ⟨0, _, rfl, by omega, rfl, by simpa [spaceZ] using S1.out⟩
  case round =>
    obtain ⟨j, sv, rfl, hj, rfl, hS⟩ := hrel
    by_cases hlt : j < rs.length
    · have ho := own_below H.out.row hS.old
      obtain ⟨g, cg, hv, -, -⟩ := ho.form (by omega)
      obtain ⟨rfl, -, rfl⟩ := Value.slice.inj hv
      have hf := flat3_get rs j (by omega)
      have e0 := own_cell ho rfl hf.1
      have e1 := own_cell ho rfl hf.2.1
      have e2 := own_cell ho rfl hf.2.2
      obtain ⟨⟨hid, -⟩, hown⟩ := H.out.held.own j (by omega) (by omega)
      obtain ⟨up, un, uc, hu⟩ := own_form hown
      rw [hu] at e2 hown
      obtain ⟨yi, hyi⟩ : ∃ z, z = s.L[j].id := ⟨_, rfl⟩
      rw [hid, ← hyi] at e0
      obtain ⟨yd, hyd⟩ : ∃ z, z = rs[j].dist := ⟨_, rfl⟩
      rw [← hyd] at e1
      obtain ⟨W2, hW2⟩ : ∃ W2, W2 = wr.alloc (.cells #[.int .u64 yi, .int .u64 yd, .slice up un uc] 38) := ⟨_, rfl⟩
      have hb2 : Below wr.heap.size wr W2 := by rw [hW2]; exact (Below.refl _ _).alloc (Nat.le_refl _) _
      have y2 : W2.heap[wr.heap.size]? = some (.cells #[.int .u64 yi, .int .u64 yd, .slice up un uc] 38 (0, 0)) := by rw [hW2]; exact heap_alloc_new _ _
      have S2 := Lib.hid (hS.below hb2)
      obtain ⟨t, htq⟩ : ∃ t, t = wr.heap.size := ⟨_, rfl⟩
      have TQ := Lib.hid htq
      have n2 := own_below hown S2.out.old
      have cD := Lib.hid (refDist xs s.L[j].vec (.slice vq xs.length vc) (.slice up un uc) W2 (V.out.below S2.out.old) (Nums.of_own n2))
      obtain ⟨dd, hdd⟩ : ∃ d, d = distR xs s.L[j].vec := ⟨_, rfl⟩
      rw [← hdd] at cD
      have hst : spaceZ (s.L.take (j + 1)) xs = spaceZ (s.L.take j) xs ++ [hitK yi dd.1] := by
        unfold spaceZ
        rw [List.take_succ_eq_append_getElem (by omega), List.map_append, hyi, hdd]
        rfl
      have ST := Lib.hid hst
      have HW := Lib.hid hW2
      have Y2 := Lib.hid y2
      have SOLD := Lib.hid hS
      have LJ := Lib.hid (show (spaceZ (s.L.take j) xs).length = j from by unfold spaceZ; simp; omega)
      clear hown hid hyi hyd hW2 hb2 ho hv hf hu n2 hdd hst y2 hS
      go_wp2_with fail
      rw [← HW.out]
      (with_reducible refine cD.out.mono ?_)
      rintro e w3 ⟨rfl, hb3⟩
      obtain ⟨d, hd⟩ : ∃ d, d = dd.1 := ⟨_, rfl⟩
      obtain ⟨d2, hd2⟩ : ∃ d, d = dd.2 := ⟨_, rfl⟩
      rw [← hd] at ST
      obtain ⟨W6, hW6⟩ : ∃ W6, W6 = w3.drew := ⟨_, rfl⟩
      have hb6 : Below W2.heap.size W2 W6 := by rw [hW6]; exact hb3.drew
      have S6 := Lib.hid (S2.out.below hb6)
      have y6 := (hb6.block _ (lt_block Y2.out)).trans Y2.out
      rw [← htq] at y6
      obtain ⟨g9, cp9, w9, hrun9, hS9, hx9, hk9⟩ := S6.out.push yi d (by rw [LJ.out]; omega)
      rw [LJ.out] at hrun9 hS9
      have hne : sv.ownBlock ≠ some t := fun e => by
        have h4 := (SOLD.out.row.lt t e).2
        have h5 := TQ.out
        omega
      have I6 := Lib.hid (show W6.cell? ⟨sx, 1, none⟩ = some sv ∧ W6.cell? ⟨t, 0, none⟩ = some (.int .u64 yi) from ⟨cellsB S6.out.cell 1, cellsB y6 0⟩)
      have ba : Below W6.heap.size W6 (W6.alloc (.cells #[.int .u64 yi, .int .u64 d, .slice none 0 0] 38)) := (Below.refl _ W6).alloc (Nat.le_refl _) _
      have I7 := Lib.hid (And.intro (below_cells ba I6.out.1) (below_cells ba I6.out.2))
      have y9 := (hk9 t (lt_block y6) hne).trans y6
      have I8 := Lib.hid (show w9.cell? ⟨sx, 1, none⟩ = some sv ∧ w9.cell? ⟨t, 0, none⟩ = some (.int .u64 yi) from ⟨cellsB (hx9.trans S6.out.cell) 1, cellsB y9 0⟩)
      have z9 : w9.frozen? ⟨sx, 1, none⟩ = false := by simp [World.frozen?, hx9.trans S6.out.cell]
      have x9 := I8.out.1
      have S9 := Lib.hid hS9
      have HW6 := Lib.hid hW6
      clear hW6 hb6 y6 hne ba y9 hS9 hx9 hk9 hb3
      rw [← htq]
      clear htq
      go_upto_region 6 with fail
      rw [← hd, ← hd2]
      clear hd hd2
      refine region_goN 13 (fun w' => w'.cell? ⟨sx, 1, none⟩ = some sv ∧ w'.cell? ⟨t, 0, none⟩ = some (.int .u64 yi)) (by kernel_rfl) ?hS0 (fun hH => ?_)
      case hS0 =>
        rw [← HW6.out]; exact I6.out
      rw [← HW6.out] at hH ⊢
      refine kYN 0 hH ?_
      repeat simp only [Act.put, uA1, uB1, uC1]
      refine kYN 1 hH ?_
      repeat simp only [Act.put, uA1, uB1, uC1]
      refine kYN 2 hH ?_
      repeat simp only [Act.put, uA1, uB1, uC1]
      refine kYN 3 hH ?_
      repeat simp only [Act.put, uA1, uB1, uC1]
      refine kYN 4 hH ?_
      repeat simp only [Act.put, uA1, uB1, uC1]
      refine kYN 5 hH ?_
      repeat simp only [Act.put, uA1, uB1, uC1]
      refine kYN 6 hH ?_
      repeat simp only [Act.put, uA1, uB1, uC1]
      refine kYN 7 hH ?_
      repeat simp only [Act.put, uA1, uB1, uC1]
      refine kYN 8 hH ?_
      repeat simp only [Act.put, uA1, uB1, uC1]
      refine spkN 9 rfl (by decide) (by decide +kernel) (by rfl) (fun K' hK => ?_)
      go_simp
      try dsimp only
      refine hK.out _ _ ?hS (fun hH' => ?_)
      case hS =>
        exact I7.out
      clear hK K' hH; have hH := hH'; clear hH'; repeat simp only [Act.put, uA1, uB1, uC1]
      refine spkN 10 rfl (by decide) (by decide +kernel) (by rfl) (fun K' hK => ?_)
      with_reducible refine wp_append_eq hrun9 _ _ rfl rfl rfl ?_
      try dsimp only
      refine hK.out _ _ ?hS (fun hH' => ?_)
      case hS =>
        exact I8.out
      clear hK K' hH; have hH := hH'; clear hH'; repeat simp only [Act.put, uA1, uB1, uC1]
      refine spkN 11 rfl (by decide) (by decide +kernel) (by rfl) (fun K' hK => ?_)
      go_simp
      try dsimp only
      refine hK.out _ _ ?hS (fun hH' => ?_)
      case hS =>
        exact hH
      clear hK K' hH; have hH := hH'; clear hH'; repeat simp only [Act.put, uA1, uB1, uC1]
      refine kYN 12 hH ?_
      repeat simp only [Act.put, uA1, uB1, uC1]
      refine spkL rfl (by decide +kernel) (by rfl) (fun K' hK => ?_)
      go_simp
      try dsimp only
      refine hK.out _ _ ?_
      clear hK K' hH; repeat simp only [Act.put, uA1, uB1, uC1]
      refine anyBut_done (by decide +kernel) ?_ _
      go_wp2_with fail
      go_roundg (rs.length - (j + 1))
      case measure => omega
      case rel => exact ⟨j + 1, _, rfl, by omega, by go_num, by rw [ST.out]; exact S9.out⟩
    · obtain rfl : j = rs.length := by omega
      have S9 := Lib.hid (show SpR w wr sx c sv (spaceZ s.L xs) from by rw [show s.L.take rs.length = s.L from by rw [hlr]; exact List.take_length] at hS; exact hS)
      clear hS
      go_wp2_with fail
      go_ret
      exact ⟨sx, sv, rfl, S9.out⟩

end Go.Proofs.YtpjbkaibgajpcaaGreat

namespace Go.Proofs.YtpjbkaibgajpcaaGreat
open Go.RowKit Go.ChangeMaps
set_option maxRecDepth 20000

theorem sorted_of : ∀ (l : List Hz), Ids l → ∃ m, Sorted m ∧ m.Perm l := by
  intro l
  induction l with
  | nil => intro _; exact ⟨[], List.Pairwise.nil, List.Perm.refl _⟩
  | cons a l ih =>
    intro h
    obtain ⟨h1, h2⟩ := List.pairwise_cons.1 h
    obtain ⟨m, hs, hp⟩ := ih h2
    exact ⟨insZ m a, insZ_sorted hs fun x hx => (h1 x (hp.mem_iff.1 hx)).symm, (insZ_perm m a).trans (hp.cons a)⟩

section
variable {B : Nat} {w w' : World} {x c : Nat} {dim : Int} {vn ve lv : Value} {rs : List Hv} {s : Mz}

theorem SpR.walk {w0 : World} {sx : Nat} {sv : Value} {xs : List Int} (hS : SpR w0 w sx c sv (spaceZ s.L xs)) (hd : DGr w B c s.N s.E vn ve) (hL : s.L.length ≤ 1000) (hE : s.E.length ≤ 400000) (most : Nat) (hm : 1 ≤ most ∧ most ≤ 256) (kv : Value) (ks : List Int) (hk : Nums w .u64 kv ks) :
    Calls Tryz.prog 47 #[.pointer (some ⟨sx, 0, none⟩), .int .i64 most, kv] w (RefTellsT w (resW (spaceZ s.L xs) s.E most ks).1 (resW (spaceZ s.L xs) s.E most ks).2) :=
  wRefT w sx (.pointer (some ⟨c, 0, none⟩)) (cellsB hS.cell 0) _ _ (fun W hW k => refFar W sx sv _ _ k (cellsB (hS.below hW).cell 1) ((hS.below hW).hits (space_bare _ _)))
    (fun W hW k => dNear W _ c s.N s.E vn ve k false (hd.below hW) hE) ((spaceZ s.L xs).map fun y : Hz => y.id) (fun k d => farL_key) (by rw [space_ids, List.length_map]; omega) most hm kv ks hk

def WalkPost (W : World) (R : List Hz) (n : Nat) (e : Ending) (w' : World) : Prop :=
  ∃ v rs, e = .returned (.tuple #[v, .int .i64 n]) ∧ w'.ownsRow W.heap.size 38 3 v R.length (flat3 rs) ∧ Rows3 w' (fun _ => False) rs R ∧ Below W.heap.size W w'

theorem RzAt.walkA (h : RzAt B w x c dim vn ve lv rs s) (hL : s.L.length ≤ 900) (hE : s.E.length ≤ 400000) (xs : List Int) (most : Nat) (hm : 1 ≤ most ∧ most ≤ 256) (yi : Int) (w5 : World) (sx : Nat) (sv : Value) (hS : SpR w w5 sx c sv (spaceZ s.L xs)) :
    Calls Tryz.prog 47 #[.pointer (some ⟨sx, 0, none⟩), .int .i64 most, .slice (some ⟨w5.heap.size, 0, none⟩) 1 1] (w5.alloc (.cells #[.int .u64 yi] 36)) (WalkPost w (resW (spaceZ s.L xs) s.E most [yi]).1 (resW (spaceZ s.L xs) s.E most [yi]).2) := by
  have hb6 : Below w5.heap.size w5 (w5.alloc (.cells #[.int .u64 yi] 36)) := (Below.refl _ _).alloc (Nat.le_refl _) _
  have y6 : (w5.alloc (.cells #[.int .u64 yi] 36)).heap[w5.heap.size]? = some (.cells #[.int .u64 yi] 36 (0, 0)) := heap_alloc_new _ _
  have hb : Below w.heap.size w (w5.alloc (.cells #[.int .u64 yi] 36)) := hS.old.trans (hb6.mono hS.old.size)
  refine ((hS.below hb6).walk (h.below hb).doc (by omega) hE most hm (.slice (some ⟨w5.heap.size, 0, none⟩) 1 1) [yi] (Nums.mk (xs := [yi]) (by simp) (by simp) (by simp) (fun i hi => ⟨w5.heap.size, 0, rfl, by
    have hi1 : i < 1 := hi
    obtain rfl : i = 0 := by omega
    exact cellsB y6 0⟩))).mono ?_
  rintro e w8 ⟨v, rs8, rfl, ho, hr, hb8⟩
  exact ⟨v, rs8, rfl, own_mono ho hb.size, hr, hb.trans (hb8.mono hb.size)⟩

theorem RzAt.walkB (h : RzAt B w x c dim vn ve lv rs s) (hL : s.L.length ≤ 900) (hE : s.E.length ≤ 400000) (xs : List Int) (most : Nat) (hm : 1 ≤ most ∧ most ≤ 256) (yi : Int) (w5 : World) (sx : Nat) (sv : Value) (hS : SpR (w.alloc (.cells #[.int .u64 yi] 36)) w5 sx c sv (spaceZ s.L xs)) :
    Calls Tryz.prog 47 #[.pointer (some ⟨sx, 0, none⟩), .int .i64 most, .slice (some ⟨w.heap.size, 0, none⟩) 1 1] w5 (WalkPost w (resW (spaceZ s.L xs) s.E most [yi]).1 (resW (spaceZ s.L xs) s.E most [yi]).2) := by
  have hb6 : Below w.heap.size w (w.alloc (.cells #[.int .u64 yi] 36)) := (Below.refl _ _).alloc (Nat.le_refl _) _
  have y6 : (w.alloc (.cells #[.int .u64 yi] 36)).heap[w.heap.size]? = some (.cells #[.int .u64 yi] 36 (0, 0)) := heap_alloc_new _ _
  have y5 := (hS.old.block _ (lt_block y6)).trans y6
  have hb : Below w.heap.size w w5 := hb6.trans (hS.old.mono hb6.size)
  refine (hS.walk (h.below hb).doc (by omega) hE most hm (.slice (some ⟨w.heap.size, 0, none⟩) 1 1) [yi] (Nums.mk (xs := [yi]) (by simp) (by simp) (by simp) (fun i hi => ⟨w.heap.size, 0, rfl, by
    have hi1 : i < 1 := hi
    obtain rfl : i = 0 := by omega
    exact cellsB y5 0⟩))).mono ?_
  rintro e w8 ⟨v, rs8, rfl, ho, hr, hb8⟩
  exact ⟨v, rs8, rfl, own_mono ho hb.size, hr, hb.trans (hb8.mono hb.size)⟩

theorem RzAt.graph (h : RzAt B w x c dim vn ve lv rs s) {N' : List Int} {E' : Eg} {vn' ve' : Value} (hd : DGr w' B c N' E' vn' ve') (hm : Mod (DocM w B) w w') : RzAt B w' x c dim vn' ve' lv rs ⟨N', E', s.L⟩ ∧ Mod (RTurn w B) w w' := by
  have no : ∀ T j, OfType w T j → T ≠ 96 → T ≠ 144 → ¬ DocM w B j := fun T j ht h1 h2 hf => by
    rcases hf.2 with e | e
    · exact h1 (ht.ne e)
    · exact h2 (ht.ne e)
  refine ⟨⟨(hm.block x (lt_block h.cell) (no _ x ⟨_, _, h.cell⟩ (by decide) (by decide))).trans h.cell, hd, own_agree h.row fun k hk => hm.block k (h.row.lt k hk).2 (no _ k (own_type h.row hk) (by decide) (by decide)), h.held.agreed fun j ⟨cs, fr, e⟩ => hm.block j (lt_block e) (no _ j ⟨cs, fr, e⟩ (by decide) (by decide)), h.low, Nat.le_trans h.big hm.size⟩, hm.mono fun j _ hf => ⟨hf.1, ?_⟩⟩
  rcases hf.2 with e | e
  · exact .inr (.inl e)
  · exact .inr (.inr e)


theorem RzAt.bind (h : RzAt B w x c dim vn ve lv rs s) (hl : s.E.length ≤ 900000) (a b : Int) :
    Calls Tryz.prog 65 #[.pointer (some ⟨c, 0, none⟩), .int .u64 a, .int .u64 b] w fun e w1 => e = .returned (.int .i64 (bindD s.N s.E a b).1) ∧ (∃ ve', RzAt B w1 x c dim vn ve' lv rs ⟨s.N, (bindD s.N s.E a b).2, s.L⟩) ∧ Mod (RTurn w B) w w1 := by
  refine (dBind w B c s.N s.E vn ve a b h.doc h.big hl).mono ?_
  rintro e w1 ⟨rfl, v, hd, hm⟩
  have := h.graph hd hm
  exact ⟨rfl, ⟨v, this.1⟩, this.2⟩

theorem RzAt.link (h : RzAt B w x c dim vn ve lv rs s) (hl : s.E.length ≤ 900000) (a b : Int) :
    Calls Tryz.prog 66 #[.pointer (some ⟨c, 0, none⟩), .int .u64 a, .int .u64 b] w fun e w1 => e = .returned (.int .i64 (linkD s.N s.E a b).1) ∧ (∃ ve', RzAt B w1 x c dim vn ve' lv rs ⟨s.N, (linkD s.N s.E a b).2, s.L⟩) ∧ Mod (RTurn w B) w w1 := by
  refine (dLink w B c s.N s.E vn ve a b h.doc h.big hl).mono ?_
  rintro e w1 ⟨rfl, v, hd, hm⟩
  have := h.graph hd hm
  exact ⟨rfl, ⟨v, this.1⟩, this.2⟩

theorem RzAt.cut (h : RzAt B w x c dim vn ve lv rs s) (hl : s.E.length ≤ 900000) (a b : Int) :
    Calls Tryz.prog 67 #[.pointer (some ⟨c, 0, none⟩), .int .u64 a, .int .u64 b] w fun e w1 => e = .returned (.int .i64 (cutD s.N s.E a b).1) ∧ (∃ ve', RzAt B w1 x c dim vn ve' lv rs ⟨s.N, (cutD s.N s.E a b).2, s.L⟩) ∧ Mod (RTurn w B) w w1 := by
  refine (dCut w B c s.N s.E vn ve a b h.doc h.big hl).mono ?_
  rintro e w1 ⟨rfl, v, hd, hm⟩
  have := h.graph hd hm
  exact ⟨rfl, ⟨v, this.1⟩, this.2⟩

theorem RzAt.add (h : RzAt B w x c dim vn ve lv rs s) (hl : s.N.length ≤ 900000) {k : Int} (hk : k ∉ s.N) :
    Calls Tryz.prog 64 #[.pointer (some ⟨c, 0, none⟩), .int .u64 k] w fun e w1 => e = .returned (.int .i64 0) ∧ (∃ vn', RzAt B w1 x c dim vn' ve lv rs ⟨putZ s.N k, s.E, s.L⟩) ∧ Mod (RTurn w B) w w1 := by
  refine (dAdd w B c s.N s.E vn ve k h.doc hl h.big).mono ?_
  rintro e w1 (⟨hn, -⟩ | ⟨-, rfl, v, hd, hm⟩)
  · exact absurd hn hk
  · have := h.graph hd (hm.mono fun j _ e => ⟨e ▸ h.doc.low, .inl (e ▸ ⟨_, _, h.doc.cell⟩)⟩)
    exact ⟨rfl, ⟨v, this.1⟩, this.2⟩

theorem RzAt.copy (h : RzAt B w x c dim vn ve lv rs s) (hL : s.L.length ≤ 1000) : ∃ q c1 w1, (∀ ty, (Builtin.append_ #[30, 30] ty #[.slice (some ⟨w.heap.size, 0, none⟩) 0 0, lv]).run Tryz.prog (w.alloc (.cells #[] 38)) = .ok (.slice q rs.length c1) w1) ∧
    w1.ownsRow w.heap.size 38 3 (.slice q rs.length c1) rs.length (flat3 rs) ∧ Below w.heap.size w w1 := by
  have hlr : rs.length = s.L.length := h.held.len
  have hba : Below w.heap.size w (w.alloc (.cells #[] 38)) := (Below.refl _ _).alloc (Nat.le_refl _) _
  have hone : ∀ u ∈ flat3 rs, u.oneCell' = true := flat3_one fun r hr => h.held.rows.one r hr
  obtain ⟨lp, ln, lc, rfl⟩ := own_form h.row
  obtain rfl : ln = rs.length := own_len h.row
  obtain ⟨q, k, c1, w1, hrun, hown, hg, -⟩ := run_app rowHit (own_empty w w.heap.size 38 3 (Nat.le_refl _)) (by simp) (SrcAt.of_own (own_below h.row hba)) hone (by simp [maxLen]; omega) (by omega)
  obtain rfl : rs.length = k := ((own_len hown).trans (Nat.zero_add _)).symm
  refine ⟨q, c1, w1, hrun, by simpa using hown, ?_⟩
  exact ((Below.refl _ w).alloc (Nat.le_refl _) _).grown hg (by simp) (by simp [Value.ownBlock])

theorem HitsT.keep {w w' : World} {v : Value} {l : List Hz} (h : HitsT w v l) (hk : ∀ j, OfType w 38 j → w'.heap[j]? = w.heap[j]?) : HitsT w' v l :=
  (HitsF.agree h hk).mono fun j hj => by
    obtain ⟨cs, fr, e⟩ := id hj
    exact ⟨cs, fr, (hk j hj).trans e⟩

theorem RzAt.lay (h : RzAt B w x c dim vn ve lv rs s) (hL : s.L.length ≤ 1000) {q : Option Addr} {c1 : Nat} (hrow : w.ownsRow B 38 3 (.slice q rs.length c1) rs.length (flat3 rs)) (k : Int) {u : Value} {xs : List Int} (hu : w.ownsRow B 21 1 u xs.length (xs.map (Value.int .i32))) (hap : ∀ r ∈ rs, r.vec.ownBlock = none ∨ r.vec.ownBlock ≠ u.ownBlock) (hu1 : u.oneCell' = true) :
    ∃ g cp w1, (∀ ty, (Builtin.append_ #[30, 30] ty #[.slice q rs.length c1, .slice (some ⟨w.heap.size, 0, none⟩) 1 1]).run Tryz.prog (w.alloc (.cells #[.int .u64 k, .int .u64 0, u] 38)) = .ok (.slice (some ⟨g, 0, none⟩) (rs.length + 1) cp) w1) ∧
    RzAt B (w1.setCell ⟨x, 2, none⟩ (.slice (some ⟨g, 0, none⟩) (rs.length + 1) cp)) x c dim vn ve (.slice (some ⟨g, 0, none⟩) (rs.length + 1) cp) (rs ++ [⟨k, 0, u⟩]) ⟨s.N, s.E, s.L ++ [⟨k, 0, xs⟩]⟩ ∧ w1.heap[x]? = w.heap[x]? ∧ Mod (fun j => (Value.slice q rs.length c1).ownBlock = some j ∨ j = x) w (w1.setCell ⟨x, 2, none⟩ (.slice (some ⟨g, 0, none⟩) (rs.length + 1) cp)) := by
  have hlr : rs.length = s.L.length := h.held.len
  obtain ⟨g, cp, w1, hrun, hown, hg, hat, hgl⟩ := run_push rowHit hrow h.big #[.int .u64 k, .int .u64 0, u] rfl (by intro y hy; simp at hy; rcases hy with rfl | rfl | rfl <;> first | rfl | exact hu1) (by simp [maxLen]; omega) (by omega)
  have hb1 : Below w.heap.size w (w.alloc (.cells #[.int .u64 k, .int .u64 0, u] 38)) := (Below.refl _ w).alloc (Nat.le_refl _) _
  have hmw : Mod (fun j => (Value.slice q rs.length c1).ownBlock = some j) w w1 := (Mod.of_below (F := fun j => (Value.slice q rs.length c1).ownBlock = some j) hb1).grown hg (fun j hj => .inl hj)
  have nx : (Value.slice q rs.length c1).ownBlock ≠ some x := fun e => absurd (OfType.ne (own_type hrow e) ⟨_, _, h.cell⟩) (by decide)
  have hcx := hmw.block x (lt_block h.cell) nx
  have hgx : g ≠ x := by
    rcases hat with e | e
    · rintro rfl; exact nx e
    · have := lt_block h.cell; omega
  have hset := setBk (hcx.trans h.cell) 2 (.slice (some ⟨g, 0, none⟩) (rs.length + 1) cp)
  have hm2 : Mod (fun j => (Value.slice q rs.length c1).ownBlock = some j ∨ j = x) w (w1.setCell ⟨x, 2, none⟩ (.slice (some ⟨g, 0, none⟩) (rs.length + 1) cp)) := (hmw.mono fun j _ e => .inl e).setCell (p := ⟨x, 2, none⟩) (.inl (.inr rfl)) _
  have no : ∀ T j, OfType w T j → T ≠ 38 → T ≠ 50 → ¬ ((Value.slice q rs.length c1).ownBlock = some j ∨ j = x) := fun T j ht h1 h2 hf => by
    rcases hf with e | rfl
    · exact h1 (ht.ne (own_type hrow e))
    · exact h2 (ht.ne ⟨_, _, h.cell⟩)
  have keep : ∀ {u : Value} {xs : List Int}, w.ownsRow B 21 1 u xs.length (xs.map (Value.int .i32)) → (w1.setCell ⟨x, 2, none⟩ (.slice (some ⟨g, 0, none⟩) (rs.length + 1) cp)).ownsRow B 21 1 u xs.length (xs.map (Value.int .i32)) := fun h2 => own_agree h2 fun j hj => hm2.block j (h2.lt j hj).2 (no _ j (own_type h2 hj) (by decide) (by decide))
  have hh2 : Held3 (w1.setCell ⟨x, 2, none⟩ (.slice (some ⟨g, 0, none⟩) (rs.length + 1) cp)) B 21 rs s.L := h.held.agreed fun j ⟨cs, fr, e⟩ => hm2.block j (lt_block e) (no _ j ⟨cs, fr, e⟩ (by decide) (by decide))
  refine ⟨g, cp, w1, hrun, ⟨by simpa using hset, h.doc.kept hm2 (fun j _ ht => no _ j ht (by decide) (by decide)) (fun j _ ht => no _ j ht (by decide) (by decide)) (fun j _ ht => no _ j ht (by decide) (by decide)), ?_, hh2.snoc (z := ⟨k, 0, xs⟩) (keep hu) hap, h.low, Nat.le_trans h.big hm2.size⟩, hcx, hm2⟩
  rw [List.length_append, flat3_append]
  exact own_agree hown fun j hj => setBk_other (fun e => hgx ((show g = j from by simpa [Value.ownBlock] using hj).trans e))
end

end Go.Proofs.YtpjbkaibgajpcaaGreat
