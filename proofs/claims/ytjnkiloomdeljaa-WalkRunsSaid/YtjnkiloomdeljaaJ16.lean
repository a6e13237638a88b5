/-
  best's document: a list in memory; its worst.
  A region that draws its order and ends with a store: what is held through the region need not hold behind the last operation.
  best's document: one is added.
-/
import Derived.Test.YtjnkiloomdeljaaJ15
import Derived.Test.YtjnkiloomdeljaaJ02
namespace Go.Proofs.Ytjnkiloomdeljaa
open Go.RowKit

/-- the document's list in memory: its cell c, its slice v read from G -/
structure RefOwn (w : World) (c : Nat) (most : Int) (v : Value) (G : Nat → Prop) (r : List Hz) : Prop where
  obj : w.heap[c]? = some (.cells #[.int .i64 most, v] 81 (0, 0))
  hits : HitsF w G v r
  gc : ¬ G c
  ghi : ∀ k, G k → k < w.heap.size

theorem RefOwn.below {w w' : World} {c : Nat} {most : Int} {v : Value} {G : Nat → Prop} {r : List Hz} (h : RefOwn w c most v G r) (hb : Below w.heap.size w w') : RefOwn w' c most v G r :=
  ⟨by rw [hb.block _ (lt_block h.obj)]; exact h.obj, h.hits.below hb, h.gc, fun k hk => by have := h.ghi k hk; have := hb.size; omega⟩

theorem RefOwn.cells {w : World} {c : Nat} {most : Int} {v : Value} {G : Nat → Prop} {r : List Hz} (h : RefOwn w c most v G r) : w.cell? ⟨c, 0, none⟩ = some (.int .i64 most) ∧ w.cell? ⟨c, 1, none⟩ = some v ∧ w.frozen? ⟨c, 1, none⟩ = false :=
  ⟨by simp [World.cell?, h.obj], by simp [World.cell?, h.obj], by simp [World.frozen?, h.obj]⟩

theorem RefOwn.agree {w w' : World} {c : Nat} {most : Int} {v : Value} {G : Nat → Prop} {r : List Hz} (h : RefOwn w c most v G r) (hc : w'.heap[c]? = w.heap[c]?) (ha : Agree G w w') (hs : w.heap.size ≤ w'.heap.size) : RefOwn w' c most v G r :=
  ⟨by rw [hc]; exact h.obj, h.hits.agree ha, h.gc, fun k hk => by have := h.ghi k hk; omega⟩

set_option maxHeartbeats 4000000 in
theorem worst (c : Nat) (most : Int) (v : Value) (G : Nat → Prop) (r : List Hz) (w : World) (h : RefOwn w c most v G r) (hd : Ids r) (hne : 0 < r.length) :
    Calls Try.prog 64 #[.pointer (some ⟨c, 0, none⟩)] w fun e w' => (∃ i, ∃ hi : i < r.length, e = .returned (.int .i64 i) ∧ ∀ j (hj : j < r.length), j ≠ i → near r[j] r[i] = true) ∧ Below w.heap.size w w' := by
  obtain ⟨p, cap, rfl, hcap, hbig, -, -⟩ := id h.hits
  obtain ⟨c0, c1, -⟩ := h.cells
  have hl9 : r.length ≤ 9223372036854775807 := by omega
  have H := Lib.hid h
  have D := Lib.hid hd
  clear h hd hcap hbig
  go_enter Try.func64, Try.ntmps64
  go_wp2_with fail
  go_loopg [3, 11] r.length (fun q' u i wr => ∃ (k j : Nat) (hj : j < r.length), q' = r.length - k ∧ k ≤ r.length ∧ i = .int .i64 k ∧ u = .int .i64 j ∧ (∀ t (ht : t < r.length), t < k → t ≠ j → near r[t] r[j] = true) ∧ (k ≤ j → j = 0) ∧ Below w.heap.size w wr)
  case atStart => exact ⟨0, 0, hne, rfl, by omega, rfl, rfl, fun t _ h => absurd h (by omega), fun _ => rfl, Below.refl _ _⟩
  case round =>
    obtain ⟨k, j, hj, rfl, hk, rfl, rfl, hall, hkj, hb⟩ := hrel
    by_cases hlt : k < r.length
    · obtain ⟨rs', -, -, hel⟩ := (H.out.hits.below hb).rows
      obtain ⟨b, off, up, uc, -, rfl, -, -, d0, d1, d2, -, -⟩ := hel k hlt
      obtain ⟨b', off', up', uc', -, hp', -, -, e0, e1, e2, -, -⟩ := hel j hj
      obtain ⟨rfl, rfl⟩ : b = b' ∧ off = off' := by simpa using hp'
      have a1 := below_cells hb c1
      have A := Lib.hid (And.intro hall (And.intro hkj hb))
      have hsz := hb.size
      have j0 : (0 : Int) ≤ (j : Int) := by omega
      have j1 : (j : Int) < (r.length : Int) := by omega
      clear hall hkj hb hel hp'
      go_wp2_with fail
      obtain ⟨W0, hW0⟩ : ∃ W0, W0 = (wr.alloc (Obj.cells #[Value.int IntKind.u64 r[k].id, Value.int IntKind.u64 r[k].dist, Value.slice up r[k].vec.length uc] 43)).drew := ⟨_, rfl⟩
      have b0 : Below wr.heap.size wr W0 := by rw [hW0]; exact ((Below.refl _ _).alloc (Nat.le_refl _) _).drew
      have x0 : W0.cell? ⟨wr.heap.size, 0, none⟩ = some (.int .u64 r[k].id) := by rw [hW0]; go_simp
      have x1 : W0.cell? ⟨wr.heap.size, 1, none⟩ = some (.int .u64 r[k].dist) := by rw [hW0]; go_simp
      have x2 : W0.cell? ⟨wr.heap.size, 2, none⟩ = some (.slice up r[k].vec.length uc) := by rw [hW0]; go_simp
      have HW := Lib.hid hW0
      replace a1 := below_cells b0 a1
      replace e0 := below_cells b0 e0
      replace e1 := below_cells b0 e1
      replace e2 := below_cells b0 e2
      clear hW0 d0 d1 d2
      refine region_go (fun w' => w'.cell? ⟨c, 1, none⟩ = some (.slice (some ⟨b, off, none⟩) r.length cap) ∧ w'.cell? ⟨b, off + j * 3, none⟩ = some (.int .u64 r[j].id) ∧ w'.cell? ⟨b, off + j * 3 + 1, none⟩ = some (.int .u64 r[j].dist) ∧ w'.cell? ⟨b, off + j * 3 + 1 + 1, none⟩ = some (.slice up' r[j].vec.length uc') ∧ w'.cell? ⟨wr.heap.size, 0, none⟩ = some (.int .u64 r[k].id) ∧ w'.cell? ⟨wr.heap.size, 1, none⟩ = some (.int .u64 r[k].dist) ∧ w'.cell? ⟨wr.heap.size, 2, none⟩ = some (.slice up r[k].vec.length uc)) (by kernel_rfl) ?hS0 (fun hH => ?_)
      case hS0 =>
        rw [← HW.out]; exact ⟨a1, e0, e1, e2, x0, x1, x2⟩
      rw [← HW.out] at hH ⊢
      refine kY 0 hH ?_
      repeat simp only [Act.put, uA1, uB1, uC1]
      refine kY 1 hH ?_
      repeat simp only [Act.put, uA1, uB1, uC1]
      refine kY 2 hH ?_
      repeat simp only [Act.put, uA1, uB1, uC1]
      refine kY 3 hH ?_
      repeat simp only [Act.put, uA1, uB1, uC1]
      refine kY 4 hH ?_
      repeat simp only [Act.put, uA1, uB1, uC1]
      refine kY 5 hH ?_
      repeat simp only [Act.put, uA1, uB1, uC1]
      refine kY 6 hH ?_
      repeat simp only [Act.put, uA1, uB1, uC1]
      refine kY 7 hH ?_
      repeat simp only [Act.put, uA1, uB1, uC1]
      refine spk 8 rfl (by decide +kernel) (by rfl) (fun K' hK => ?_)
      go_simp
      refine (refNearer r[j].id r[j].dist r[k].id r[k].dist _ _ _).mono ?_
      rintro e w4 ⟨rfl, hb4⟩
      try dsimp only
      refine hK.out _ _ ?hS (fun hH' => ?_)
      case hS =>
        exact ⟨below_cells hb4 a1, below_cells hb4 e0, below_cells hb4 e1, below_cells hb4 e2, below_cells hb4 x0, below_cells hb4 x1, below_cells hb4 x2⟩
      clear hK K' hH; have hH := hH'; clear hH'; repeat simp only [Act.put, uA1, uB1, uC1]
      refine wpAnyH_done (by decide +kernel) ?_ _
      have B4 := Lib.hid (A.out.2.2.trans ((b0.trans (hb4.mono b0.size)).mono hsz))
      have hkw := lt_of_cell hH.2.2.2.2.1
      have ht2 : r.length - (k + 1) < r.length - k := by omega
      clear hH hb4 a1 e0 e1 e2 x0 x1 x2 b0 hkw
      cases hq : nearB r[j].id r[j].dist r[k].id r[k].dist
      · go_wp2_with fail
        go_roundg (r.length - (k + 1))
        case measure => omega
        case rel =>
          refine ⟨k + 1, j, hj, rfl, by omega, by go_num, rfl, fun t ht htk hne => ?_, fun h => A.out.2.1 (by omega), B4.out⟩
          by_cases e : t = k
          · subst e
            have hid : r[t].id ≠ r[j].id := by
              rcases Nat.lt_or_ge t j with h | h
              · exact List.pairwise_iff_getElem.1 D.out t j ht hj h
              · exact (List.pairwise_iff_getElem.1 D.out j t hj ht (by omega)).symm
            rcases near_total hid with h | h
            · exact h
            · rw [show near r[j] r[t] = false from hq] at h; cases h
          · exact A.out.1 t ht (by omega) hne
      · go_wp2_with fail
        go_roundg (r.length - (k + 1))
        case measure => omega
        case rel =>
          refine ⟨k + 1, k, hlt, rfl, by omega, by go_num, rfl, fun t ht htk hne => ?_, fun h => by omega, B4.out⟩
          by_cases e : t = j
          · subst e; exact hq
          · exact near_trans (A.out.1 t ht (by omega) e) hq
    · obtain rfl : r.length = k := by omega
      have BF := Lib.hid (And.intro hall hb)
      clear hall hb
      go_wp2_with fail
      go_ret
      exact ⟨⟨j, hj, rfl, fun t ht hne => BF.out.1 t ht ht hne⟩, BF.out.2⟩

end Go.Proofs.Ytjnkiloomdeljaa

namespace Go.Proofs.Ytjnkiloomdeljaa
open Go.RowKit

section
variable {P : Program} {ops : Array Oper} {Q : Exit → Act → World → Prop} {md : Region.Mode} {S : World → Prop} {n : Nat}

/-- in whatever order from here on; behind each but number n S holds -/
def anyBut (P : Program) (md : Region.Mode) (ops : Array Oper) (Q : Exit → Act → World → Prop) (S : World → Prop) (n : Nat) : Nat → Array Bool → Act → World → Prop
  | 0, listed, a, w => Region.ready md ops listed = [] ∧ Q .normal a w
  | k + 1, listed, a, w => (Region.ready md ops listed = [] → Q .normal a w) ∧ ∀ i ∈ Region.ready md ops listed, wpOp P ops Q i (fun a' w' => (i ≠ n → S w') ∧ anyBut P md ops Q S n k (listed.setIfInBounds i true) a' w') a w

theorem anyBut_any : ∀ (k : Nat) (listed : Array Bool) (a : Act) (w : World), anyBut P md ops Q S n k listed a w → wpAny P md ops Q k listed a w
  | 0, _, _, _, h => h
  | k + 1, _, _, _, h => ⟨h.1, fun i hi => wpOp_mono (fun _ _ h' => anyBut_any k _ _ _ h'.2) (h.2 i hi)⟩

/-- number n waits for number i -/
def waitsFor (md : Region.Mode) (ops : Array Oper) (n i : Nat) : Bool := match ops[n]? with | none => false | some o => o.after.toList.any fun e => Region.binds md e && e.on == i

theorem waits_not {i : Nat} {listed : Array Bool} (hw : waitsFor md ops n i = true) (hi : i ∈ Region.ready md ops listed) (hn : n ∈ Region.ready md ops listed) : False := by
  obtain ⟨-, o, ho, hall⟩ := mem_ready.1 hn
  simp only [waitsFor, ho, List.any_eq_true, Bool.and_eq_true, beq_iff_eq] at hw
  obtain ⟨e, he, hb, rfl⟩ := hw
  have h1 := hall e (by simpa using he) hb
  have h0 := (mem_ready.1 hi).1
  rcases Nat.lt_or_ge e.on listed.size with h' | h'
  · simp [h'] at h0 h1; rw [h0] at h1; cases h1
  · simp [Array.getElem?_eq_none h'] at h1

theorem anyBut_first {i : Nat} {oi : Oper} {v : Value} (hi : ops[i]? = some oi) (hsel : ∀ (j : Nat) (o : Oper) cs b, ops[j]? = some o → o.op ≠ .select cs b)
    (hQ : ∀ c a w, Q (.panic c) (a.put oi.dst v) w → Q (.panic c) a w) (hwn : waitsFor md ops n i = true) : ∀ (k : Nat) (listed : Array Bool) (a : Act) (w : World),
      (∀ j oj, ops[j]? = some oj → j ≠ i → listed.getD j true = false → (∀ e ∈ oj.after, Region.binds md e = true → e.on ≠ i) → oi.apart ops oj = true) →
      i ∈ Region.ready md ops listed → YieldsIf P ops S oi v a → S w →
      anyBut P md ops Q S n k (listed.setIfInBounds i true) (a.put oi.dst v) w → anyBut P md ops Q S n (k + 1) listed a w := by
  intro k
  induction k with
  | zero =>
    intro listed a w _ hr hy hS H
    refine ⟨fun h => (by rw [h] at hr; cases hr), fun j hj => ?_⟩
    by_cases hji : j = i
    · subst hji; exact hy.wpOp hi hS ⟨fun _ => hS, H⟩
    · have := ready_mono hj hji
      rw [H.1] at this
      cases this
  | succ k ih =>
    intro listed a w hfree hr hy hS H
    refine ⟨fun h => (by rw [h] at hr; cases hr), fun j hj => ?_⟩
    by_cases hji : j = i
    · subst hji; exact hy.wpOp hi hS ⟨fun _ => hS, H⟩
    · have hjn : j ≠ n := by rintro rfl; exact waits_not hwn hr hj
      obtain ⟨hjun, oj, hoj, hall⟩ := mem_ready.1 hj
      have hnot : ∀ e ∈ oj.after, Region.binds md e = true → e.on ≠ i := fun e he hb heq => by
        have h1 := hall e he hb
        have h0 := (mem_ready.1 hr).1
        rw [heq] at h1
        rcases Nat.lt_or_ge i listed.size with h' | h'
        · simp [h'] at h0 h1; rw [h0] at h1; cases h1
        · simp [Array.getElem?_eq_none h'] at h1
      have h2 := wpOp_putIf hoj (hfree j oj hoj hji hjun hnot) (fun cs b => hsel i oi cs b hi) (fun cs b => hsel j oj cs b hoj) hQ hy (H.2 j (ready_mono hj hji))
      refine wpOp_mono (fun a' w' h3 => ⟨h3.2.1, ih (listed.setIfInBounds j true) a' w' (fun k ok hk hki hun hno => hfree k ok hk hki ?_ hno) (ready_mono hr (Ne.symm hji)) h3.1 (h3.2.1 hjn) ?_⟩) h2
      · by_cases hjk : j = k
        · subst hjk; exact hjun
        · rw [getD_set_ne true hjk] at hun; exact hun
      · rw [Array.setIfInBounds_comm _ _ hji]
        exact h3.2.2

def canTakeN (md : Region.Mode) (ops : Array Oper) (listed : Array Bool) (n i : Nat) : Bool := canTake md ops listed i && waitsFor md ops n i

theorem tkNN (i : Nat) {oi : Oper} {k : Nat} {listed : Array Bool} {a : Act} {w : World} (hS : S w) (hi : ops.toList[i]? = some oi) (hQ : ∀ c a w, Q (.panic c) (a.put oi.dst undef) w → Q (.panic c) a w)
    (hc : canTakeN md ops listed n i = true) (hw : Region.wanted oi (yielded ops a.tmps) = false)
    (h : anyBut P md ops Q S n k (listed.setIfInBounds i true) (a.put oi.dst undef) w) : anyBut P md ops Q S n (k + 1) listed a w := by
  simp only [canTakeN, canTake, Bool.and_eq_true] at hc
  have hi' : ops[i]? = some oi := by rw [← hi, Array.getElem?_toList]
  exact anyBut_first hi' (Region.noSelect_spec hc.1.1.1) hQ hc.2 k listed a w (Region.free_spec hi' hc.1.1.2) (by simpa using hc.1.2) (.inr ⟨hw, rfl⟩) hS h

theorem kNN (i : Nat) {oi : Oper} {k : Nat} {listed : Array Bool} {a : Act} {w : World} (hS : S w) (h : anyBut P md ops Q S n k (listed.setIfInBounds i true) (a.put oi.dst undef) w)
    (hi : ops.toList[i]? = some oi := by exact rfl) (hQ : ∀ c a w, Q (.panic c) (a.put oi.dst undef) w → Q (.panic c) a w := by exact fun _ _ _ h => h) (hc : canTakeN md ops listed n i = true := by decide +kernel) (hw : Region.wanted oi (yielded ops a.tmps) = false := by rfl) : anyBut P md ops Q S n (k + 1) listed a w :=
  tkNN i hS hi hQ hc hw h

theorem tkYN (i : Nat) {oi : Oper} {v : Value} {k : Nat} {listed : Array Bool} {a : Act} {w : World} (hS : S w) (hi : ops.toList[i]? = some oi) (hQ : ∀ c a w, Q (.panic c) (a.put oi.dst v) w → Q (.panic c) a w)
    (hc : canTakeN md ops listed n i = true) (hw : Region.wanted oi (yielded ops a.tmps) = true) (hy : ∀ w, S w → (execOp a.eval oi).run P w = .ok (.value v) w)
    (h : anyBut P md ops Q S n k (listed.setIfInBounds i true) (a.put oi.dst v) w) : anyBut P md ops Q S n (k + 1) listed a w := by
  simp only [canTakeN, canTake, Bool.and_eq_true] at hc
  have hi' : ops[i]? = some oi := by rw [← hi, Array.getElem?_toList]
  exact anyBut_first hi' (Region.noSelect_spec hc.1.1.1) hQ hc.2 k listed a w (Region.free_spec hi' hc.1.1.2) (by simpa using hc.1.2) (.inl ⟨hw, hy⟩) hS h

theorem kYN (i : Nat) {oi : Oper} {v : Value} {k : Nat} {listed : Array Bool} {a : Act} {w : World} (hS : S w) (h : anyBut P md ops Q S n k (listed.setIfInBounds i true) (a.put oi.dst v) w)
    (hi : ops.toList[i]? = some oi := by exact rfl) (hQ : ∀ c a w, Q (.panic c) (a.put oi.dst v) w → Q (.panic c) a w := by exact fun _ _ _ h => h) (hc : canTakeN md ops listed n i = true := by decide +kernel) (hw : Region.wanted oi (yielded ops a.tmps) = true := by rfl) (hy : ∀ w, S w → (execOp a.eval oi).run P w = .ok (.value v) w := by intro w hS; (try dsimp only at hS); go_simp; try with_reducible rfl) : anyBut P md ops Q S n (k + 1) listed a w :=
  tkYN i hS hi hQ hc hw hy h

theorem step_to {i : Nat} {oi : Oper} {k : Nat} {listed : Array Bool} {a : Act} {w : World} (hi : ops.toList[i]? = some oi) (hw : Region.wanted oi (yielded ops a.tmps) = true) (hin : i ≠ n)
    (h : ∀ K' : Act → World → Prop, Shut (∀ a w, S w → (S w → anyBut P md ops Q S n k (listed.setIfInBounds i true) a w) → K' a w) → oi.wp P a w K' Q) :
    wpOp P ops Q i (fun a' w' => (i ≠ n → S w') ∧ anyBut P md ops Q S n k (listed.setIfInBounds i true) a' w') a w := by
  refine wpOp_step (by rw [← hi, Array.getElem?_toList]) fun K' hK => ?_
  rw [if_pos hw]
  exact h K' fun a w hS hW => hK a w ⟨fun _ => hS, hW hS⟩

theorem spkN (i : Nat) {oi : Oper} {k : Nat} {listed : Array Bool} {a : Act} {w : World} (hi : ops.toList[i]? = some oi) (hin : i ≠ n)
    (hr : Region.ready md ops listed = [i]) (hw : Region.wanted oi (yielded ops a.tmps) = true)
    (h : ∀ K' : Act → World → Prop, Shut (∀ a w, S w → (S w → anyBut P md ops Q S n k (listed.setIfInBounds i true) a w) → K' a w) → oi.wp P a w K' Q) : anyBut P md ops Q S n (k + 1) listed a w := by
  refine ⟨fun h0 => (by rw [h0] at hr; cases hr), fun j hj => ?_⟩
  rw [hr] at hj
  obtain rfl := List.mem_singleton.1 hj
  exact step_to hi hw hin h

theorem spkL {oi : Oper} {k : Nat} {listed : Array Bool} {a : Act} {w : World} (hi : ops.toList[n]? = some oi)
    (hr : Region.ready md ops listed = [n]) (hw : Region.wanted oi (yielded ops a.tmps) = true)
    (h : ∀ K' : Act → World → Prop, Shut (∀ a w, anyBut P md ops Q S n k (listed.setIfInBounds n true) a w → K' a w) → oi.wp P a w K' Q) : anyBut P md ops Q S n (k + 1) listed a w := by
  refine ⟨fun h0 => (by rw [h0] at hr; cases hr), fun j hj => ?_⟩
  rw [hr] at hj
  obtain rfl := List.mem_singleton.1 hj
  refine wpOp_step (by rw [← hi, Array.getElem?_toList]) fun K' hK => ?_
  rw [if_pos hw]
  exact h K' fun a w hW => hK a w ⟨fun h => absurd rfl h, hW⟩

theorem spBN (i j : Nat) {oi oj : Oper} {k : Nat} {listed : Array Bool} {a : Act} {w : World} (hi : ops.toList[i]? = some oi) (hj : ops.toList[j]? = some oj) (hin : i ≠ n) (hjn : j ≠ n)
    (hr : Region.ready md ops listed = [i, j]) (hwi : Region.wanted oi (yielded ops a.tmps) = true) (hwj : Region.wanted oj (yielded ops a.tmps) = true)
    (h : ∀ K' : Act → World → Prop, Shut (∀ a w, S w → (S w → anyBut P md ops Q S n k (listed.setIfInBounds i true) a w) → K' a w) → oi.wp P a w K' Q)
    (h' : ∀ K' : Act → World → Prop, Shut (∀ a w, S w → (S w → anyBut P md ops Q S n k (listed.setIfInBounds j true) a w) → K' a w) → oj.wp P a w K' Q) : anyBut P md ops Q S n (k + 1) listed a w := by
  refine ⟨fun h0 => (by rw [h0] at hr; cases hr), fun q hq => ?_⟩
  rw [hr] at hq
  rcases List.mem_cons.1 hq with rfl | hq
  · exact step_to hi hwi hin h
  · obtain rfl := List.mem_singleton.1 hq
    exact step_to hj hwj hjn h'

theorem anyBut_done {listed : Array Bool} {a : Act} {w : World} (hr : Region.ready md ops listed = []) (h : Q .normal a w) : ∀ k, anyBut P md ops Q S n k listed a w
  | 0 => ⟨hr, h⟩
  | _ + 1 => ⟨fun _ => h, by rw [hr]; simp⟩

theorem region_goN {id : Nat} {a : Act} {w : World} (n : Nat) (S : World → Prop) (hm : P.follows .mixedOrders = true) (hS : S w.drew)
    (h : S w.drew → anyBut P .any ops Q S n ops.size (Array.replicate ops.size false) a w.drew) : (Code.region id ops true).wp P Q a w :=
  wp_region_any hm (anyBut_any _ _ _ _ (h hS))
end

end Go.Proofs.Ytjnkiloomdeljaa

namespace Go.Proofs.Ytjnkiloomdeljaa
open Go.RowKit

/-- the document's list, in whatever order, of the same hits as L -/
def RefL (w : World) (F : Nat → Prop) (c : Nat) (most : Int) (L : List Hz) : Prop := ∃ v G r, RefOwn w c most v G r ∧ L.Perm r ∧ F c ∧ ∀ k, G k → F k

theorem RefL.below {w w' : World} {c : Nat} {F : Nat → Prop} {most : Int} {l : List Hz} (h : RefL w F c most l) (hb : Below w.heap.size w w') : RefL w' F c most l :=
  let ⟨v, G, r, h, a, b, d⟩ := h; ⟨v, G, r, h.below hb, a, b, d⟩

theorem RefL.mono {w : World} {c : Nat} {F F' : Nat → Prop} {most : Int} {l : List Hz} (h : RefL w F c most l) (hs : ∀ k, F k → F' k) : RefL w F' c most l :=
  let ⟨v, G, r, h, a, b, d⟩ := h; ⟨v, G, r, h, a, hs _ b, fun k hk => hs _ (d k hk)⟩

theorem RefL.agree {w w' : World} {c : Nat} {F : Nat → Prop} {most : Int} {l : List Hz} (h : RefL w F c most l) (ha : Agree F w w') (hs : w.heap.size ≤ w'.heap.size) : RefL w' F c most l := by
  obtain ⟨v, G, r, h, a, b, d⟩ := h
  exact ⟨v, G, r, h.agree (ha c b) (fun k hk => ha k (d k hk)) hs, a, b, d⟩

/-- what the document's Add leaves -/
def RefAdd (w : World) (F : Nat → Prop) (c : Nat) (most : Int) (p : Bool × List Hz) (e : Ending) (w' : World) : Prop :=
  e = .returned (.bool p.1) ∧ RefL w' (Plus F w w') c most p.2 ∧ Mod (fun k => k = c) w w'

/-- half way: the list, and the hit's own vector -/
structure MidR (w W : World) (F : Nat → Prop) (c : Nat) (most : Int) (v : Value) (G : Nat → Prop) (r : List Hz) (u : Value) (h : Hz) : Prop where
  ro : RefOwn W c most v G r
  mod : Mod (fun k => k = c) w W
  gF : ∀ k, G k → F k ∨ w.heap.size ≤ k
  fc : F c
  lt : c < w.heap.size
  uo : W.ownsRow w.heap.size 21 1 u h.vec.length (h.vec.map (Value.int .i32))

theorem MidR.below {w W W' : World} {F : Nat → Prop} {c : Nat} {most : Int} {v : Value} {G : Nat → Prop} {r : List Hz} {u : Value} {h : Hz} (m : MidR w W F c most v G r u h) (hb : Below W.heap.size W W') : MidR w W' F c most v G r u h :=
  ⟨m.ro.below hb, m.mod.andBelow hb, m.gF, m.fc, m.lt, own_below m.uo hb⟩

theorem Rows3.back {w w' : World} {G : Nat → Prop} {rs : List Hv} {l : List Hz} (h : Rows3 w' G rs l) (hb : Below w.heap.size w w') (hG : ∀ k, G k → k < w.heap.size) : Rows3 w G rs l :=
  h.agree fun k hk => (hb.block k (hG k hk)).symm

theorem MidR.start {w w4 : World} {F : Nat → Prop} {c : Nat} {most : Int} {v : Value} {G : Nat → Prop} {r : List Hz} {u : Value} {h : Hz} {B : Nat} (ro : RefOwn w c most v G r) (hF : F c ∧ ∀ k, G k → F k) (hb : Below w.heap.size w w4) (hB : w.heap.size < B)
    (uo : w4.ownsRow B 21 1 u h.vec.length (h.vec.map (Value.int .i32))) : MidR w (w4.setCell ⟨w.heap.size, 2, none⟩ u) F c most v G r u h := by
  have hlt := lt_block ro.obj
  have r4 := ro.below hb
  refine ⟨r4.agree (Below.heap_setCell _ _ _ _ (by simp only; omega)) (fun k hk => Below.heap_setCell _ _ _ _ (by have := ro.ghi k hk; simp only; omega)) (by simp [World.setCell]), (Mod.of_below hb).setCell (.inr (Nat.le_refl _)) _, fun k hk => .inl (hF.2 k hk), hF.1, hlt, ?_⟩
  exact own_mono (ownsRow_setCell_other uo (fun e => by have := (uo.lt _ e).1; simp only at this; omega) _) (Nat.le_of_lt hB)

/-- nothing is put -/
theorem MidR.same {w W : World} {F : Nat → Prop} {c : Nat} {most : Int} {v : Value} {G : Nat → Prop} {r L : List Hz} {u : Value} {h : Hz} (m : MidR w W F c most v G r u h) (hp : L.Perm r) : RefAdd w F c most (false, L) (.returned (.bool false)) W :=
  ⟨rfl, ⟨v, G, r, m.ro, hp, .inl m.fc, fun k hk => by
    rcases m.gF k hk with h1 | h1
    · exact .inl h1
    · exact .inr ⟨h1, m.ro.ghi k hk⟩⟩, m.mod⟩

/-- it is put behind r2, which is read from G2 -/
theorem MidR.put {w W W9 : World} {F : Nat → Prop} {c n : Nat} {most : Int} {v v9 : Value} {G : Nat → Prop} {r r2 L : List Hz} {rs2 : List Hv} {u : Value} {h : Hz} {B : Nat} (m : MidR w W F c most v G r u h) (hb : Below W.heap.size W W9) (hB : w.heap.size ≤ B)
    (ho : W9.ownsRow B 43 3 v9 n (flat3 rs2 ++ (#[.int .u64 h.id, .int .u64 h.dist, u] : Array Value).toList)) (hr : Rows3 W9 G rs2 r2) (hp : L.Perm (r2 ++ [h])) :
    RefAdd w F c most (true, L) (.returned (.bool true)) (W9.setCell ⟨c, 1, none⟩ v9) := by
  have m9 := m.below hb
  have hs := m9.mod.size
  have hlt := m9.lt
  have hn : n = (rs2 ++ [(⟨h.id, h.dist, u⟩ : Hv)]).length := by
    have := ho.1
    rw [← flat3_snoc, flat3_length] at this
    omega
  rw [← flat3_snoc] at ho
  have hrr : Rows3 W9 (fun k => G k ∨ (w.heap.size ≤ k ∧ k < W9.heap.size)) (rs2 ++ [⟨h.id, h.dist, u⟩]) (r2 ++ [h]) :=
    (hr.mono fun k hk => .inl hk).append (Rows3.single (Nums.of_own m9.uo) (fun _ b hb => Or.inr (m9.uo.lt b hb)))
  have hits := HitsF.of_own (F := fun k => G k ∨ (w.heap.size ≤ k ∧ k < W9.heap.size)) ho (fun b hb => .inr ⟨Nat.le_trans hB (ho.lt b hb).1, (ho.lt b hb).2⟩) hrr
  have hGc : ¬ (G c ∨ (w.heap.size ≤ c ∧ c < W9.heap.size)) := by
    rintro (h1 | h1)
    · exact m.ro.gc h1
    · omega
  refine ⟨rfl, ⟨v9, fun k => G k ∨ (w.heap.size ≤ k ∧ k < W9.heap.size), r2 ++ [h], ⟨?_, hits.agree fun k hk => Below.heap_setCell _ _ _ _ (by rintro rfl; exact hGc hk), hGc, fun k hk => ?_⟩, hp, .inl m.fc, fun k hk => ?_⟩, m9.mod.setCell (.inl rfl) _⟩
  · simp [World.setCell, Array.getElem?_modify, m9.ro.obj]
  · rw [show (W9.setCell ⟨c, 1, none⟩ v9).heap.size = W9.heap.size from by simp [World.setCell]]
    rcases hk with hk | hk
    · exact m9.ro.ghi k hk
    · exact hk.2
  · rw [Plus, show (W9.setCell ⟨c, 1, none⟩ v9).heap.size = W9.heap.size from by simp [World.setCell]]
    rcases hk with hk | hk
    · rcases m.gF k hk with h1 | h1
      · exact .inl h1
      · exact .inr ⟨h1, m9.ro.ghi k hk⟩
    · exact .inr hk

/-- the list is another one now -/
theorem MidR.set {w W W6 : World} {F : Nat → Prop} {c n : Nat} {most : Int} {v v6 : Value} {G : Nat → Prop} {r r2 : List Hz} {rs2 : List Hv} {u : Value} {h : Hz} {B : Nat} (m : MidR w W F c most v G r u h) (hb : Below W.heap.size W W6) (hB : w.heap.size ≤ B)
    (ho : W6.ownsRow B 43 3 v6 n (flat3 rs2)) (hr : Rows3 W6 G rs2 r2) :
    MidR w (W6.setCell ⟨c, 1, none⟩ v6) F c most v6 (fun k => G k ∨ (w.heap.size ≤ k ∧ k < W6.heap.size)) r2 u h := by
  have m6 := m.below hb
  have hlt := m6.lt
  have hits := HitsF.of_own (F := fun k => G k ∨ (w.heap.size ≤ k ∧ k < W6.heap.size)) ho (fun b hb => .inr ⟨Nat.le_trans hB (ho.lt b hb).1, (ho.lt b hb).2⟩) (hr.mono fun k hk => .inl hk)
  have hGc : ¬ (G c ∨ (w.heap.size ≤ c ∧ c < W6.heap.size)) := by
    rintro (h1 | h1)
    · exact m.ro.gc h1
    · omega
  have hsz : (W6.setCell ⟨c, 1, none⟩ v6).heap.size = W6.heap.size := by simp [World.setCell]
  refine ⟨⟨by simp [World.setCell, Array.getElem?_modify, m6.ro.obj], hits.agree fun k hk => Below.heap_setCell _ _ _ _ (by rintro rfl; exact hGc hk), hGc, fun k hk => ?_⟩, m6.mod.setCell (.inl rfl) _, fun k hk => ?_, m.fc, m.lt, ownsRow_setCell_other m6.uo (fun e => by have := (m6.uo.lt _ e).1; simp only at this; omega) _⟩
  · rw [hsz]
    rcases hk with hk | hk
    · exact m6.ro.ghi k hk
    · exact hk.2
  · rcases hk with hk | hk
    · exact m.gF k hk
    · exact .inr hk.1

theorem far_last {L r : List Hz} (hs : Sorted L) (hp : L.Perm r) {i : Nat} (hi : i < r.length) (hfar : ∀ j (hj : j < r.length), j ≠ i → near r[j] r[i] = true) (hl : L.length - 1 < L.length) : r[i] = L[L.length - 1] := by
  obtain ⟨j, hj, e⟩ := List.mem_iff_getElem.1 (hp.mem_iff.1 (List.getElem_mem hl))
  by_cases hji : j = i
  · subst hji; exact e
  · have h1 := hfar j hj hji
    obtain ⟨k, hk, e2⟩ := List.mem_iff_getElem.1 (hp.mem_iff.2 (List.getElem_mem hi))
    rw [e, ← e2] at h1
    by_cases hkl : k = L.length - 1
    · subst hkl; exact e2.symm
    · have h2 := List.pairwise_iff_getElem.1 hs k (L.length - 1) hk hl (by omega)
      rw [near_asymm h2] at h1; cases h1

theorem erase_cons {L : List Hz} {k : Nat} (hk : k < L.length) : (L[k] :: L.eraseIdx k).Perm L := by
  rw [List.eraseIdx_eq_take_drop_succ]
  refine List.perm_middle.symm.trans ?_
  rw [← List.drop_eq_getElem_cons hk, List.take_append_drop]

theorem perm_erase {L r : List Hz} (hp : L.Perm r) {k i : Nat} (hk : k < L.length) (hi : i < r.length) (e : L[k] = r[i]) : (L.eraseIdx k).Perm (r.eraseIdx i) := by
  have h1 := erase_cons hk
  have h2 := erase_cons hi
  rw [← e] at h2
  exact (h1.trans (hp.trans h2.symm)).cons_inv

theorem perm_ins {L r : List Hz} (hp : L.Perm r) (h : Hz) : (insZ L h).Perm (r ++ [h]) :=
  (insZ_perm L h).trans ((hp.cons h).trans (List.perm_append_singleton h r).symm)

end Go.Proofs.Ytjnkiloomdeljaa
