/-
  disk: bytes are added to a file, in memory.
  A region that draws its order and ends with a store: what is held through the region need not hold behind the last operation.
-/
import Derived.Test.YtdcgooleiefljaaJ10
import Derived.Test.YtdcgooleiefljaaJ05
namespace Go.Proofs.Ytdcgooleiefljaa
open Go.RowKit Go.ChangeMaps Go.Shelf

def more (f : Fz) (v : Value) (all : List UInt8) : Fz := { f with v := v, bytes := f.bytes ++ all }

theorem DkAt.own_not {w : World} {B p m : Nat} {left : Int} {down : Bool} {room : Int} {F : List Fz} (h : DkAt w B p m left down room F) {f : Fz} (hf : f ∈ F) : f.v.ownBlock ≠ some p ∧ f.v.ownBlock ≠ some m ∧ f.v.ownBlock ≠ some f.blk ∧ m ≠ f.blk ∧ p ≠ f.blk := by
  refine ⟨(h.self.2 f hf).2, fun e => h.files.notCells (own_ty (h.row f hf) e), fun e => ?_, fun e => ?_, (h.self.2 f hf).1⟩
  · exact absurd ((own_ty (h.row f hf) e).ne ⟨_, _, h.file f hf⟩) (by decide)
  · exact h.files.notCells (T := 59) (e ▸ ⟨_, _, h.file f hf⟩)

theorem DkAt.app {w : World} {B p m : Nat} {left : Int} {down : Bool} {room : Int} {F1 F2 : List Fz} {f : Fz} (h : DkAt w B p m left down room (F1 ++ f :: F2)) (all : List UInt8) {q : Option Addr} {c : Nat} (hs : SrcAt w q all.length c 1 (all.map encB))
    (hlen : f.bytes.length + all.length ≤ 2000000000) :
    ∃ q' k' c' w1, (∀ ty, (Builtin.append_ #[37, 37] ty #[f.v, .slice q all.length c]).run Try.prog w = .ok (.slice q' k' c') w1) ∧ w.grownBy w1 f.v.ownBlock ∧ w1.heap[f.blk]? = w.heap[f.blk]? ∧ w1.heap[p]? = w.heap[p]? ∧ MapAt w1 strV m (filesL (F1 ++ f :: F2)) ∧
      DkAt (w1.setCell ⟨f.blk, 0, none⟩ (.slice q' k' c')) B p m left down room (F1 ++ more f (.slice q' k' c') all :: F2) ∧ DkStep w (w1.setCell ⟨f.blk, 0, none⟩ (.slice q' k' c')) p m (F1 ++ f :: F2) (F1 ++ more f (.slice q' k' c') all :: F2) := by
  have hf : f ∈ F1 ++ f :: F2 := by simp
  have hone : ∀ u ∈ all.map encB, u.oneCell' = true := by
    intro u hu
    obtain ⟨x, -, rfl⟩ := List.mem_map.1 hu
    rfl
  obtain ⟨q', k', c', w1, hrun, hown, hg, hap⟩ := run_app rowB (h.row f hf) h.big hs hone (by have : maxLen = 9223372036854775807 := rfl; omega) (by omega)
  obtain ⟨n1, n2, n3, n4, n5⟩ := h.own_not hf
  have hk : ∀ j, j < w.heap.size → f.v.ownBlock ≠ some j → w1.heap[j]? = w.heap[j]? := fun j hj hne => hg.block j hj (Ne.symm hne)
  have hfb := hk f.blk (lt_block (h.file f hf)) n3
  have hcell : w1.heap[f.blk]? = some (.cells #[f.v, .int .i64 f.firm] 59 (0, 0)) := hfb.trans (h.file f hf)
  have hset := setBlk hcell 0 (.slice q' k' c')
  have hmod : Mod (fun j => j = f.blk ∨ f.v.ownBlock = some j) w (w1.setCell ⟨f.blk, 0, none⟩ (.slice q' k' c')) :=
    ((Mod.refl _ w).grown hg (fun k hk => .inl (.inr hk))).setCell (p := ⟨f.blk, 0, none⟩) (.inl (.inl rfl)) _
  have hne : (Value.slice q' k' c').ownBlock ≠ some f.blk := by
    intro e
    exact absurd ((own_ty hown e).ne ⟨_, _, hcell⟩) (by decide)
  have hrow : (w1.setCell ⟨f.blk, 0, none⟩ (.slice q' k' c')).ownsRow B 5 1 (.slice q' k' c') (more f (.slice q' k' c') all).bytes.length ((more f (.slice q' k' c') all).bytes.map encB) := by
    have h1 := own_agree (w' := w1.setCell ⟨f.blk, 0, none⟩ (.slice q' k' c')) hown (fun k hk => by
      rw [World.setCell]
      have : k ≠ f.blk := fun e => hne (e ▸ hk)
      simp [Array.getElem?_modify, Ne.symm this])
    simpa [more] using h1
  obtain ⟨hD, hS⟩ := h.put (more f (.slice q' k' c') all) rfl rfl hmod (by simpa [more] using hset) hrow (by
    rcases hap with e | e
    · exact .inl e
    · exact .inr (.inr ⟨_, Nat.le_refl _, e⟩)) (Nat.le_trans (h.firm f hf) (by simp [more]))
  exact ⟨q', k', c', w1, hrun, hg, hfb, hk p (lt_block h.cell) n1, h.files.kept (hk m h.files.lt n2), hD, hS⟩

theorem putK_end {α : Type} [DecidableEq α] {L : List (α × Value)} {a : α} {v : Value} (h : ∀ x ∈ L, x.1 ≠ a) : putK L a v = L ++ [(a, v)] := by
  induction L with
  | nil => rfl
  | cons x L ih =>
    rw [putK, if_neg (h x (by simp)), ih fun y hy => h y (by simp [hy])]
    rfl

/-- a file is made, in the map -/
theorem DkAt.make {w : World} {B p m : Nat} {left : Int} {down : Bool} {room : Int} {F : List Fz} (h : DkAt w B p m left down room F) (name : List UInt8) (hn : inF F name = false) :
    ∃ w1, (Instr.mapUpdate 54 (.map (some m)) (strV name) (.pointer (some ⟨w.heap.size, 0, none⟩))).run Try.prog (w.alloc (.cells #[.slice none 0 0, .int .i64 0] 59)) = .ok () w1 ∧
      DkAt w1 B p m left down room (F ++ [⟨name, w.heap.size, .slice none 0 0, [], 0⟩]) ∧ DkStep w w1 p m F (F ++ [⟨name, w.heap.size, .slice none 0 0, [], 0⟩]) ∧ Mod (fun j => j = m) w w1 := by
  have hm1 : MapAt (w.alloc (.cells #[.slice none 0 0, .int .i64 0] 59)) strV m (filesL F) := h.files.kept (heap_alloc_old _ _ h.files.lt)
  obtain ⟨w1, hr, hm, hg, hsz⟩ := run_put KOS Try.underlying54 hm1 name (.pointer (some ⟨w.heap.size, 0, none⟩))
  have hnew : ∀ x ∈ filesL F, x.1 ≠ name := by
    intro x hx
    obtain ⟨f, hf, rfl⟩ := List.mem_map.1 hx
    simp only [inF, List.any_eq_false] at hn
    simpa using hn f hf
  rw [putK_end hnew] at hm
  have hmod : Mod (fun j => j = m) w w1 := (Mod.of_below (((Below.refl _ w).alloc (Nat.le_refl _) _))).grown hg (fun k hk => .inl (by cases hk; rfl))
  have hc : w1.heap[w.heap.size]? = some (.cells #[.slice none 0 0, .int .i64 0] 59 (0, 0)) := by
    rw [hg.block _ (by simp) (by intro e; have := h.files.lt; cases e; omega)]
    exact heap_alloc_new _ _
  obtain ⟨h1, h2⟩ := h.made name (by simpa [filesL] using hm) hmod hc
  exact ⟨w1, hr, h1, h2, hmod⟩

theorem usedF_app (F1 F2 : List Fz) : usedF (F1 ++ F2) = usedF F1 + usedF F2 := by simp [usedF]

theorem in_split {F : List Fz} {name : List UInt8} (h : inF F name = true) : ∃ F1 f F2, F = F1 ++ f :: F2 ∧ f.name = name := by
  simp only [inF, List.any_eq_true, decide_eq_true_eq] at h
  obtain ⟨f, hf, he⟩ := h
  obtain ⟨F1, F2, rfl⟩ := List.append_of_mem hf
  exact ⟨F1, f, F2, rfl, he⟩

/-- what the map has at a file's name -/
theorem DkAt.look_mid {w : World} {B p m : Nat} {left : Int} {down : Bool} {room : Int} {F1 F2 : List Fz} {f : Fz} (h : DkAt w B p m left down room (F1 ++ f :: F2)) : (getK (filesL (F1 ++ f :: F2)) f.name).getD (.pointer none) = .pointer (some ⟨f.blk, 0, none⟩) := by
  have hn := h.names
  rw [List.map_append, List.map_cons, List.nodup_append] at hn
  rw [getK_files, List.find?_append, List.find?_eq_none.2]
  · simp
  · intro g hg he
    exact hn.2.2 _ (List.mem_map.2 ⟨g, hg, rfl⟩) f.name (by simp) (by simpa using he)

/-- plainly -/
theorem addF_mid {F1 F2 : List Fz} {f : Fz} (v : Value) (all : List UInt8) (hn : ((F1 ++ f :: F2).map (·.name)).Nodup) : (F1 ++ more f v all :: F2).map plain = addF f.name all ((F1 ++ f :: F2).map plain) := by
  rw [List.map_append, List.map_cons, List.nodup_append, List.nodup_cons] at hn
  have h1 : ∀ g ∈ F1, g.name ≠ f.name := fun g hg e => hn.2.2 _ (List.mem_map.2 ⟨g, hg, rfl⟩) f.name (by simp) e
  have h2 : ∀ g ∈ F2, g.name ≠ f.name := fun g hg e => hn.2.1.1 (List.mem_map.2 ⟨g, hg, e⟩)
  unfold addF
  rw [if_pos (by simp [plain])]
  simp only [List.map_append, List.map_cons, List.map_map]
  congr 1
  · refine List.map_congr_left fun g hg => ?_
    simp [plain, h1 g hg]
  · congr 1
    · simp [plain, more]
    · refine List.map_congr_left fun g hg => ?_
      simp [plain, h2 g hg]

theorem addF_new {F : List Fz} (b : Nat) (v : Value) (name all : List UInt8) (hn : inF F name = false) : (F ++ [more ⟨name, b, .slice none 0 0, [], 0⟩ v all]).map plain = addF name all (F.map plain) := by
  unfold addF
  rw [any_plain, hn]
  simp [plain, more]

end Go.Proofs.Ytdcgooleiefljaa

namespace Go.Proofs.Ytdcgooleiefljaa
open Go.RowKit

section
variable {P : Program} {ops : Array Oper} {Q : Exit → Act → World → Prop} {md : Region.Mode} {S : World → Prop} {n : Nat}

/-- in whatever order from here on; behind each but number n S holds -/
def anyBut (P : Program) (md : Region.Mode) (ops : Array Oper) (Q : Exit → Act → World → Prop) (S : World → Prop) (n : Nat) : Nat → Array Bool → Act → World → Prop
  | 0, listed, a, w => Region.ready md ops listed = [] ∧ Q .normal a w
  | k + 1, listed, a, w => (Region.ready md ops listed = [] → Q .normal a w) ∧ ∀ i ∈ Region.ready md ops listed, wpOp P ops Q i (fun a' w' => (i ≠ n → S w') ∧ anyBut P md ops Q S n k (listed.setIfInBounds i true) a' w') a w

theorem anyBut_any : ∀ (k : Nat) (listed : Array Bool) (a : Act) (w : World), anyBut P md ops Q S n k listed a w → wpAny P md ops Q k listed a w
  | 0, _, _, _, h => h
  | k + 1, _, _, _, h => ⟨h.1, fun i hi => wpOp_mono (fun _ _ h' => anyBut_any k _ _ _ h'.2) (h.2 i hi)⟩

/-- number n waits for number i -/
def waitsFor (md : Region.Mode) (ops : Array Oper) (n i : Nat) : Bool := match ops[n]? with | none => false | some o => o.after.toList.any fun e => Region.binds md e && e.on == i

theorem waits_not {i : Nat} {listed : Array Bool} (hw : waitsFor md ops n i = true) (hi : i ∈ Region.ready md ops listed) (hn : n ∈ Region.ready md ops listed) : False := by
  obtain ⟨-, o, ho, hall⟩ := mem_ready.1 hn
  simp only [waitsFor, ho, List.any_eq_true, Bool.and_eq_true, beq_iff_eq] at hw
  obtain ⟨e, he, hb, rfl⟩ := hw
  have h1 := hall e (by simpa using he) hb
  have h0 := (mem_ready.1 hi).1
  rcases Nat.lt_or_ge e.on listed.size with h' | h'
  · simp [h'] at h0 h1; rw [h0] at h1; cases h1
  · simp [Array.getElem?_eq_none h'] at h1

theorem anyBut_first {i : Nat} {oi : Oper} {v : Value} (hi : ops[i]? = some oi) (hsel : ∀ (j : Nat) (o : Oper) cs b, ops[j]? = some o → o.op ≠ .select cs b)
    (hQ : ∀ c a w, Q (.panic c) (a.put oi.dst v) w → Q (.panic c) a w) (hwn : waitsFor md ops n i = true) : ∀ (k : Nat) (listed : Array Bool) (a : Act) (w : World),
      (∀ j oj, ops[j]? = some oj → j ≠ i → listed.getD j true = false → (∀ e ∈ oj.after, Region.binds md e = true → e.on ≠ i) → oi.apart ops oj = true) →
      i ∈ Region.ready md ops listed → YieldsIf P ops S oi v a → S w →
      anyBut P md ops Q S n k (listed.setIfInBounds i true) (a.put oi.dst v) w → anyBut P md ops Q S n (k + 1) listed a w := by
  intro k
  induction k with
  | zero =>
    intro listed a w _ hr hy hS H
    refine ⟨fun h => (by rw [h] at hr; cases hr), fun j hj => ?_⟩
    by_cases hji : j = i
    · subst hji; exact hy.wpOp hi hS ⟨fun _ => hS, H⟩
    · have := ready_mono hj hji
      rw [H.1] at this
      cases this
  | succ k ih =>
    intro listed a w hfree hr hy hS H
    refine ⟨fun h => (by rw [h] at hr; cases hr), fun j hj => ?_⟩
    by_cases hji : j = i
    · subst hji; exact hy.wpOp hi hS ⟨fun _ => hS, H⟩
    · have hjn : j ≠ n := by rintro rfl; exact waits_not hwn hr hj
      obtain ⟨hjun, oj, hoj, hall⟩ := mem_ready.1 hj
      have hnot : ∀ e ∈ oj.after, Region.binds md e = true → e.on ≠ i := fun e he hb heq => by
        have h1 := hall e he hb
        have h0 := (mem_ready.1 hr).1
        rw [heq] at h1
        rcases Nat.lt_or_ge i listed.size with h' | h'
        · simp [h'] at h0 h1; rw [h0] at h1; cases h1
        · simp [Array.getElem?_eq_none h'] at h1
      have h2 := wpOp_putIf hoj (hfree j oj hoj hji hjun hnot) (fun cs b => hsel i oi cs b hi) (fun cs b => hsel j oj cs b hoj) hQ hy (H.2 j (ready_mono hj hji))
      refine wpOp_mono (fun a' w' h3 => ⟨h3.2.1, ih (listed.setIfInBounds j true) a' w' (fun k ok hk hki hun hno => hfree k ok hk hki ?_ hno) (ready_mono hr (Ne.symm hji)) h3.1 (h3.2.1 hjn) ?_⟩) h2
      · by_cases hjk : j = k
        · subst hjk; exact hjun
        · rw [getD_set_ne true hjk] at hun; exact hun
      · rw [Array.setIfInBounds_comm _ _ hji]
        exact h3.2.2

def canTakeN (md : Region.Mode) (ops : Array Oper) (listed : Array Bool) (n i : Nat) : Bool := canTake md ops listed i && waitsFor md ops n i

theorem tkNN (i : Nat) {oi : Oper} {k : Nat} {listed : Array Bool} {a : Act} {w : World} (hS : S w) (hi : ops.toList[i]? = some oi) (hQ : ∀ c a w, Q (.panic c) (a.put oi.dst undef) w → Q (.panic c) a w)
    (hc : canTakeN md ops listed n i = true) (hw : Region.wanted oi (yielded ops a.tmps) = false)
    (h : anyBut P md ops Q S n k (listed.setIfInBounds i true) (a.put oi.dst undef) w) : anyBut P md ops Q S n (k + 1) listed a w := by
  simp only [canTakeN, canTake, Bool.and_eq_true] at hc
  have hi' : ops[i]? = some oi := by rw [← hi, Array.getElem?_toList]
  exact anyBut_first hi' (Region.noSelect_spec hc.1.1.1) hQ hc.2 k listed a w (Region.free_spec hi' hc.1.1.2) (by simpa using hc.1.2) (.inr ⟨hw, rfl⟩) hS h

theorem kNN (i : Nat) {oi : Oper} {k : Nat} {listed : Array Bool} {a : Act} {w : World} (hS : S w) (h : anyBut P md ops Q S n k (listed.setIfInBounds i true) (a.put oi.dst undef) w)
    (hi : ops.toList[i]? = some oi := by exact rfl) (hQ : ∀ c a w, Q (.panic c) (a.put oi.dst undef) w → Q (.panic c) a w := by exact fun _ _ _ h => h) (hc : canTakeN md ops listed n i = true := by decide +kernel) (hw : Region.wanted oi (yielded ops a.tmps) = false := by rfl) : anyBut P md ops Q S n (k + 1) listed a w :=
  tkNN i hS hi hQ hc hw h

theorem tkYN (i : Nat) {oi : Oper} {v : Value} {k : Nat} {listed : Array Bool} {a : Act} {w : World} (hS : S w) (hi : ops.toList[i]? = some oi) (hQ : ∀ c a w, Q (.panic c) (a.put oi.dst v) w → Q (.panic c) a w)
    (hc : canTakeN md ops listed n i = true) (hw : Region.wanted oi (yielded ops a.tmps) = true) (hy : ∀ w, S w → (execOp a.eval oi).run P w = .ok (.value v) w)
    (h : anyBut P md ops Q S n k (listed.setIfInBounds i true) (a.put oi.dst v) w) : anyBut P md ops Q S n (k + 1) listed a w := by
  simp only [canTakeN, canTake, Bool.and_eq_true] at hc
  have hi' : ops[i]? = some oi := by rw [← hi, Array.getElem?_toList]
  exact anyBut_first hi' (Region.noSelect_spec hc.1.1.1) hQ hc.2 k listed a w (Region.free_spec hi' hc.1.1.2) (by simpa using hc.1.2) (.inl ⟨hw, hy⟩) hS h

theorem kYN (i : Nat) {oi : Oper} {v : Value} {k : Nat} {listed : Array Bool} {a : Act} {w : World} (hS : S w) (h : anyBut P md ops Q S n k (listed.setIfInBounds i true) (a.put oi.dst v) w)
    (hi : ops.toList[i]? = some oi := by exact rfl) (hQ : ∀ c a w, Q (.panic c) (a.put oi.dst v) w → Q (.panic c) a w := by exact fun _ _ _ h => h) (hc : canTakeN md ops listed n i = true := by decide +kernel) (hw : Region.wanted oi (yielded ops a.tmps) = true := by rfl) (hy : ∀ w, S w → (execOp a.eval oi).run P w = .ok (.value v) w := by intro w hS; (try dsimp only at hS); go_simp; try with_reducible rfl) : anyBut P md ops Q S n (k + 1) listed a w :=
  tkYN i hS hi hQ hc hw hy h

theorem step_to {i : Nat} {oi : Oper} {k : Nat} {listed : Array Bool} {a : Act} {w : World} (hi : ops.toList[i]? = some oi) (hw : Region.wanted oi (yielded ops a.tmps) = true) (hin : i ≠ n)
    (h : ∀ K' : Act → World → Prop, Shut (∀ a w, S w → (S w → anyBut P md ops Q S n k (listed.setIfInBounds i true) a w) → K' a w) → oi.wp P a w K' Q) :
    wpOp P ops Q i (fun a' w' => (i ≠ n → S w') ∧ anyBut P md ops Q S n k (listed.setIfInBounds i true) a' w') a w := by
  refine wpOp_step (by rw [← hi, Array.getElem?_toList]) fun K' hK => ?_
  rw [if_pos hw]
  exact h K' fun a w hS hW => hK a w ⟨fun _ => hS, hW hS⟩

theorem spkN (i : Nat) {oi : Oper} {k : Nat} {listed : Array Bool} {a : Act} {w : World} (hi : ops.toList[i]? = some oi) (hin : i ≠ n)
    (hr : Region.ready md ops listed = [i]) (hw : Region.wanted oi (yielded ops a.tmps) = true)
    (h : ∀ K' : Act → World → Prop, Shut (∀ a w, S w → (S w → anyBut P md ops Q S n k (listed.setIfInBounds i true) a w) → K' a w) → oi.wp P a w K' Q) : anyBut P md ops Q S n (k + 1) listed a w := by
  refine ⟨fun h0 => (by rw [h0] at hr; cases hr), fun j hj => ?_⟩
  rw [hr] at hj
  obtain rfl := List.mem_singleton.1 hj
  exact step_to hi hw hin h

theorem spkL {oi : Oper} {k : Nat} {listed : Array Bool} {a : Act} {w : World} (hi : ops.toList[n]? = some oi)
    (hr : Region.ready md ops listed = [n]) (hw : Region.wanted oi (yielded ops a.tmps) = true)
    (h : ∀ K' : Act → World → Prop, Shut (∀ a w, anyBut P md ops Q S n k (listed.setIfInBounds n true) a w → K' a w) → oi.wp P a w K' Q) : anyBut P md ops Q S n (k + 1) listed a w := by
  refine ⟨fun h0 => (by rw [h0] at hr; cases hr), fun j hj => ?_⟩
  rw [hr] at hj
  obtain rfl := List.mem_singleton.1 hj
  refine wpOp_step (by rw [← hi, Array.getElem?_toList]) fun K' hK => ?_
  rw [if_pos hw]
  exact h K' fun a w hW => hK a w ⟨fun h => absurd rfl h, hW⟩

theorem spBN (i j : Nat) {oi oj : Oper} {k : Nat} {listed : Array Bool} {a : Act} {w : World} (hi : ops.toList[i]? = some oi) (hj : ops.toList[j]? = some oj) (hin : i ≠ n) (hjn : j ≠ n)
    (hr : Region.ready md ops listed = [i, j]) (hwi : Region.wanted oi (yielded ops a.tmps) = true) (hwj : Region.wanted oj (yielded ops a.tmps) = true)
    (h : ∀ K' : Act → World → Prop, Shut (∀ a w, S w → (S w → anyBut P md ops Q S n k (listed.setIfInBounds i true) a w) → K' a w) → oi.wp P a w K' Q)
    (h' : ∀ K' : Act → World → Prop, Shut (∀ a w, S w → (S w → anyBut P md ops Q S n k (listed.setIfInBounds j true) a w) → K' a w) → oj.wp P a w K' Q) : anyBut P md ops Q S n (k + 1) listed a w := by
  refine ⟨fun h0 => (by rw [h0] at hr; cases hr), fun q hq => ?_⟩
  rw [hr] at hq
  rcases List.mem_cons.1 hq with rfl | hq
  · exact step_to hi hwi hin h
  · obtain rfl := List.mem_singleton.1 hq
    exact step_to hj hwj hjn h'

theorem anyBut_done {listed : Array Bool} {a : Act} {w : World} (hr : Region.ready md ops listed = []) (h : Q .normal a w) : ∀ k, anyBut P md ops Q S n k listed a w
  | 0 => ⟨hr, h⟩
  | _ + 1 => ⟨fun _ => h, by rw [hr]; simp⟩

theorem region_goN {id : Nat} {a : Act} {w : World} (n : Nat) (S : World → Prop) (hm : P.follows .mixedOrders = true) (hS : S w.drew)
    (h : S w.drew → anyBut P .any ops Q S n ops.size (Array.replicate ops.size false) a w.drew) : (Code.region id ops true).wp P Q a w :=
  wp_region_any hm (anyBut_any _ _ _ _ (h hS))
end

end Go.Proofs.Ytdcgooleiefljaa
