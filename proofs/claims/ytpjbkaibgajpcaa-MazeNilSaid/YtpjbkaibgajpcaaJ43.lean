/-
  maze: how it lies; the calls that only read it; the space.
  maze: it is a space; its graph turns; a walk over it.
-/
import Derived.Test.YtpjbkaibgajpcaaJ42
import Derived.Test.YtpjbkaibgajpcaaJ40
import Derived.Test.YtpjbkaibgajpcaaJ13
import Derived.Test.YtpjbkaibgajpcaaJ14
import Derived.Deep.DeepCutAuto
namespace Go.Proofs.Ytpjbkaibgajpcaa
open Go.RowKit Go.ChangeMaps

structure MzAt (B : Nat) (w : World) (z p m mv : Nat) (Q : Gr) (dim en : Int) (VL : List (Int × Value)) (s : Mz) : Prop where
  cell : w.heap[z]? = some (.cells #[.pointer (some ⟨p, 0, none⟩), .int .i64 dim, .map (some mv), .int .u64 en] 51 (0, 0))
  gp : GP B p m Q s.N s.E w
  vecs : MapAt w (Value.int .u64) mv VL
  apart : mv ≠ m ∧ ¬ BlocksOf Q mv
  vals : ∀ h ∈ s.L, ∃ v, getK VL h.id = some v ∧ w.ownsRow B 21 1 v h.vec.length (h.vec.map (Value.int .i32))
  missing : ∀ k, k ∉ s.L.map (fun h : Hz => h.id) → getK VL k = none
  low : B ≤ z ∧ B ≤ mv

theorem zeroI32s (w : World) : (zeroValue 23).run Try.prog w = .ok (.slice none 0 0) w := Try.zeroValue23 w

section
variable {B : Nat} {w w' : World} {z p m mv : Nat} {Q : Gr} {dim en : Int} {VL : List (Int × Value)} {s : Mz}

theorem MzAt.below (h : MzAt B w z p m mv Q dim en VL s) (hb : Below w.heap.size w w') : MzAt B w' z p m mv Q dim en VL s :=
  ⟨(hb.block z (lt_block h.cell)).trans h.cell, h.gp.below hb, h.vecs.kept (hb.block mv h.vecs.lt), h.apart, fun y hy => by obtain ⟨v, h1, h2⟩ := h.vals y hy; exact ⟨v, h1, own_below h2 hb⟩, h.missing, h.low⟩

/-- blocks of other types turn -/
theorem MzAt.other (h : MzAt B w z p m mv Q dim en VL s) {F : Nat → Prop} (hm : Mod F w w') (hF : ∀ j, F j → ∃ T, OfType w T j ∧ T ≠ 51 ∧ T ≠ 82 ∧ T ≠ 21) : MzAt B w' z p m mv Q dim en VL s := by
  have hmap : ∀ j, IsMap w j → w'.heap[j]? = w.heap[j]? := fun j hj => by
    obtain ⟨es, c, h1⟩ := id hj
    refine hm.block j (lt_block h1) fun hf => ?_
    obtain ⟨T, ht, -⟩ := hF j hf
    exact hj.no ht
  refine ⟨(hm.block z (lt_block h.cell) fun hf => ?_).trans h.cell, ⟨⟨(hm.block p (lt_block h.gp.g.cell) fun hf => ?_).trans h.gp.g.cell, h.gp.g.outer.kept (hmap m h.gp.g.outer.isMap), fun q hq => (h.gp.g.inner q hq).kept (hmap _ (h.gp.g.inner q hq).isMap), h.gp.g.apart⟩, h.gp.rel, h.gp.low, Nat.le_trans h.gp.big hm.size⟩, h.vecs.kept (hmap mv h.vecs.isMap), h.apart, fun y hy => ?_, h.missing, h.low⟩
  · obtain ⟨T, ht, h1, -⟩ := hF z hf
    exact h1 (ht.ne ⟨_, _, h.cell⟩)
  · obtain ⟨T, ht, -, h1, -⟩ := hF p hf
    exact h1 (ht.ne ⟨_, _, h.gp.g.cell⟩)
  · obtain ⟨v, h1, h2⟩ := h.vals y hy
    refine ⟨v, h1, own_agree h2 fun k hk => hm.block k (h2.lt k hk).2 fun hf => ?_⟩
    obtain ⟨T, ht, -, -, h3⟩ := hF k hf
    exact h3 (ht.ne (own_type h2 hk))

theorem vec_of {L : List Hz} (ho : (L.map (fun h : Hz => h.id)).Nodup) {y : Hz} (hy : y ∈ L) : vecOf L y.id = y.vec := by
  unfold vecOf
  have : L.find? (fun h => decide (h.id = y.id)) = some y := by
    induction L with
    | nil => cases hy
    | cons a L ih =>
      rw [List.map_cons, List.nodup_cons] at ho
      rcases List.mem_cons.1 hy with rfl | hy
      · rw [List.find?_cons_of_pos (by simp)]
      · rw [List.find?_cons_of_neg, ih ho.2 hy]
        simp only [decide_eq_true_eq]
        intro e
        exact ho.1 (e ▸ List.mem_map_of_mem (f := fun y : Hz => y.id) hy)
  rw [this]; rfl

theorem vec_none {L : List Hz} {k : Int} (hk : k ∉ L.map (fun h : Hz => h.id)) : vecOf L k = [] := by
  unfold vecOf
  rw [List.find?_eq_none.2 fun y hy => ?_]
  · rfl
  · simp only [decide_eq_true_eq]
    intro e
    exact hk (e ▸ List.mem_map_of_mem (f := fun y : Hz => y.id) hy)

/-- what the map says of a node -/
theorem MzAt.vec (h : MzAt B w z p m mv Q dim en VL s) (ok : OkM dim s) (k : Int) : Nums w .i32 ((getK VL k).getD (.slice none 0 0)) (vecOf s.L k) ∧ ((getK VL k).isSome = true ↔ k ∈ s.N) := by
  by_cases hk : k ∈ s.L.map (fun h : Hz => h.id)
  · obtain ⟨y, hy, rfl⟩ := List.mem_map.1 hk
    obtain ⟨v, h1, h2⟩ := h.vals y hy
    rw [h1, vec_of ok.once hy]
    exact ⟨Nums.of_own h2, by simp only [Option.isSome_some, true_iff]; exact (ok.same _).2 hk⟩
  · rw [h.missing k hk, vec_none hk]
    exact ⟨nums_none w, by simp only [Option.isSome_none, Bool.false_eq_true, false_iff]; exact fun hn => hk ((ok.same k).1 hn)⟩

theorem MzAt.look (h : MzAt B w z p m mv Q dim en VL s) (k : Int) (c : Bool) : (Instr.lookup 49 (.map (some mv)) (.int .u64 k) c).run Try.prog w = .ok (if c then .tuple #[(getK VL k).getD (.slice none 0 0), .bool (getK VL k).isSome] else (getK VL k).getD (.slice none 0 0)) w :=
  run_look (P := Try.prog) (int_keyOf Try.underlying22) Try.underlying49 h.vecs (zeroI32s w) k c
end

/-- the graph of a maze -/
theorem mGraph (w : World) (z p : Nat) (h : w.cell? ⟨z, 0, none⟩ = some (.pointer (some ⟨p, 0, none⟩))) :
    Calls Try.prog 28 #[.pointer (some ⟨z, 0, none⟩)] w fun e w' => e = .returned (.pointer (some ⟨p, 0, none⟩)) ∧ w' = w := by
  go_enter Try.func28, Try.ntmps28
  go_wp2_with fail
  go_ret
  exact ⟨rfl, rfl⟩

theorem mGraph_nil (w : World) :
    Calls Try.prog 28 #[.pointer none] w fun e w' => e = .returned (.pointer none) ∧ w' = w := by
  go_enter Try.func28, Try.ntmps28
  go_wp2_with fail
  go_ret
  exact ⟨rfl, rfl⟩


theorem mNear (w : World) (zp gp : Value) (k : Int) (l : List Int) (hg : Calls Try.prog 28 #[zp] w fun e w' => e = .returned gp ∧ w' = w) (hc : Calls Try.prog 29 #[gp, .int .u64 k] w (NewL w l)) :
    Calls Try.prog 11 #[zp, .int .u64 k] w (NewL w l) := by
  have cG := Lib.hid hg
  have cC := Lib.hid hc
  clear hg hc
  go_enter Try.func11, Try.ntmps11
  go_wp2_with fail
  (with_reducible refine cG.out.mono ?_)
  rintro e w1 ⟨rfl, rfl⟩
  go_wp2_with fail
  (with_reducible refine cC.out.mono ?_)
  rintro e w2 ⟨v, rfl, ho, hb⟩
  have HB := Lib.hid (And.intro ho hb)
  clear ho hb
  go_wp2_with fail
  go_ret
  exact ⟨v, rfl, HB.out.1, HB.out.2⟩

theorem mSoft (w : World) (zp gp : Value) (k : Int) (l : List Int) (hg : Calls Try.prog 28 #[zp] w fun e w' => e = .returned gp ∧ w' = w) (hc : Calls Try.prog 30 #[gp, .int .u64 k] w (NewL w l)) :
    Calls Try.prog 12 #[zp, .int .u64 k] w (NewL w l) := by
  have cG := Lib.hid hg
  have cC := Lib.hid hc
  clear hg hc
  go_enter Try.func12, Try.ntmps12
  go_wp2_with fail
  (with_reducible refine cG.out.mono ?_)
  rintro e w1 ⟨rfl, rfl⟩
  go_wp2_with fail
  (with_reducible refine cC.out.mono ?_)
  rintro e w2 ⟨v, rfl, ho, hb⟩
  have HB := Lib.hid (And.intro ho hb)
  clear ho hb
  go_wp2_with fail
  go_ret
  exact ⟨v, rfl, HB.out.1, HB.out.2⟩

theorem mReach (w : World) (zp gp : Value) (k : Int) (l : List Int) (hg : Calls Try.prog 28 #[zp] w fun e w' => e = .returned gp ∧ w' = w) (hc : Calls Try.prog 32 #[gp, .int .u64 k] w (NewL w l)) :
    Calls Try.prog 14 #[zp, .int .u64 k] w (NewL w l) := by
  have cG := Lib.hid hg
  have cC := Lib.hid hc
  clear hg hc
  go_enter Try.func14, Try.ntmps14
  go_wp2_with fail
  (with_reducible refine cG.out.mono ?_)
  rintro e w1 ⟨rfl, rfl⟩
  go_wp2_with fail
  (with_reducible refine cC.out.mono ?_)
  rintro e w2 ⟨v, rfl, ho, hb⟩
  have HB := Lib.hid (And.intro ho hb)
  clear ho hb
  go_wp2_with fail
  go_ret
  exact ⟨v, rfl, HB.out.1, HB.out.2⟩

theorem mKeys (w : World) (zp gp : Value) (k : Int) (l : List Int) (hg : Calls Try.prog 28 #[zp] w fun e w' => e = .returned gp ∧ w' = w) (hc : Calls Try.prog 31 #[gp] w (NewL w l)) :
    Calls Try.prog 13 #[zp] w (NewL w l) := by
  have cG := Lib.hid hg
  have cC := Lib.hid hc
  clear hg hc
  go_enter Try.func13, Try.ntmps13
  go_wp2_with fail
  (with_reducible refine cG.out.mono ?_)
  rintro e w1 ⟨rfl, rfl⟩
  go_wp2_with fail
  (with_reducible refine cC.out.mono ?_)
  rintro e w2 ⟨v, rfl, ho, hb⟩
  have HB := Lib.hid (And.intro ho hb)
  clear ho hb
  go_wp2_with fail
  go_ret
  exact ⟨v, rfl, HB.out.1, HB.out.2⟩

theorem mHas (w : World) (zp gp : Value) (k : Int) (b : Bool) (hg : Calls Try.prog 28 #[zp] w fun e w' => e = .returned gp ∧ w' = w) (hc : Calls Try.prog 34 #[gp, .int .u64 k] w fun e w' => e = .returned (.bool b) ∧ w' = w) :
    Calls Try.prog 16 #[zp, .int .u64 k] w fun e w' => e = .returned (.bool b) ∧ w' = w := by
  have cG := Lib.hid hg
  have cC := Lib.hid hc
  clear hg hc
  go_enter Try.func16, Try.ntmps16
  go_wp2_with fail
  (with_reducible refine cG.out.mono ?_)
  rintro e w1 ⟨rfl, rfl⟩
  go_wp2_with fail
  (with_reducible refine cC.out.mono ?_)
  rintro e w2 ⟨rfl, rfl⟩
  go_wp2_with fail
  go_ret
  exact ⟨rfl, rfl⟩

theorem mLen (w : World) (zp gp : Value) (n : Int) (hg : Calls Try.prog 28 #[zp] w fun e w' => e = .returned gp ∧ w' = w) (hc : Calls Try.prog 33 #[gp] w fun e w' => e = .returned (.int .i64 n) ∧ w' = w) :
    Calls Try.prog 15 #[zp] w fun e w' => e = .returned (.int .i64 n) ∧ w' = w := by
  have cG := Lib.hid hg
  have cC := Lib.hid hc
  clear hg hc
  go_enter Try.func15, Try.ntmps15
  go_wp2_with fail
  (with_reducible refine cG.out.mono ?_)
  rintro e w1 ⟨rfl, rfl⟩
  go_wp2_with fail
  (with_reducible refine cC.out.mono ?_)
  rintro e w2 ⟨rfl, rfl⟩
  go_wp2_with fail
  go_ret
  exact ⟨rfl, rfl⟩

section
variable {B : Nat} {w w' : World} {z p m mv : Nat} {Q : Gr} {dim en : Int} {VL : List (Int × Value)} {s : Mz}

theorem MzAt.graph (h : MzAt B w z p m mv Q dim en VL s) : Calls Try.prog 28 #[.pointer (some ⟨z, 0, none⟩)] w fun e w' => e = .returned (.pointer (some ⟨p, 0, none⟩)) ∧ w' = w := mGraph w z p (cellsB h.cell 0)

theorem MzAt.near (h : MzAt B w z p m mv Q dim en VL s) (hl : s.N.length ≤ 100000) (k : Int) : Calls Try.prog 11 #[.pointer (some ⟨z, 0, none⟩), .int .u64 k] w (NewL w (nearD s.E k false)) := mNear w _ _ k _ h.graph (h.gp.near hl k)
theorem MzAt.soft (h : MzAt B w z p m mv Q dim en VL s) (hl : s.N.length ≤ 100000) (k : Int) : Calls Try.prog 12 #[.pointer (some ⟨z, 0, none⟩), .int .u64 k] w (NewL w (nearD s.E k true)) := mSoft w _ _ k _ h.graph (h.gp.soft hl k)
theorem MzAt.reach (h : MzAt B w z p m mv Q dim en VL s) (hl : s.N.length ≤ 100000) (k : Int) : Calls Try.prog 14 #[.pointer (some ⟨z, 0, none⟩), .int .u64 k] w (NewL w (reachD s.N s.E k false)) := mReach w _ _ k _ h.graph (h.gp.reach hl k)
theorem MzAt.keys (h : MzAt B w z p m mv Q dim en VL s) (hl : s.N.length ≤ 100000) : Calls Try.prog 13 #[.pointer (some ⟨z, 0, none⟩)] w (NewL w s.N) := mKeys w _ _ 0 _ h.graph (h.gp.keys hl)
theorem MzAt.has (h : MzAt B w z p m mv Q dim en VL s) (k : Int) : Calls Try.prog 16 #[.pointer (some ⟨z, 0, none⟩), .int .u64 k] w fun e w' => e = .returned (.bool (decide (k ∈ s.N))) ∧ w' = w := mHas w _ _ k _ h.graph (h.gp.has k)
theorem MzAt.length (h : MzAt B w z p m mv Q dim en VL s) : Calls Try.prog 15 #[.pointer (some ⟨z, 0, none⟩)] w fun e w' => e = .returned (.int .i64 s.N.length) ∧ w' = w := mLen w _ _ _ h.graph h.gp.length
end

theorem mRight (w : World) (z : Nat) (dim : Int) (v : Value) (xs : List Int) (h : w.cell? ⟨z, 1, none⟩ = some (.int .i64 dim)) (hv : Nums w .i32 v xs) :
    Calls Try.prog 18 #[.pointer (some ⟨z, 0, none⟩), v] w fun e w' => e = .returned (.bool (rightZ dim xs)) ∧ w' = w := by
  have cR := Lib.hid (right xs v w hv)
  obtain ⟨q, c, rfl, -, -, -, -⟩ := hv.slice
  clear hv
  unfold rightZ
  cases hr : rightB xs with
  | false =>
    rw [hr] at cR
    clear hr
    go_enter Try.func18, Try.ntmps18
    go_wp2_with fail
    (with_reducible refine cR.out.mono ?_)
    rintro e w1 ⟨rfl, rfl⟩
    go_wp2_with fail
    go_ret
    exact ⟨rfl, rfl⟩
  | true =>
    rw [hr] at cR
    clear hr
    go_enter Try.func18, Try.ntmps18
    go_wp2_with fail
    (with_reducible refine cR.out.mono ?_)
    rintro e w1 ⟨rfl, rfl⟩
    go_wp2_with fail
    go_ret
    exact ⟨ret_bool (by rw [Bool.eq_iff_iff]; simp), rfl⟩

set_option maxRecDepth 100000 in
theorem mFar {B : Nat} {w : World} {z p m mv : Nat} {Q : Gr} {dim en : Int} {VL : List (Int × Value)} {s : Mz} (h : MzAt B w z p m mv Q dim en VL s) (ok : OkM dim s) (v : Value) (xs : List Int) (hv : Nums w .i32 v xs) (hx : rightZ dim xs = true) (k : Int) :
    Calls Try.prog 111 #[.agg #[.pointer (some ⟨z, 0, none⟩), v], .int .u64 k] w fun e w' => ∃ u, e = .returned u ∧ u = .tuple #[.int .u64 ((farL (spaceZ s.L xs) k).getD 0), .bool (farL (spaceZ s.L xs) k).isSome] ∧ Below w.heap.size w w' := by
  obtain ⟨q, c, rfl, -, -, -, -⟩ := hv.slice
  obtain ⟨W, hW⟩ : ∃ W, W = w.alloc (.cells #[.pointer (some ⟨z, 0, none⟩), .slice q xs.length c] 57) := ⟨_, rfl⟩
  have hb : Below w.heap.size w W := by rw [hW]; exact (Below.refl _ _).alloc (Nat.le_refl _) _
  have y1 : W.heap[w.heap.size]? = some (.cells #[.pointer (some ⟨z, 0, none⟩), .slice q xs.length c] 57 (0, 0)) := by rw [hW]; exact heap_alloc_new _ _
  have H := Lib.hid (h.below hb)
  have V := Lib.hid (hv.below hb)
  have t0 := cellsB y1 0
  have t1 := cellsB y1 1
  have c2 := cellsB H.out.cell 2
  have LK := H.out.look k true
  simp only [if_true] at LK
  obtain ⟨e1, e2⟩ := H.out.vec ok k
  have BB := Lib.hid hb
  have HW := Lib.hid hW
  by_cases hk : k ∈ s.L.map (fun h : Hz => h.id)
  · obtain ⟨y, hy, hyk⟩ := List.mem_map.1 hk
    have hvy : vecOf s.L k = y.vec := by rw [← hyk]; exact vec_of ok.once hy
    have hf : farL (spaceZ s.L xs) k = some (distR xs y.vec).1 := by
      have h1 : ((spaceZ s.L xs).map fun h : Hz => h.id).Nodup := by
        unfold spaceZ
        rw [List.map_map]
        exact ok.once
      have h2 : hitK y.id (distR xs y.vec).1 ∈ spaceZ s.L xs := List.mem_map_of_mem (f := fun h : Hz => hitK h.id (distR xs h.vec).1) hy
      have h3 := farL_of h1 h2
      rw [← hyk]; exact h3
    have hs : (getK VL k).isSome = true := e2.2 ((ok.same k).2 hk)
    rw [hs] at LK
    rw [hvy] at e1
    obtain ⟨u, hu⟩ : ∃ u, u = (getK VL k).getD (.slice none 0 0) := ⟨_, rfl⟩
    rw [← hu] at LK e1
    have cD := Lib.hid (dist xs y.vec _ u W V.out e1)
    obtain ⟨uq, uc, rfl, -, -, -, -⟩ := e1.slice
    rw [hf]
    obtain ⟨d, hd⟩ : ∃ d, d = distR xs y.vec := ⟨_, rfl⟩
    rw [← hd] at cD ⊢
    clear hk hy hyk hvy hf hs e1 e2 hu hd hb y1 hW
    go_enter Try.func111, Try.ntmps111
    rw [HW.out] at t0 t1 c2 LK
    go_wp2_with fail
    rw [← HW.out]
    (with_reducible refine cD.out.mono ?_)
    rintro e w1 ⟨rfl, rfl⟩
    go_wp2_with fail
    go_ret2
    exact ⟨_, rfl, rfl, BB.out⟩
  · have hf : farL (spaceZ s.L xs) k = none := by
      cases hf : farL (spaceZ s.L xs) k with
      | none => rfl
      | some d =>
        have := farL_key hf
        unfold spaceZ at this
        rw [List.map_map] at this
        exact absurd this hk
    have hs : (getK VL k).isSome = false := by rw [H.out.missing k hk]; rfl
    rw [hs] at LK
    rw [hf]
    obtain ⟨u, hu⟩ : ∃ u, u = (getK VL k).getD (.slice none 0 0) := ⟨_, rfl⟩
    rw [← hu] at LK e1
    obtain ⟨uq, uc, rfl, -, -, -, -⟩ := e1.slice
    clear hk hf hs e1 e2 hu hb y1
    go_enter Try.func111, Try.ntmps111
    rw [hW] at t0 t1 c2 LK
    clear hW
    go_wp2_with fail
    go_ret2
    exact ⟨_, rfl, rfl, by rw [← HW.out]; exact BB.out⟩

end Go.Proofs.Ytpjbkaibgajpcaa

namespace Go.Proofs.Ytpjbkaibgajpcaa
open Go.RowKit Go.ChangeMaps

theorem space_far (w : World) (z : Nat) (v : Value) : Sem.run Try.prog (method (Try.prog.types.size + 100) 57 (.agg #[.pointer (some ⟨z, 0, none⟩), v]) "Far") w = .ok (111, .agg #[.pointer (some ⟨z, 0, none⟩), v]) w := by
  kernel_rfl

theorem space_near (w : World) (z : Nat) (v : Value) : Sem.run Try.prog (method (Try.prog.types.size + 100) 57 (.agg #[.pointer (some ⟨z, 0, none⟩), v]) "Near") w = .ok (11, .pointer (some ⟨z, 0, none⟩)) w := by
  kernel_rfl

theorem enter_farM (args : Array Value) (w : World) : (callFunc 111 args).run Try.prog w = .ok (.enter 111 args) w := by
  kernel_rfl

theorem enter_nearM (args : Array Value) (w : World) : (callFunc 11 args).run Try.prog w = .ok (.enter 11 args) w := by
  kernel_rfl

def MTurn (w : World) (B j : Nat) : Prop := B ≤ j ∧ (IsMap w j ∨ OfType w 51 j)

theorem MTurn.trans {w W w' : World} {B : Nat} (h : Mod (MTurn w B) w W) (g : Mod (MTurn W B) W w') : Mod (MTurn w B) w w' := by
  refine h.trans g fun k hk hf => ?_
  by_cases hF : MTurn w B k
  · exact hF
  · have hb := h.block k hk hF
    refine ⟨hf.1, ?_⟩
    rcases hf.2 with ⟨es, c, e⟩ | ⟨cs, fr, e⟩
    · exact .inl ⟨es, c, by rw [← hb]; exact e⟩
    · exact .inr ⟨cs, fr, by rw [← hb]; exact e⟩

/-- a block of another type is as it was -/
theorem MTurn.box {w w' : World} {B b T : Nat} {cs : Array Value} {fr : Nat × Nat} (hm : Mod (MTurn w B) w w') (hb : w.heap[b]? = some (.cells cs T fr)) (h1 : T ≠ 51) : w'.heap[b]? = some (.cells cs T fr) := by
  refine (hm.block b (lt_block hb) fun ⟨_, ht⟩ => ?_).trans hb
  have h : OfType w T b := ⟨_, _, hb⟩
  rcases ht with ht | ht
  · exact ht.no h
  · exact h1 (h.ne ht)

section
variable {B : Nat} {w w' : World} {z p m mv : Nat} {Q Q' : Gr} {dim en : Int} {VL : List (Int × Value)} {s : Mz}

theorem MzAt.space (h : MzAt B w z p m mv Q dim en VL s) (ok : OkM dim s) (hN : s.N.length ≤ 100000) (v : Value) (xs : List Int) (hv : Nums w .i32 v xs) (hx : rightZ dim xs = true) :
    SpaceAt w 57 (.agg #[.pointer (some ⟨z, 0, none⟩), v]) (farL (spaceZ s.L xs)) (fun k => nearD s.E k false) 111 (.agg #[.pointer (some ⟨z, 0, none⟩), v]) 11 (.pointer (some ⟨z, 0, none⟩)) where
  mF := fun W _ => space_far W z v
  eF := enter_farM
  cF := fun W hW k => mFar (h.below hW) ok v xs (hv.below hW) hx k
  mN := fun W _ => space_near W z v
  eN := enter_nearM
  cN := fun W hW k => (h.below hW).near hN k

theorem space_ids (L : List Hz) (xs : List Int) : (spaceZ L xs).map (fun h : Hz => h.id) = L.map fun h : Hz => h.id := by
  unfold spaceZ
  rw [List.map_map]
  rfl

theorem MzAt.walk (h : MzAt B w z p m mv Q dim en VL s) (ok : OkM dim s) (hN : s.N.length ≤ 1000) (hL : s.L.length ≤ 1000) (v : Value) (xs : List Int) (hv : Nums w .i32 v xs) (hx : rightZ dim xs = true) (most : Nat) (hm : 1 ≤ most ∧ most ≤ 256) (kv : Value) (ks : List Int) (hk : Nums w .u64 kv ks) (hk0 : ∀ k, kv.ownBlock = some k → 0 < ks.length → k < w.heap.size) :
    Calls Try.prog 19 #[.iface 57 (.agg #[.pointer (some ⟨z, 0, none⟩), v]), .int .i64 most, kv] w (RunTells w (resW (spaceZ s.L xs) s.E most ks).1 (resW (spaceZ s.L xs) s.E most ks).2) :=
  wRun w _ _ _ _ _ _ _ _ (h.space ok (by omega) v xs hv hx) ((spaceZ s.L xs).map fun y : Hz => y.id) (fun k d => farL_key) (by rw [space_ids, List.length_map]; omega) most hm kv ks hk hk0

theorem blocks_same (hn : SameN Q Q') (j : Nat) : BlocksOf Q' j ↔ BlocksOf Q j := by
  have key : ∀ R : Gr, BlocksOf R j ↔ j ∈ R.map fun q => q.2.1 := fun R => by
    rw [List.mem_map]
    exact ⟨fun ⟨q, hq, e⟩ => ⟨q, hq, e.symm⟩, fun ⟨q, hq, e⟩ => ⟨q, hq, e.symm⟩⟩
  rw [key, key, hn.1]

theorem GP.toM {N : List Int} {E E' : Eg} (h : GP B p m Q N E w) (hn : SameN Q Q') (hr : Rel Q' N E') (hg : GrAt w' p m Q') (hm : Mod (BlocksOf Q) w w') : GP B p m Q' N E' w' := by
  refine ⟨hg, hr, ⟨h.low.1, h.low.2.1, fun q hq => ?_⟩, Nat.le_trans h.big hm.size⟩
  have : q.2.1 ∈ Q'.map (fun q => q.2.1) := List.mem_map_of_mem (f := fun q => q.2.1) hq
  rw [hn.1, List.mem_map] at this
  obtain ⟨r, hr, e⟩ := this
  rw [← e]; exact h.low.2.2 r hr

/-- the graph's edges turn -/
theorem MzAt.edges (h : MzAt B w z p m mv Q dim en VL s) {E' : Eg} (hn : SameN Q Q') (hr : Rel Q' s.N E') (hg : GrAt w' p m Q') (hm : Mod (BlocksOf Q) w w') : MzAt B w' z p m mv Q' dim en VL ⟨s.N, E', s.L⟩ ∧ Mod (MTurn w B) w w' := by
  have hmap := h.gp.g.blocks_map
  have no : ∀ T j, OfType w T j → ¬ BlocksOf Q j := fun T j ht hf => (hmap j hf).no ht
  refine ⟨⟨(hm.block z (lt_block h.cell) (no _ z ⟨_, _, h.cell⟩)).trans h.cell, h.gp.toM hn hr hg hm, h.vecs.kept (hm.block mv h.vecs.lt h.apart.2), ⟨h.apart.1, fun hf => h.apart.2 ((blocks_same hn mv).1 hf)⟩, fun y hy => ?_, h.missing, h.low⟩, hm.mono fun j _ hf => ⟨?_, .inl (hmap j hf)⟩⟩
  · obtain ⟨v, h1, h2⟩ := h.vals y hy
    exact ⟨v, h1, own_agree h2 fun k hk => hm.block k (h2.lt k hk).2 (no _ k (own_type h2 hk))⟩
  · obtain ⟨q, hq, e⟩ := hf
    rw [e]; exact h.gp.low.2.2 q hq


theorem MzAt.bind (h : MzAt B w z p m mv Q dim en VL s) (x y : Int) :
    Calls Try.prog 25 #[.pointer (some ⟨p, 0, none⟩), .int .u64 x, .int .u64 y] w fun e w1 => e = .returned (.int .i64 (bindD s.N s.E x y).1) ∧ (∃ Q', MzAt B w1 z p m mv Q' dim en VL ⟨s.N, (bindD s.N s.E x y).2, s.L⟩) ∧ Mod (MTurn w B) w w1 := by
  refine (gBind w p m Q x y h.gp.g).mono ?_
  rintro e w1 ⟨rfl, hg, hm⟩
  obtain ⟨h1, h2, h3⟩ := h.gp.rel.bind x y
  have := h.edges h3 h2 hg hm
  exact ⟨by rw [h1], ⟨_, this.1⟩, this.2⟩

theorem MzAt.link (h : MzAt B w z p m mv Q dim en VL s) (x y : Int) :
    Calls Try.prog 26 #[.pointer (some ⟨p, 0, none⟩), .int .u64 x, .int .u64 y] w fun e w1 => e = .returned (.int .i64 (linkD s.N s.E x y).1) ∧ (∃ Q', MzAt B w1 z p m mv Q' dim en VL ⟨s.N, (linkD s.N s.E x y).2, s.L⟩) ∧ Mod (MTurn w B) w w1 := by
  refine (gLink w p m Q x y h.gp.g).mono ?_
  rintro e w1 ⟨rfl, hg, hm⟩
  obtain ⟨h1, h2, h3⟩ := h.gp.rel.link x y
  have := h.edges h3 h2 hg hm
  exact ⟨by rw [h1], ⟨_, this.1⟩, this.2⟩

theorem MzAt.cut (h : MzAt B w z p m mv Q dim en VL s) (x y : Int) :
    Calls Try.prog 46 #[.pointer (some ⟨p, 0, none⟩), .int .u64 x, .int .u64 y] w fun e w1 => e = .returned (.int .i64 (cutD s.N s.E x y).1) ∧ (∃ Q', MzAt B w1 z p m mv Q' dim en VL ⟨s.N, (cutD s.N s.E x y).2, s.L⟩) ∧ Mod (MTurn w B) w w1 := by
  refine (gCut w p m Q x y h.gp.g).mono ?_
  rintro e w1 ⟨rfl, hg, hm⟩
  obtain ⟨h1, h2, h3⟩ := h.gp.rel.cut x y
  have := h.edges h3 h2 hg hm
  exact ⟨by rw [h1], ⟨_, this.1⟩, this.2⟩
end

end Go.Proofs.Ytpjbkaibgajpcaa
