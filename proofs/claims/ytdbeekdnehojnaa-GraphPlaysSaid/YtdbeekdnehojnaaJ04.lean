/-
  What a call may turn: the blocks of a set F, and new ones. Data with the set of blocks that it is read from.
  graph: Add; the error of two nodes.
  graph: the error of two nodes.
-/
import Derived.Test.YtdbeekdnehojnaaJ03
namespace Go.Proofs.Ytdbeekdnehojnaa
open Go.RowKit

/-- of what was there nothing outside F has turned -/
structure Mod (F : Nat → Prop) (w w' : World) : Prop where
  os : w'.os = w.os
  tape : w'.tape = w.tape
  output : w'.output = w.output
  size : w.heap.size ≤ w'.heap.size
  block : ∀ k, k < w.heap.size → ¬ F k → w'.heap[k]? = w.heap[k]?

theorem Mod.refl (F : Nat → Prop) (w : World) : Mod F w w := ⟨rfl, rfl, rfl, Nat.le_refl _, fun _ _ _ => rfl⟩

theorem Mod.trans {F G : Nat → Prop} {a b c : World} (h : Mod F a b) (g : Mod G b c) (hs : ∀ k, k < a.heap.size → G k → F k) : Mod F a c :=
  ⟨g.os.trans h.os, g.tape.trans h.tape, g.output.trans h.output, Nat.le_trans h.size g.size, fun k hk hf => (g.block k (Nat.lt_of_lt_of_le hk h.size) fun hg => hf (hs k hk hg)).trans (h.block k hk hf)⟩

theorem Mod.mono {F G : Nat → Prop} {a b : World} (h : Mod F a b) (hs : ∀ k, k < a.heap.size → F k → G k) : Mod G a b :=
  ⟨h.os, h.tape, h.output, h.size, fun k hk hg => h.block k hk fun hf => hg (hs k hk hf)⟩

theorem Mod.of_below {F : Nat → Prop} {w w' : World} (h : Below w.heap.size w w') : Mod F w w' := ⟨h.os, h.tape, h.output, h.size, fun k hk _ => h.block k hk⟩

theorem Mod.below {F : Nat → Prop} {B : Nat} {w w' : World} (h : Mod F w w') (hB : B ≤ w.heap.size) (hF : ∀ k, F k → B ≤ k) : Below B w w' :=
  ⟨h.os, h.tape, h.output, h.size, fun k hk => h.block k (by omega) fun hf => by have := hF k hf; omega⟩

/-- what holds below a number, seen from an earlier world -/
theorem Mod.of_belowB {F : Nat → Prop} {B : Nat} {w w' : World} (h : Below B w w') (hF : ∀ k, k < w.heap.size → B ≤ k → F k) : Mod F w w' :=
  ⟨h.os, h.tape, h.output, h.size, fun k hk hf => h.block k (by rcases Nat.lt_or_ge k B with h1 | h1; exact h1; exact absurd (hF k hk h1) hf)⟩

theorem Mod.andBelow {F : Nat → Prop} {a b c : World} (h : Mod F a b) (g : Below b.heap.size b c) : Mod F a c :=
  h.trans (G := fun _ => False) (Mod.of_below g) fun _ _ hf => hf.elim

theorem Mod.setCell {F : Nat → Prop} {a b : World} (h : Mod F a b) {p : Addr} (hp : F p.block ∨ a.heap.size ≤ p.block) (u : Value) : Mod F a (b.setCell p u) :=
  ⟨h.os, h.tape, h.output, by simpa [World.setCell] using h.size, fun k hk hf => by
    rw [Below.heap_setCell _ _ _ _ (by rintro rfl; rcases hp with hp | hp; exact hf hp; omega)]
    exact h.block k hk hf⟩

theorem Mod.grown {F : Nat → Prop} {a b c : World} {row : Option Nat} (h : Mod F a b) (hg : b.grownBy c row) (hr : ∀ k, row = some k → F k ∨ a.heap.size ≤ k) : Mod F a c :=
  ⟨hg.os.trans h.os, hg.tape.trans h.tape, hg.output.trans h.output, Nat.le_trans h.size hg.size, fun k hk hf => by
    rw [hg.block k (Nat.lt_of_lt_of_le hk h.size) (fun e => by rcases hr k e.symm with h1 | h1; exact hf h1; omega)]
    exact h.block k hk hf⟩

theorem Mod.drewN {F : Nat → Prop} {a b : World} (h : Mod F a b) (n : Nat) : Mod F a (b.drewN n) := h.andBelow (below_drewN (Below.refl _ _) n)

/-- w' holds what w holds in the blocks of F -/
def Agree (F : Nat → Prop) (w w' : World) : Prop := ∀ k, F k → w'.heap[k]? = w.heap[k]?

theorem Agree.of_below {F : Nat → Prop} {w w' : World} (h : Below w.heap.size w w') (hl : ∀ k, F k → k < w.heap.size) : Agree F w w' := fun k hk => h.block k (hl k hk)
theorem Agree.of_mod {F G : Nat → Prop} {w w' : World} (h : Mod G w w') (hl : ∀ k, F k → k < w.heap.size) (hd : ∀ k, F k → ¬ G k) : Agree F w w' := fun k hk => h.block k (hl k hk) (hd k hk)
theorem Agree.cell {F : Nat → Prop} {w w' : World} (h : Agree F w w') {a : Addr} (ha : F a.block) : w'.cell? a = w.cell? a := World.cell?_of_block (h _ ha)

/-- the slice lies in F -/
def LiesIn (F : Nat → Prop) (v : Value) (n : Nat) : Prop := 0 < n → ∀ b, v.ownBlock = some b → F b

theorem LiesIn.mono {F G : Nat → Prop} {v : Value} {n : Nat} (h : LiesIn F v n) (hs : ∀ k, F k → G k) : LiesIn G v n := fun hn b hb => hs b (h hn b hb)

theorem Nums.agree {F : Nat → Prop} {w w' : World} {k : IntKind} {v : Value} {xs : List Int} (h : Nums w k v xs) (hl : LiesIn F v xs.length) (ha : Agree F w w') : Nums w' k v xs := by
  obtain ⟨p, cap, rfl, h1, h2, h3, h4⟩ := h.slice
  refine Nums.mk h1 h2 h3 fun i hi => ?_
  obtain ⟨b, off, rfl, hc⟩ := h4 i hi
  exact ⟨b, off, rfl, by rw [ha.cell (hl (by omega) b rfl)]; exact hc⟩

/-- a slice of pairs, and all that they reach, lies in F -/
def RecsF (w : World) (F : Nat → Prop) (v : Value) (l : List (Int × List Int)) : Prop :=
  ∃ p cap, v = .slice p l.length cap ∧ l.length ≤ cap ∧ cap ≤ 9223372036854775807 ∧ (p = none → cap = 0) ∧
    ∀ i (hi : i < l.length), ∃ b off u, p = some ⟨b, off, none⟩ ∧ F b ∧ w.cell? ⟨b, off + i * 2, none⟩ = some (.int .u64 l[i].1) ∧ w.cell? ⟨b, off + i * 2 + 1, none⟩ = some u ∧ Nums w .i32 u l[i].2 ∧ LiesIn F u l[i].2.length

theorem RecsF.recs {w : World} {F : Nat → Prop} {v : Value} {l : List (Int × List Int)} (h : RecsF w F v l) : Recs w v l := by
  obtain ⟨p, cap, hv, h1, h2, h3, h4⟩ := h
  refine ⟨p, cap, hv, h1, h2, h3, fun i hi => ?_⟩
  obtain ⟨b, off, u, hp, _, c0, c1, hn, _⟩ := h4 i hi
  exact ⟨b, off, u, hp, c0, c1, hn⟩

theorem RecsF.agree {w w' : World} {F : Nat → Prop} {v : Value} {l : List (Int × List Int)} (h : RecsF w F v l) (ha : Agree F w w') : RecsF w' F v l := by
  obtain ⟨p, cap, hv, h1, h2, h3, h4⟩ := h
  refine ⟨p, cap, hv, h1, h2, h3, fun i hi => ?_⟩
  obtain ⟨b, off, u, hp, hf, c0, c1, hn, hl⟩ := h4 i hi
  exact ⟨b, off, u, hp, hf, by rw [ha.cell hf]; exact c0, by rw [ha.cell hf]; exact c1, hn.agree hl ha, hl⟩

theorem RecsF.mono {w : World} {F G : Nat → Prop} {v : Value} {l : List (Int × List Int)} (h : RecsF w F v l) (hs : ∀ k, F k → G k) : RecsF w G v l := by
  obtain ⟨p, cap, hv, h1, h2, h3, h4⟩ := h
  refine ⟨p, cap, hv, h1, h2, h3, fun i hi => ?_⟩
  obtain ⟨b, off, u, hp, hf, c0, c1, hn, hl⟩ := h4 i hi
  exact ⟨b, off, u, hp, hs _ hf, c0, c1, hn, hl.mono hs⟩

theorem RecsF.nil (w : World) (F : Nat → Prop) : RecsF w F (.slice none 0 0) [] := ⟨none, 0, rfl, by simp, by simp, by simp, fun i hi => absurd hi (by simp)⟩

theorem RecsF.elem {w : World} {F : Nat → Prop} {p : Option Addr} {n cap : Nat} {l : List (Int × List Int)} (h : RecsF w F (.slice p n cap) l) {i : Nat} (hi : i < l.length) :
    ∃ b off u, p = some ⟨b, off, none⟩ ∧ F b ∧ w.cell? ⟨b, off + i * 2, none⟩ = some (.int .u64 l[i].1) ∧ w.cell? ⟨b, off + i * 2 + 1, none⟩ = some u ∧ Nums w .i32 u l[i].2 ∧ LiesIn F u l[i].2.length := by
  obtain ⟨p', cap', hv, _, _, _, h⟩ := h
  simp only [Value.slice.injEq] at hv
  obtain ⟨rfl, _, _⟩ := hv
  exact h i hi

/-- a row of the call's own in F -/
theorem own_lies {F : Nat → Prop} {v : Value} (h : ∀ b, v.ownBlock = some b → F b) (n : Nat) : LiesIn F v n := fun _ => h

theorem RecsF.of_own {w : World} {F : Nat → Prop} {B e n : Nat} {v : Value} {rs : List (Int × Value)} {l : List (Int × List Int)} (h : w.ownsRow B e 2 v n (flat2 rs)) (hv : ∀ b, v.ownBlock = some b → F b)
    (hlen : rs.length = l.length) (hr : ∀ i (h1 : i < rs.length) (h2 : i < l.length), rs[i].1 = l[i].1 ∧ Nums w .i32 rs[i].2 l[i].2 ∧ LiesIn F rs[i].2 l[i].2.length) : RecsF w F v l := by
  obtain ⟨h1, h2⟩ := h
  rw [flat2_length] at h1
  have hn : n = l.length := by omega
  subst hn
  rcases h2 with ⟨h2, h3⟩ | ⟨g, cap, cur, hvv, hb, hg, hn, hc, hs, ht⟩
  · have : l = [] := List.eq_nil_of_length_eq_zero h3
    subst this
    rw [h2]; exact RecsF.nil _ _
  · refine ⟨_, cap, hvv, hn, by simpa [maxLen] using hc, by simp, fun i hi => ?_⟩
    have hir : i < rs.length := by rw [hlen]; exact hi
    have hf := flat2_get rs i hir
    have ha := hr i hir hi
    have hcell : ∀ j u, (flat2 rs)[j]? = some u → w.cell? ⟨g, j, none⟩ = some u := by
      intro j u hj
      rw [← ht, List.getElem?_take] at hj
      split at hj
      · simp only [World.cell?, hg]; simpa using hj
      · cases hj
    refine ⟨g, 0, rs[i].2, rfl, hv g (by rw [hvv]; rfl), ?_, ?_, ha.2.1, ha.2.2⟩
    · rw [Nat.zero_add, ← ha.1]; exact hcell _ _ hf.1
    · rw [Nat.zero_add]; exact hcell _ _ hf.2

end Go.Proofs.Ytdbeekdnehojnaa

namespace Go.Proofs.Ytdbeekdnehojnaa
open Go.RowKit Go.ChangeMaps

theorem hasB_find {Q : Gr} {k : Int} (h : hasB Q k = false) : (outerL Q).findIdx? (fun p => decide (p.1 = k)) = none := by
  rw [List.findIdx?_eq_none_iff]
  intro x hx
  simp only [outerL, List.mem_map] at hx
  obtain ⟨q, hq, rfl⟩ := hx
  simp only [hasB, List.any_eq_false] at h
  simpa using h q hq

/-- a node more -/
theorem GrAt.add {w w' : World} {p m : Nat} {Q : Gr} {k : Int} (h : GrAt w p m Q) (hb : hasB Q k = false)
    (hm : MapAt w' (Value.int .u64) m (putK (outerL Q) k (.map (some w.heap.size)))) (hg : (w.alloc (.map #[] 0)).grownBy w' (some m)) : GrAt w' p m (Q ++ [(k, w.heap.size, [])]) ∧ Mod (fun j => j = m) w w' := by
  have hml := h.outer.lt
  have hold : ∀ j, j < w.heap.size → j ≠ m → w'.heap[j]? = w.heap[j]? := fun j hj hne =>
    (hg.block j (by simp; omega) (fun e => hne (by cases e; rfl))).trans (heap_alloc_old _ _ hj)
  refine ⟨⟨?_, ?_, ?_, ?_⟩, ?_⟩
  · refine (hold p (Array.getElem?_eq_some_iff.1 h.cell).1 ?_).trans h.cell
    rintro rfl
    obtain ⟨es, c, hi⟩ := h.outer
    have := hi.obj
    rw [h.cell] at this
    cases this
  · rw [putK_new (hasB_find hb)] at hm
    simpa [outerL] using hm
  · intro q hq
    rw [List.mem_append, List.mem_singleton] at hq
    rcases hq with hq | rfl
    · refine (h.inner q hq).kept (hold _ (h.inner q hq).lt ?_)
      have := (List.nodup_cons.1 h.apart).1
      rintro e
      exact this (e ▸ List.mem_map_of_mem hq)
    · refine MapAt.kept (MapAt.made w) (hg.block _ (by simp) (fun e => ?_))
      have : m = w.heap.size := by cases e; rfl
      omega
  · have hl : ∀ x ∈ m :: Q.map (·.2.1), x < w.heap.size := by
      intro x hx
      rcases List.mem_cons.1 hx with rfl | hx
      · exact hml
      · obtain ⟨q, hq, rfl⟩ := List.mem_map.1 hx
        exact (h.inner q hq).lt
    have e : m :: (Q ++ [((k, w.heap.size, []) : Int × Nat × List (Int × Bool))]).map (fun q => q.2.1) = (m :: Q.map (fun q => q.2.1)) ++ [w.heap.size] := by simp
    rw [e, List.nodup_append]
    exact ⟨h.apart, by simp, fun x hx y hy => by rw [List.mem_singleton] at hy; have := hl x hx; omega⟩
  · have hs := hg.size
    rw [World.size_alloc] at hs
    exact ⟨hg.os, hg.tape, hg.output, by omega, fun j hj hne => hold j hj hne⟩

set_option maxHeartbeats 4000000 in
theorem gAdd (w : World) (p m : Nat) (Q : Gr) (k : Int) (h : GrAt w p m Q) :
    Calls Try.prog 18 #[.pointer (some ⟨p, 0, none⟩), .int .u64 k] w fun e w' =>
      (hasB Q k = true ∧ e = .returned (.int .i64 7) ∧ w' = w) ∨ (hasB Q k = false ∧ e = .returned (.int .i64 0) ∧ GrAt w' p m (Q ++ [(k, w.heap.size, [])]) ∧ Mod (fun j => j = m) w w') := by
  have hc := h.get
  have cH := gHas w p m Q k h
  cases hb : hasB Q k with
  | true =>
    rw [hb] at cH
    clear h
    go_enter Try.func18, Try.ntmps18
    go_wp2_with (go_at_call 25; refine cH.mono ?_; rintro e w' ⟨rfl, rfl⟩)
    go_ret
    exact .inl ⟨trivial, rfl, rfl⟩
  | false =>
    rw [hb] at cH
    have hm0 : MapAt (w.alloc (.map #[] 0)) (Value.int .u64) m (outerL Q) := h.outer.kept (heap_alloc_old _ _ h.outer.lt)
    obtain ⟨w1, hp, hm1, hg1, -⟩ := run_put KO64 Try.underlying55 hm0 k (.map (some w.heap.size))
    have hE := h.add hb hm1 hg1
    have HE := Lib.hid hE
    clear hE h hm0 hm1 hg1
    have hmm := @run_makeMap Try.prog
    go_enter Try.func18, Try.ntmps18
    go_wp2_with (go_at_call 25; refine cH.mono ?_; rintro e w' ⟨rfl, rfl⟩)
    go_ret
    exact .inr ⟨trivial, rfl, HE.out⟩

end Go.Proofs.Ytdbeekdnehojnaa

namespace Go.Proofs.Ytdbeekdnehojnaa
open Go.RowKit Go.ChangeMaps

def pairZ (Q : Gr) (a b : Int) : Int := if a = b then 1 else if hasB Q a && hasB Q b then 0 else 6

set_option maxHeartbeats 4000000 in
theorem gPair (w : World) (p m : Nat) (Q : Gr) (a b : Int) (h : GrAt w p m Q) :
    Calls Try.prog 31 #[.pointer (some ⟨p, 0, none⟩), .int .u64 a, .int .u64 b] w fun e w' => e = .returned (.int .i64 (pairZ Q a b)) ∧ w' = w := by
  have cA := gHas w p m Q a h
  have cB := gHas w p m Q b h
  clear h
  unfold pairZ
  by_cases hab : a = b
  · simp only [hab, if_true]
    go_enter Try.func31, Try.ntmps31
    go_wp2_with fail
    go_ret
    exact ⟨rfl, rfl⟩
  · simp only [hab, if_false]
    have hab' : (decide (a = b)) = false := by simpa using hab
    cases ha : hasB Q a <;> cases hb : hasB Q b <;> rw [ha] at cA <;> rw [hb] at cB <;> simp only [Bool.and_self, Bool.and_false, Bool.and_true, Bool.false_eq_true, if_false, if_true]
    all_goals
      go_enter Try.func31, Try.ntmps31
      go_wp2_with (first
        | (go_at_call 25; with_reducible refine cA.mono ?_; rintro e w' ⟨rfl, rfl⟩)
        | (go_at_call 25; with_reducible refine cB.mono ?_; rintro e w' ⟨rfl, rfl⟩))
      go_ret
      exact ⟨rfl, rfl⟩

/-- of no graph -/
theorem gPair_nil (w : World) (a b : Int) :
    Calls Try.prog 31 #[.pointer none, .int .u64 a, .int .u64 b] w fun e w' => e = .returned (.int .i64 6) ∧ w' = w := by
  go_enter Try.func31, Try.ntmps31
  go_wp2_with fail
  go_ret
  exact ⟨rfl, rfl⟩

theorem gAdd_nil (w : World) (k : Int) :
    Calls Try.prog 18 #[.pointer none, .int .u64 k] w fun e w' => e = .returned (.int .i64 6) ∧ w' = w := by
  go_enter Try.func18, Try.ntmps18
  go_wp2_with fail
  go_ret
  exact ⟨rfl, rfl⟩

end Go.Proofs.Ytdbeekdnehojnaa
