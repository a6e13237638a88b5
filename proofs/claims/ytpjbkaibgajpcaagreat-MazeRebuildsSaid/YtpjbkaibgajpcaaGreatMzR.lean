/- maze: slices.Clone, Sort, Compact at uint64; each number once, rising. -/
import Derived.Test.YtpjbkaibgajpcaaGreatJ43
import Derived.Shelf.SlicesE.Compact
namespace Go.Proofs.YtpjbkaibgajpcaaGreat
open Go.RowKit Go.ChangeMaps Go.Shelf Go.Sort Go.Lib
set_option maxRecDepth 20000

def uniqZ (ks : List Int) : List Int := ks.foldl (fun l k => if k ∈ l then l else putZ l k) []

theorem uniq_snoc (ks : List Int) (k : Int) : uniqZ (ks ++ [k]) = if k ∈ uniqZ ks then uniqZ ks else putZ (uniqZ ks) k := by
  unfold uniqZ
  rw [List.foldl_append]
  rfl

theorem uniq_of (ks : List Int) : (∀ x, x ∈ uniqZ ks ↔ x ∈ ks) ∧ (uniqZ ks).Pairwise (· < ·) ∧ (uniqZ ks).length ≤ ks.length := by
  have key : ∀ j, j ≤ ks.length → (∀ x, x ∈ uniqZ (ks.take j) ↔ x ∈ ks.take j) ∧ (uniqZ (ks.take j)).Pairwise (· < ·) ∧ (uniqZ (ks.take j)).length ≤ j := by
    intro j
    induction j with
    | zero => intro _; exact ⟨by simp [uniqZ], by simp [uniqZ], by simp [uniqZ]⟩
    | succ j ih =>
      intro hj
      obtain ⟨h1, h2, h3⟩ := ih (by omega)
      rw [List.take_succ_eq_append_getElem (by omega : j < ks.length), uniq_snoc]
      split
      · rename_i h
        refine ⟨fun x => ?_, h2, by omega⟩
        rw [h1, List.mem_append, List.mem_singleton]
        constructor
        · exact .inl
        · rintro (h4 | rfl)
          · exact h4
          · exact (h1 _).1 h
      · rename_i h
        refine ⟨fun x => ?_, putZ_sorted h2 h, by rw [putZ_length]; omega⟩
        rw [mem_putZ, h1, List.mem_append, List.mem_singleton]
        exact ⟨fun h => h.elim .inr .inl, fun h => h.elim .inr .inl⟩
  have := key ks.length (Nat.le_refl _)
  rwa [List.take_length] at this

def runsZ (l : List Int) : List Int := compactUpTo l.toArray l.length

theorem runs_of {l : List Int} (hs : l.Pairwise (· ≤ ·)) : (∀ x, x ∈ runsZ l ↔ x ∈ l) ∧ (runsZ l).Pairwise (· < ·) ∧ (runsZ l).length ≤ l.length := by
  have key : ∀ j, j ≤ l.length → (∀ x, x ∈ compactUpTo l.toArray j ↔ x ∈ l.take j) ∧ (compactUpTo l.toArray j).Pairwise (· < ·) ∧ (compactUpTo l.toArray j).length ≤ j := by
    intro j
    induction j with
    | zero => intro _; exact ⟨by simp [compactUpTo], by simp [compactUpTo], by simp [compactUpTo]⟩
    | succ j ih =>
      intro hj
      obtain ⟨h1, h2, h3⟩ := ih (by omega)
      have hjl : j < l.length := by omega
      have hg : l.toArray[j]! = l[j] := by simp [hjl]
      rw [compactUpTo_succ, List.take_succ_eq_append_getElem hjl]
      cases hk : keeps l.toArray j with
      | true =>
        rw [if_pos rfl, hg]
        refine ⟨fun x => by rw [List.mem_append, List.mem_append, h1], ?_, by simp; omega⟩
        rw [List.pairwise_append]
        refine ⟨h2, by simp, fun a ha b hb => ?_⟩
        obtain rfl : b = l[j] := by simpa using hb
        have ha2 := (h1 a).1 ha
        obtain ⟨t, ht, rfl⟩ := List.getElem_of_mem ha2
        rw [List.length_take] at ht
        rw [List.getElem_take]
        unfold keeps at hk
        simp only [decide_eq_true_eq] at hk
        rcases hk with rfl | hk
        · omega
        · have hj0 : j - 1 < l.length := by omega
          have hg1 : l.toArray[j - 1]! = l[j - 1] := by simp [hj0]
          rw [hg, hg1] at hk
          have p1 := List.pairwise_iff_getElem.1 hs (j - 1) j hj0 hjl (by omega)
          have p2 : l[t]'(by omega) ≤ l[j - 1] := by
            rcases Nat.lt_or_ge t (j - 1) with h5 | h5
            · exact List.pairwise_iff_getElem.1 hs t (j - 1) (by omega) hj0 h5
            · have : t = j - 1 := by omega
              subst this
              exact Int.le_refl _
          omega
      | false =>
        rw [if_neg (by simp), List.append_nil]
        refine ⟨fun x => ?_, h2, by omega⟩
        rw [h1, List.mem_append, List.mem_singleton]
        unfold keeps at hk
        simp only [decide_eq_false_iff_not, not_or, ne_eq, Decidable.not_not] at hk
        obtain ⟨hj1, hk⟩ := hk
        have hj0 : j - 1 < l.length := by omega
        have hg1 : l.toArray[j - 1]! = l[j - 1] := by simp [hj0]
        rw [hg, hg1] at hk
        constructor
        · exact .inl
        · rintro (h4 | rfl)
          · exact h4
          · rw [hk]
            have h5 : j - 1 < (l.take j).length := by rw [List.length_take]; omega
            have := List.getElem_mem h5
            rwa [List.getElem_take] at this
  have h := key l.length (Nat.le_refl _)
  rw [List.take_length] at h
  exact h

theorem sortZ_up (l : List Int) : (sortZ l).Pairwise (· ≤ ·) := by
  have h := List.pairwise_mergeSort (le := fun x y : Int => decide (x ≤ y)) (fun a b c h1 h2 => by simp only [decide_eq_true_eq] at *; omega) (fun a b => by simp only [Bool.or_eq_true, decide_eq_true_eq]; omega) l
  exact h.imp fun h => by simpa using h

theorem runs_uniq (ks : List Int) : runsZ (sortZ ks) = uniqZ ks := by
  obtain ⟨h1, h2, -⟩ := runs_of (sortZ_up ks)
  obtain ⟨g1, g2, -⟩ := uniq_of ks
  refine sortedI_ext h2 g2 fun x => ?_
  rw [h1, g1, mem_sortZ]

def layCompact_ren : Go.Shelf.Ren := ⟨fun _ => 56, fun x => match x with | 0 => 0 | 3 => 3 | 4 => 4 | 22 => 45 | _ => 36, fun x => x⟩

theorem layCompact : SlLaysE.n43 Tryz.prog layCompact_ren where
  mixed := by kernel_rfl
  f43 := ⟨ "slices.Compact[[]uint64,uint64]", by decide, Tryz.func56.trans (congrArg some (by kernel_rfl))⟩
  t0 := Tryz.underlying0
  a0 := Tryz.isAgg0
  z0 := Tryz.sizeOf0
  v0 := Tryz.zeroValue0
  t3 := Tryz.underlying3
  a3 := Tryz.isAgg3
  z3 := Tryz.sizeOf3
  v3 := Tryz.zeroValue3
  t4 := Tryz.underlying4
  a4 := Tryz.isAgg4
  z4 := Tryz.sizeOf4
  v4 := Tryz.zeroValue4
  t22 := Tryz.underlying45
  a22 := Tryz.isAgg45
  z22 := Tryz.sizeOf45
  v22 := Tryz.zeroValue45
  a23 := Tryz.isAgg36
  z23 := Tryz.sizeOf36

theorem uClone (xs : List Int) (v : Value) (w : World) (h : Nums w .u64 v xs) (hr : xs.length ≤ 1000000) :
    Calls Tryz.prog 54 #[v] w fun e w' => ∃ u, e = .returned u ∧ w'.ownsRow w.heap.size 36 1 u xs.length (xs.map (Value.int .u64)) ∧ Below w.heap.size w w' := by
  obtain ⟨p, cap, rfl, h1, h2, h3, h4⟩ := h.slice
  obtain ⟨i0, hi, hz0, hz1, hz2⟩ := info_parts rowU.info
  have H := Lib.hid h
  have R := Lib.hid hr
  clear h4 hr h
  have qN : ∀ (w : World) (a : Option Addr) (n c : Nat), (binOp .eql 45 (.slice a n c) (.slice none 0 0)).run Tryz.prog w = .ok (.bool a.isNone) w := fun w a n c => Lib.run_eql_slice_nil w _ _ a n c 0 0 Tryz.underlying45
  cases p with
  | none =>
    obtain rfl := h3 rfl
    have hl : xs = [] := List.eq_nil_of_length_eq_zero (by omega)
    subst hl
    clear h1 h2 h3
    go_enter Tryz.func54, Tryz.ntmps54
    go_wp2_with fail
    go_ret
    exact ⟨_, rfl, World.ownsRow_nil _ _ _ _, Below.refl _ _⟩
  | some a =>
    have key : ∀ w1 : World, Below w.heap.size w w1 → ∀ j u, (xs.map (Value.int .u64))[j]? = some u → w1.cell? (a.add j) = some u := by
      intro w1 hb j u hj
      rw [List.getElem?_map, Option.map_eq_some_iff] at hj
      obtain ⟨x, hx, rfl⟩ := hj
      obtain ⟨hj', rfl⟩ := List.getElem?_eq_some_iff.1 hx
      obtain ⟨b, off, hp, hc⟩ := (H.out.below hb).elem hj'
      simp only [Option.some.injEq] at hp
      subst hp
      rw [Addr.add_lit]; exact hc
    have K := Lib.hid key
    clear key h3
    go_enter Tryz.func54, Tryz.ntmps54
    go_wp2_with (at_builtin; refine wpList_append_own _ rfl _ _ 45 rfl w.heap.size 36 i0 (.int .u64 0) 1 8 Tryz.underlying45 hi hz0 hz1 hz2 rfl (by decide) _ 0 [] rfl (by exact ⟨rfl, .inr ⟨_, _, #[], rfl, Nat.le_refl _, heap_alloc_new _ _, Nat.le_refl _, by simp [maxLen], rfl, rfl⟩⟩) a xs.length cap (xs.map (Value.int .u64)) rfl (by simp <;> omega) (by exact K.out _ ((Below.refl _ _).alloc (Nat.le_refl _) _)) ints_one (by simp [maxLen]; have := R.out; omega) (by have := R.out; omega) (by simp) ?_)
    intro v' w1 hown hg _
    go_wp2
    go_ret
    exact ⟨v', rfl, by simpa using hown, ((Below.refl _ _).alloc (Nat.le_refl _) _).grown hg (by simp) (by simp [Value.ownBlock])⟩

theorem uSort (l : List Int) (v : Value) (B : Nat) (w : World) (h : w.ownsRow B 36 1 v l.length (l.map (Value.int .u64))) (hB : B ≤ w.heap.size) (hl : l.length ≤ 1000000) :
    Calls Tryz.prog 55 #[v] w fun e w' => e = .returned (.tuple #[]) ∧ w'.ownsRow B 36 1 v (sortZ l).length ((sortZ l).map (Value.int .u64)) ∧ Below B w w' := by
  have hsl : (sortZ l).length = l.length := (List.mergeSort_perm l _).length_eq
  rw [hsl]
  rcases id h.2 with ⟨rfl, hz⟩ | ⟨gb, cap, cur, rfl, hbase, hgb, r1, r2, r3, r4⟩
  · have hl0 : l = [] := List.eq_nil_of_length_eq_zero hz
    subst hl0
    refine (srt_Sort_int_nil none 0 w).mono ?_
    rintro e w' ⟨rfl, rfl⟩
    exact ⟨rfl, by simpa [sortZ] using h, Below.refl _ _⟩
  · have hH : Holds (Value.int .u64) w gb 0 l.toArray := holds_of_blockU hgb (by simpa using r4)
    have hgl : gb < w.heap.size := (Array.getElem?_eq_some_iff.1 hgb).1
    refine (srt gb 0 cap l w hH hgl (by omega)).mono ?_
    rintro e w' ⟨rfl, nn, os, rfl⟩
    exact ⟨rfl, ownsRow_sortedU (by simp) hbase hgb r1 r2 r3, (Below.refl _ _).grown (grownBy_sortedU _) hB (fun j hj => by cases hj; exact hbase)⟩

theorem uCompact (l : List Int) (v : Value) (B : Nat) (w : World) (h : w.ownsRow B 36 1 v l.length (l.map (Value.int .u64))) (_hB : B ≤ w.heap.size) (hl : l.length ≤ 1000000) (hs : l.Pairwise (· ≤ ·)) :
    Calls Tryz.prog 56 #[v] w fun e w' => ∃ u, e = .returned u ∧ w'.ownsRow B 36 1 u (runsZ l).length ((runsZ l).map (Value.int .u64)) ∧ Below B w w' := by
  by_cases hn : v = .slice none 0 0
  · subst hn
    have hl0 : l = [] := by
      rcases h.2 with ⟨-, h0⟩ | ⟨g, cap, cur, he, -⟩
      · exact List.eq_nil_of_length_eq_zero h0
      · cases he
    subst hl0
    have HH := Lib.hid h
    clear h hs
    go_enter Tryz.func56, Tryz.ntmps56
    go_wp2_with fail
    go_ret
    exact ⟨_, rfl, by simpa [runsZ, compactUpTo] using HH.out, Below.refl _ _⟩
  · obtain ⟨g, cap, rfl, hg, hgl, hcap, hmax, -, hH⟩ := holds_of_ownsRow (enc := Value.int .u64) h hn
    have hc := AnyE.slices_Compact layCompact (Value.int .u64) (fun _ => rfl) (EqlAt.intD _ _ _) (NeqAt.intD _ _ _) 0 Tryz.zeroValue36 g 0 cap l.toArray w hH (by simp; omega) (by simpa using hcap)
    change Calls Tryz.prog 56 _ _ _ at hc
    simp only [List.size_toArray] at hc
    refine hc.mono ?_
    rintro e w' ⟨rfl, n, rfl⟩
    have hle : (runsZ l).length ≤ l.length := (runs_of hs).2.2
    have := ownsRow_putRow (q := n) (k := (runsZ l).length) (ys := runsZ l ++ List.replicate (l.length - (runsZ l).length) 0) h (by simp; omega) hle
    rw [List.take_left' rfl] at this
    exact ⟨_, rfl, this, below_putRow (Below.refl _ _) hg⟩

end Go.Proofs.YtpjbkaibgajpcaaGreat
