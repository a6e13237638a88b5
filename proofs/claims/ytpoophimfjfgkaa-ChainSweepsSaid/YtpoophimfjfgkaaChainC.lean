/-
  chain: a version is put.
-/
import Derived.Test.YtpoophimfjfgkaaChainB
import Derived.Test.YtpoophimfjfgkaaMod
namespace Go.Proofs.Ytpoophimfjfgkaa
open Go.RowKit

/-- a chain of the law's own (from B on), whose slice is v, whose versions are rs -/
structure ChainOwn (w : World) (B c : Nat) (v : Value) (rs : List (Int × Value)) (l : List (Int × List Int)) : Prop where
  obj : w.heap[c]? = some (.cells #[v] 61 (0, 0))
  ge : B ≤ c
  row : w.ownsRow B 41 2 v rs.length (flat2 rs)
  held : Held2 w B 21 rs l

/-- its blocks lie in F -/
structure Foot (F : Nat → Prop) (c : Nat) (v : Value) (rs : List (Int × Value)) : Prop where
  cell : F c
  row : ∀ b, v.ownBlock = some b → F b
  vecs : ∀ r ∈ rs, ∀ b, r.2.ownBlock = some b → F b

/-- a chain in F -/
def ChainAt (w : World) (B : Nat) (F : Nat → Prop) (c : Nat) (l : List (Int × List Int)) : Prop := ∃ v rs, ChainOwn w B c v rs l ∧ Foot F c v rs

/-- F and what is new in w' -/
def Plus (F : Nat → Prop) (w w' : World) (k : Nat) : Prop := F k ∨ (w.heap.size ≤ k ∧ k < w'.heap.size)

theorem ChainOwn.is {w : World} {B c : Nat} {v : Value} {rs : List (Int × Value)} {l : List (Int × List Int)} (h : ChainOwn w B c v rs l) : ChainIs w c v l :=
  ⟨by simp [World.cell?, h.obj], Recs.of_own h.row h.held⟩

theorem ChainOwn.below {w w' : World} {B c : Nat} {v : Value} {rs : List (Int × Value)} {l : List (Int × List Int)} (h : ChainOwn w B c v rs l) (hb : Below w.heap.size w w') : ChainOwn w' B c v rs l :=
  ⟨by rw [hb.block _ (lt_block h.obj)]; exact h.obj, h.ge, own_below h.row hb, h.held.below hb⟩

theorem ChainOwn.lt {w : World} {B c : Nat} {v : Value} {rs : List (Int × Value)} {l : List (Int × List Int)} (h : ChainOwn w B c v rs l) :
    c < w.heap.size ∧ (∀ b, v.ownBlock = some b → b < w.heap.size) ∧ ∀ r ∈ rs, ∀ b, r.2.ownBlock = some b → b < w.heap.size :=
  ⟨lt_block h.obj, fun b hb => (h.row.lt b hb).2, fun r hr b hb => (h.held.lt hr b hb).2⟩

theorem Foot.mono {F G : Nat → Prop} {c : Nat} {v : Value} {rs : List (Int × Value)} (h : Foot F c v rs) (hs : ∀ k, F k → G k) : Foot G c v rs :=
  ⟨hs _ h.cell, fun b hb => hs _ (h.row b hb), fun r hr b hb => hs _ (h.vecs r hr b hb)⟩

theorem ChainAt.mono {w : World} {B c : Nat} {F G : Nat → Prop} {l : List (Int × List Int)} (h : ChainAt w B F c l) (hs : ∀ k, F k → G k) : ChainAt w B G c l :=
  let ⟨v, rs, h, f⟩ := h; ⟨v, rs, h, f.mono hs⟩

theorem ChainAt.below {w w' : World} {B c : Nat} {F : Nat → Prop} {l : List (Int × List Int)} (h : ChainAt w B F c l) (hb : Below w.heap.size w w') : ChainAt w' B F c l :=
  let ⟨v, rs, h, f⟩ := h; ⟨v, rs, h.below hb, f⟩

theorem ownsRow_agree {F : Nat → Prop} {w w' : World} {B e size n : Nat} {v : Value} {xs : List Value} (h : w.ownsRow B e size v n xs) (hv : ∀ b, v.ownBlock = some b → F b) (ha : Agree F w w') : w'.ownsRow B e size v n xs := by
  obtain ⟨h0, h | ⟨g, cap, cur, rfl, hb, hh, r⟩⟩ := h
  · exact ⟨h0, .inl h⟩
  · exact ⟨h0, .inr ⟨g, cap, cur, rfl, hb, by rw [ha g (hv g rfl)]; exact hh, r⟩⟩

theorem ChainAt.agree {w w' : World} {B c : Nat} {F : Nat → Prop} {l : List (Int × List Int)} (h : ChainAt w B F c l) (ha : Agree F w w') : ChainAt w' B F c l := by
  obtain ⟨v, rs, h, f⟩ := h
  refine ⟨v, rs, ⟨by rw [ha c f.cell]; exact h.obj, h.ge, ownsRow_agree h.row f.row ha, h.held.len, fun i h1 h2 => ?_, h.held.apart⟩, f⟩
  exact ⟨(h.held.own i h1 h2).1, ownsRow_agree (h.held.own i h1 h2).2 (f.vecs _ (List.getElem_mem h1)) ha⟩

/-- what Put answers, and what is there then -/
def putZ (l : List (Int × List Int)) (s : Int) (xs : List Int) : Int × List (Int × List Int) :=
  if s < 1 ∨ 1099511627776 < s then (1, l) else if 0 < xs.length ∧ rightB xs = false then (4, l) else if s ≤ lastZ l then (7, l) else (0, l ++ [(s, xs)])

def Put (B c : Nat) (F : Nat → Prop) (r : Int × List (Int × List Int)) (w : World) (e : Ending) (w' : World) : Prop :=
  e = .returned (.int .i64 r.1) ∧ ChainAt w' B (Plus F w w') c r.2 ∧ Mod F w w'

theorem put_nil (s : Int) (u : Value) (w : World) :
    Calls Try.prog 14 #[.pointer none, .agg #[.int .u64 s, u]] w fun e w' => e = .returned (.int .i64 6) ∧ Below w.heap.size w w' := by
  go_enter Try.func14, Try.ntmps14
  go_wp2_with fail
  go_ret
  exact ⟨rfl, (Below.refl _ _).alloc (Nat.le_refl _) _⟩

theorem put_same {B c : Nat} {F : Nat → Prop} {l : List (Int × List Int)} {w w' : World} (h : ChainAt w B F c l) (hb : Below w.heap.size w w') (x : Int) : Put B c F (x, l) w (.returned (.int .i64 x)) w' :=
  ⟨rfl, (h.below hb).mono fun _ => .inl, Mod.of_below hb⟩

theorem own_not {w : World} {base e size n c t : Nat} {v : Value} {xs : List Value} {cur : Array Value} {fr : Nat × Nat} (h : w.ownsRow base e size v n xs) (hc : w.heap[c]? = some (.cells cur t fr)) (hne : e ≠ t) : v.ownBlock ≠ some c := by
  rcases h.2 with ⟨rfl, _⟩ | ⟨g, cap, cur', rfl, _, hh, _⟩
  · simp [Value.ownBlock]
  · simp only [Value.ownBlock, ne_eq, Option.some.injEq]
    rintro rfl
    rw [hc] at hh
    simp only [Option.some.injEq, Obj.cells.injEq] at hh
    exact hne hh.2.1.symm

theorem heap_setCell_one {w : World} {c t : Nat} {v u : Value} {fr : Nat × Nat} (h : w.heap[c]? = some (.cells #[v] t fr)) : (w.setCell ⟨c, 0, none⟩ u).heap[c]? = some (.cells #[u] t fr) := by
  simp [World.setCell, Array.getElem?_modify, h]

theorem put_step {W w4 w5 : World} {B c B4 : Nat} {F : Nat → Prop} {v v5 u4 : Value} {rs : List (Int × Value)} {l : List (Int × List Int)} {s : Int} {xs : List Int} {o : Obj} (h : ChainOwn W B c v rs l) (f : Foot F c v rs) (hB : B ≤ W.heap.size)
    (hu : w4.ownsRow B4 21 1 u4 xs.length (xs.map (Value.int .i32))) (hB4 : W.heap.size ≤ B4) (hb4 : Below W.heap.size W w4)
    (hown5 : w5.ownsRow B 41 2 v5 (rs.length + 1) (flat2 rs ++ (#[.int .u64 s, u4] : Array Value).toList)) (hg5 : (w4.alloc o).grownBy w5 v.ownBlock) (hv5 : v.ownBlock = v5.ownBlock ∨ ∀ b, v5.ownBlock = some b → W.heap.size ≤ b) :
    ChainAt (w5.setCell ⟨c, 0, none⟩ v5) B (Plus F W (w5.setCell ⟨c, 0, none⟩ v5)) c (l ++ [(s, xs)]) ∧ Mod F W (w5.setCell ⟨c, 0, none⟩ v5) := by
  have hb4' : Below W.heap.size W (w4.alloc o) := hb4.alloc hb4.size o
  have h4 := h.below hb4'
  have hu4 := hu.alloc o
  have hvc := own_not h4.row h4.obj (by decide)
  have hc5 : w5.heap[c]? = some (.cells #[v] 61 (0, 0)) := by rw [hg5.block c (lt_block h4.obj) (fun e => hvc e.symm)]; exact h4.obj
  have hheld5 := h4.held.other h4.row (by decide) hg5
  have hu5 := hu4.kept hg5 (own_apart hu4 h4.row (by decide))
  have hv5c := own_not hown5 hc5 (by decide)
  have hu5c := own_not hu5 hc5 (by decide)
  have hs5 : (w5.setCell ⟨c, 0, none⟩ v5).heap.size = w5.heap.size := by simp [World.setCell]
  refine ⟨⟨v5, rs ++ [(s, u4)], ⟨heap_setCell_one hc5, h.ge, ?_, ?_⟩, ⟨.inl f.cell, fun b hb => ?_, fun r hr b hb => ?_⟩⟩, ((Mod.of_below hb4').grown hg5 (fun k hk => .inl (f.row k hk))).setCell (.inl f.cell) _⟩
  · rw [flat2_append]
    have := ownsRow_setCell_other hown5 (a := ⟨c, 0, none⟩) hv5c v5
    simpa [flat2] using this
  · have hs : Held2 w5 B 21 (rs ++ [(s, u4)]) (l ++ [(s, xs)]) := by
      refine hheld5.snoc (own_mono hu5 (by omega)) fun r hr => ?_
      cases hrb : r.2.ownBlock with
      | none => exact .inl rfl
      | some b =>
        right
        intro he
        have h1 := h.held.lt hr b hrb
        have h2 := hu.lt b he.symm
        omega
    exact ⟨hs.len, fun i a b => ⟨(hs.own i a b).1, ownsRow_setCell_other (hs.own i a b).2 (own_not (hs.own i a b).2 hc5 (by decide)) _⟩, hs.apart⟩
  · rcases hv5 with e | e
    · exact .inl (f.row b (by rw [e]; exact hb))
    · exact .inr ⟨e b hb, by rw [hs5]; exact (hown5.lt b hb).2⟩
  · simp only [List.mem_append, List.mem_singleton] at hr
    rcases hr with hr | rfl
    · exact .inl (f.vecs r hr b hb)
    · exact .inr ⟨by have := (hu.lt b hb).1; omega, by rw [hs5]; exact (hu5.lt b hb).2⟩

theorem put_end {w W w4 w5 : World} {B c g5 k5 : Nat} {F : Nat → Prop} {v u4 : Value} {rs : List (Int × Value)} {l : List (Int × List Int)} {s : Int} {xs : List Int} {o : Obj} (hB : B ≤ w.heap.size) (hb : Below w.heap.size w W) (h : ChainOwn W B c v rs l) (f : Foot F c v rs)
    (hu : w4.ownsRow W.heap.size 21 1 u4 xs.length (xs.map (Value.int .i32))) (hb4 : Below W.heap.size W w4)
    (hown5 : w5.ownsRow B 41 2 (.slice (some ⟨g5, 0, none⟩) (rs.length + 1) k5) (rs.length + 1) (flat2 rs ++ (#[.int .u64 s, u4] : Array Value).toList)) (hg5 : (w4.alloc o).grownBy w5 v.ownBlock) (hv5 : v.ownBlock = some g5 ∨ g5 = w4.heap.size + 1) :
    Put B c F (0, l ++ [(s, xs)]) w (.returned (.int .i64 0)) (w5.setCell ⟨c, 0, none⟩ (.slice (some ⟨g5, 0, none⟩) (rs.length + 1) k5)) := by
  obtain ⟨a1, a2⟩ := put_step h f (Nat.le_trans hB hb.size) hu (Nat.le_refl _) hb4 hown5 hg5 (hv5.imp id fun e b hb' => by simp [Value.ownBlock] at hb'; have := hb4.size; omega)
  refine ⟨rfl, a1.mono fun k hk => ?_, (Mod.of_below hb).trans a2 fun _ _ h => h⟩
  rcases hk with hk | ⟨h1, h2⟩
  · exact .inl hk
  · exact .inr ⟨by have := hb.size; omega, h2⟩

theorem rowVer : RowTy Try.prog 51 41 2 32 (.agg #[.int .u64 0, .slice none 0 0]) := ⟨Try.underlying51, by kernel_rfl, rfl, by decide⟩

set_option maxHeartbeats 4000000 in
theorem put (B c : Nat) (F : Nat → Prop) (l : List (Int × List Int)) (s : Int) (xs : List Int) (u : Value) (w : World) (h : ChainAt w B F c l) (hn : l.length ≤ 1000000) (hu : Nums w .i32 u xs) (hx : xs.length ≤ 1000000) (hs : 0 ≤ s) (hB : B ≤ w.heap.size) :
    Calls Try.prog 14 #[.pointer (some ⟨c, 0, none⟩), .agg #[.int .u64 s, u]] w (Put B c F (putZ l s xs) w) := by
  have C := Lib.hid h
  obtain ⟨p, cap, rfl, -, -, -, -⟩ := hu.slice
  have U := Lib.hid hu
  clear h hu
  by_cases h0 : s = 0
  · subst h0
    rw [show putZ l 0 xs = (1, l) by simp [putZ]]
    go_enter Try.func14, Try.ntmps14
    go_wp2_with fail
    go_ret
    exact put_same C.out ((Below.refl _ _).alloc (Nat.le_refl _) _) 1
  have e0 : (s == 0) = false := by simp [h0]
  by_cases h1 : 1099511627776 < s
  · rw [show putZ l s xs = (1, l) by simp [putZ, h1]]
    go_enter Try.func14, Try.ntmps14
    go_wp2_with fail
    go_ret
    exact put_same C.out ((Below.refl _ _).alloc (Nat.le_refl _) _) 1
  have h01 : ¬ (s < 1 ∨ 1099511627776 < s) := by omega
  have hb1 := (Below.refl w.heap.size w).alloc (Nat.le_refl _) (Obj.cells #[Value.int IntKind.u64 s, Value.slice p xs.length cap] 41)
  by_cases hl : 0 < xs.length ∧ rightB xs = false
  · rw [show putZ l s xs = (4, l) by simp only [putZ, if_neg h01, if_pos hl]]
    have hlp : (0 : Int) < (xs.length : Int) := by omega
    have G := Lib.hid hb1
    have Rt := Lib.hid (right xs _ _ (U.out.below hb1))
    have hr := hl.2
    clear hb1 hl
    go_enter Try.func14, Try.ntmps14
    go_wp2_with fail
    refine Rt.out.mono ?_
    rintro e w' ⟨rfl, rfl⟩
    rw [hr]
    go_wp2_with fail
    go_ret
    exact put_same C.out G.out 4
  have G := Lib.hid hb1
  have C1 := Lib.hid (C.out.below hb1)
  have U1 := Lib.hid (U.out.below hb1)
  have hsz : (w.alloc (Obj.cells #[Value.int IntKind.u64 s, Value.slice p xs.length cap] 41)).heap.size = w.heap.size + 1 := by simp
  have hcl := hl
  have hpz : putZ l s xs = if s ≤ lastZ l then (7, l) else (0, l ++ [(s, xs)]) := by simp only [putZ, if_neg h01, if_neg hl]
  rw [hpz]
  have P := Lib.hid hpz
  clear hb1 hpz hl
  have Lq := Lib.hid (fun n => let ⟨v, rs, hc, _⟩ := C1.out; last l hn c v _ (hc.below (below_drewN (Below.refl _ _) n)).is)
  have T : ((0 : Int) < (xs.length : Int) ∧ rightB xs = true) ∨ ¬ ((0 : Int) < (xs.length : Int)) := by
    rcases Nat.eq_zero_or_pos xs.length with h | h
    · exact .inr (by omega)
    · refine .inl ⟨by omega, ?_⟩
      cases hr : rightB xs
      · exact absurd ⟨h, hr⟩ hcl
      · rfl
  clear hcl
  have Rt := Lib.hid (right xs _ _ U1.out)
  by_cases hle : s ≤ lastZ l
  · rw [if_pos hle]
    rcases T with ⟨hlp, hr⟩ | hl0
    · skip
      go_enter Try.func14, Try.ntmps14
      go_wp2_with fail
      refine Rt.out.mono ?_
      rintro e w' ⟨rfl, rfl⟩
      rw [hr]
      go_wp2_with fail
      go_quiet ((go_at_call 22; exact Calls.quiet_of (Lq.out _)))
      go_wp2_with fail
      go_ret
      exact put_same C.out (below_drewN G.out _) 7
    · skip
      go_enter Try.func14, Try.ntmps14
      go_wp2_with fail
      go_quiet ((go_at_call 22; exact Calls.quiet_of (Lq.out _)))
      go_wp2_with fail
      go_ret
      exact put_same C.out (below_drewN G.out _) 7
  · rw [if_neg hle]
    rcases T with ⟨hlp, hr⟩ | hl0
    case' inl =>
      go_enter Try.func14, Try.ntmps14
      go_wp2_with fail
      refine Rt.out.mono ?_
      rintro e w' ⟨rfl, rfl⟩
      rw [hr]
    case' inr =>
      go_enter Try.func14, Try.ntmps14
    all_goals
      go_wp2_with fail
      go_quiet ((go_at_call 22; exact Calls.quiet_of (Lq.out _)))
      rename_i nq
      go_wp2_with fail
      have hbn := below_drewN (Below.refl (w.alloc (Obj.cells #[Value.int IntKind.u64 s, Value.slice p xs.length cap] 41)).heap.size (w.alloc (Obj.cells #[Value.int IntKind.u64 s, Value.slice p xs.length cap] 41))) nq
      obtain ⟨v, rs, hc, hf⟩ := C.out
      obtain ⟨hcw, hvw, -⟩ := hc.lt
      have hc3 := (hc.below (G.out.trans (hbn.mono G.out.size))).below (Below.refl _ _).drew
      have U3 := Lib.hid ((U1.out.below hbn).below (Below.refl _ _).drew)
      have x0 := below_cells hbn (a := ⟨w.heap.size, 0, none⟩) (v := .int .u64 s) (by go_simp)
      have x1 := below_cells hbn (a := ⟨w.heap.size, 1, none⟩) (v := .slice p xs.length cap) (by go_simp)
      have G3 := Lib.hid (below_drewN G.out nq).drew
      clear hbn hc
      generalize (w.alloc (Obj.cells #[Value.int IntKind.u64 s, Value.slice p xs.length cap] 41)).drewN nq = W1 at *
      obtain ⟨vq, vm, vk, rfl⟩ := own_form hc3.row
      have hcl := hc3.is.cell
      have K3 := Lib.hid hc3
      have V3 := Lib.hid hvw
      have F3 := Lib.hid hf
      have hwd : w.heap.size < W1.drew.heap.size := lt_of_cell (a := ⟨w.heap.size, 0, none⟩) x0
      clear hc3 hf
      refine region_go (fun w' => w'.cell? ⟨w.heap.size, 0, none⟩ = some (.int .u64 s) ∧ w'.cell? ⟨w.heap.size, 1, none⟩ = some (.slice p xs.length cap)) (by kernel_rfl) ?hS0 (fun hH => ?_)
      case hS0 =>
        exact ⟨by simpa using x0, by simpa using x1⟩
      refine tkY (v := ?_) 0 hH rfl (fun _ _ _ h => h) ?hc ?hw ?hy ?_
      case hc => decide +kernel
      case hw => rfl
      case hy => (intro w hS; (try dsimp only at hS); go_simp; try with_reducible rfl)
      (try simp only [Act.put]); (repeat (first | simp only [List.setIfInBounds_toArray] | simp only [List.set_cons_zero] | simp only [List.set_cons_succ]))
      refine tkY (v := ?_) 1 hH rfl (fun _ _ _ h => h) ?hc ?hw ?hy ?_
      case hc => decide +kernel
      case hw => rfl
      case hy => (intro w hS; (try dsimp only at hS); go_simp; try with_reducible rfl)
      (try simp only [Act.put]); (repeat (first | simp only [List.setIfInBounds_toArray] | simp only [List.set_cons_zero] | simp only [List.set_cons_succ]))
      refine tkY (v := ?_) 2 hH rfl (fun _ _ _ h => h) ?hc ?hw ?hy ?_
      case hc => decide +kernel
      case hw => rfl
      case hy => (intro w hS; (try dsimp only at hS); go_simp; try with_reducible rfl)
      (try simp only [Act.put]); (repeat (first | simp only [List.setIfInBounds_toArray] | simp only [List.set_cons_zero] | simp only [List.set_cons_succ]))
      refine tkY (v := ?_) 3 hH rfl (fun _ _ _ h => h) ?hc ?hw ?hy ?_
      case hc => decide +kernel
      case hw => rfl
      case hy => (intro w hS; (try dsimp only at hS); go_simp; try with_reducible rfl)
      (try simp only [Act.put]); (repeat (first | simp only [List.setIfInBounds_toArray] | simp only [List.set_cons_zero] | simp only [List.set_cons_succ]))
      refine tkY (v := ?_) 5 hH rfl (fun _ _ _ h => h) ?hc ?hw ?hy ?_
      case hc => decide +kernel
      case hw => rfl
      case hy => (intro w hS; (try dsimp only at hS); go_simp; try with_reducible rfl)
      (try simp only [Act.put]); (repeat (first | simp only [List.setIfInBounds_toArray] | simp only [List.set_cons_zero] | simp only [List.set_cons_succ]))
      refine spB 4 6 rfl rfl ?hr ?hw ?hv (fun K' hK => ?b1) (fun K' hK => ?b2)
      case hr => decide +kernel
      case hw => rfl
      case hv => rfl
      case b1 =>
        go_simp
        try dsimp only
        refine hK.out _ _ ?hS (fun hH' => ?_)
        case hS =>
          exact hH
        clear hK K' hH; have hH := hH'; clear hH'; (try simp only [Act.put]); (repeat (first | simp only [List.setIfInBounds_toArray] | simp only [List.set_cons_zero] | simp only [List.set_cons_succ]))
        refine spk 6 rfl ?hr ?hw (fun K' hK => ?_)
        case hr => decide +kernel
        case hw => rfl
        go_simp
        refine (copyOf s xs _ _ U3.out hx).mono ?_
        rintro e w4 ⟨u4, rfl, hu4, hb4⟩
        obtain ⟨q4, m4, k4, rfl⟩ := own_form hu4
        have P4 := Lib.hid (And.intro hu4 hb4)
        have h4 := K3.out.below hb4
        obtain ⟨g5, cap5, w5, hrun5, hown5, hg5, hgg5, hlt5⟩ := run_push rowVer h4.row (Nat.le_trans hB (Nat.le_trans G3.out.size hb4.size)) #[.int .u64 s, .slice q4 m4 k4] rfl (by simp [Value.oneCell']) (by have := h4.held.len; simp only [maxLen]; omega) (by have := h4.held.len; omega)
        have hcl4 := h4.is.cell
        have hsz4 : c < w4.heap.size := lt_block h4.obj
        have hvc := own_not h4.row h4.obj (by decide)
        have hc5 : w5.heap[c]? = some (.cells #[.slice vq vm vk] 61 (0, 0)) := by rw [hg5.block c (by simp; omega) (fun e => hvc e.symm), heap_alloc_old _ _ (lt_block h4.obj)]; exact h4.obj
        have k0 : w5.cell? ⟨c, 0, none⟩ = some (.slice vq vm vk) := by simp [World.cell?, hc5]
        have k1 : w5.frozen? ⟨c, 0, none⟩ = false := by simp [World.frozen?, hc5]
        have R5 := Lib.hid hrun5
        have S5 : ∀ a : Addr, a.block = w.heap.size → a.block < W1.drew.heap.size → w5.cell? a = W1.drew.cell? a := fun a ha1 ha2 => World.cell?_of_block (by
          rw [hg5.block a.block (by have := hb4.size; simp; omega) (fun e => by have := hvw a.block e.symm; omega), heap_alloc_old _ _ (by have := hb4.size; omega)]
          exact hb4.block _ ha2)
        have P5 := Lib.hid (And.intro hown5 (And.intro hg5 (And.intro hgg5 hlt5)))
        clear h4 hu4 hrun5 hown5 hg5 hgg5 hlt5 hc5 hvc
        try dsimp only
        refine hK.out _ _ ?hS (fun hH' => ?_)
        case hS =>
          exact ⟨below_cells hb4 (by simpa using x0), below_cells hb4 (by simpa using x1)⟩
        clear hK K' hH; have hH := hH'; clear hH'; (try simp only [Act.put]); (repeat (first | simp only [List.setIfInBounds_toArray] | simp only [List.set_cons_zero] | simp only [List.set_cons_succ]))
        refine spk 7 rfl ?hr ?hw (fun K' hK => ?_)
        case hr => decide +kernel
        case hw => rfl
        go_simp
        try dsimp only
        refine hK.out _ _ ?hS (fun hH' => ?_)
        case hS =>
          exact ⟨below_cells ((Below.refl _ _).alloc (Nat.le_refl _) _) hH.1, below_cells ((Below.refl _ _).alloc (Nat.le_refl _) _) hH.2⟩
        clear hK K' hH; have hH := hH'; clear hH'; (try simp only [Act.put]); (repeat (first | simp only [List.setIfInBounds_toArray] | simp only [List.set_cons_zero] | simp only [List.set_cons_succ]))
        refine spk 8 rfl ?hr ?hw (fun K' hK => ?_)
        case hr => decide +kernel
        case hw => rfl
        refine wp_append_eq R5.out _ _ rfl rfl rfl ?_
        try dsimp only
        refine hK.out _ _ ?hS (fun hH' => ?_)
        case hS =>
          exact ⟨by rw [S5 _ rfl hwd]; exact x0, by rw [S5 _ rfl hwd]; exact x1⟩
        clear hK K' hH; have hH := hH'; clear hH'; (try simp only [Act.put]); (repeat (first | simp only [List.setIfInBounds_toArray] | simp only [List.set_cons_zero] | simp only [List.set_cons_succ]))
        refine tkY (v := ?_) 9 hH rfl (fun _ _ _ h => h) ?hc ?hw ?hy ?_
        case hc => decide +kernel
        case hw => rfl
        case hy => (intro w hS; (try dsimp only at hS); go_simp; try with_reducible rfl)
        (try simp only [Act.put]); (repeat (first | simp only [List.setIfInBounds_toArray] | simp only [List.set_cons_zero] | simp only [List.set_cons_succ]))
        refine tkY (v := ?_) 10 hH rfl (fun _ _ _ h => h) ?hc ?hw ?hy ?_
        case hc => decide +kernel
        case hw => rfl
        case hy => (intro w hS; (try dsimp only at hS); go_simp; try with_reducible rfl)
        (try simp only [Act.put]); (repeat (first | simp only [List.setIfInBounds_toArray] | simp only [List.set_cons_zero] | simp only [List.set_cons_succ]))
        refine spk 11 rfl ?hr ?hw (fun K' hK => ?_)
        case hr => decide +kernel
        case hw => rfl
        go_simp
        try dsimp only
        refine hK.out _ _ ?hS (fun hH' => ?_)
        case hS =>
          exact ⟨by rw [World.cell?_setCell_other _ _ _ _ (by (try simp); (try omega))]; exact hH.1, by rw [World.cell?_setCell_other _ _ _ _ (by (try simp); (try omega))]; exact hH.2⟩
        clear hK K' hH; have hH := hH'; clear hH'; (try simp only [Act.put]); (repeat (first | simp only [List.setIfInBounds_toArray] | simp only [List.set_cons_zero] | simp only [List.set_cons_succ]))
        refine wpAnyH_done (by decide +kernel) ?_ _
        have E := Lib.hid (put_end hB G3.out K3.out F3.out P4.out.1 P4.out.2 P5.out.1 P5.out.2.1 P5.out.2.2.1)
        clear hH S5 k0 k1 hcl4
        generalize (w5.setCell ⟨c, 0, none⟩ (.slice (some ⟨g5, 0, none⟩) (rs.length + 1) cap5)) = W6 at *
        go_wp2_with fail
        go_ret
        exact E.out
      case b2 =>
        go_simp
        refine (copyOf s xs _ _ U3.out hx).mono ?_
        rintro e w4 ⟨u4, rfl, hu4, hb4⟩
        obtain ⟨q4, m4, k4, rfl⟩ := own_form hu4
        have P4 := Lib.hid (And.intro hu4 hb4)
        have h4 := K3.out.below hb4
        obtain ⟨g5, cap5, w5, hrun5, hown5, hg5, hgg5, hlt5⟩ := run_push rowVer h4.row (Nat.le_trans hB (Nat.le_trans G3.out.size hb4.size)) #[.int .u64 s, .slice q4 m4 k4] rfl (by simp [Value.oneCell']) (by have := h4.held.len; simp only [maxLen]; omega) (by have := h4.held.len; omega)
        have hcl4 := h4.is.cell
        have hsz4 : c < w4.heap.size := lt_block h4.obj
        have hvc := own_not h4.row h4.obj (by decide)
        have hc5 : w5.heap[c]? = some (.cells #[.slice vq vm vk] 61 (0, 0)) := by rw [hg5.block c (by simp; omega) (fun e => hvc e.symm), heap_alloc_old _ _ (lt_block h4.obj)]; exact h4.obj
        have k0 : w5.cell? ⟨c, 0, none⟩ = some (.slice vq vm vk) := by simp [World.cell?, hc5]
        have k1 : w5.frozen? ⟨c, 0, none⟩ = false := by simp [World.frozen?, hc5]
        have R5 := Lib.hid hrun5
        have S5 : ∀ a : Addr, a.block = w.heap.size → a.block < W1.drew.heap.size → w5.cell? a = W1.drew.cell? a := fun a ha1 ha2 => World.cell?_of_block (by
          rw [hg5.block a.block (by have := hb4.size; simp; omega) (fun e => by have := hvw a.block e.symm; omega), heap_alloc_old _ _ (by have := hb4.size; omega)]
          exact hb4.block _ ha2)
        have P5 := Lib.hid (And.intro hown5 (And.intro hg5 (And.intro hgg5 hlt5)))
        clear h4 hu4 hrun5 hown5 hg5 hgg5 hlt5 hc5 hvc
        try dsimp only
        refine hK.out _ _ ?hS (fun hH' => ?_)
        case hS =>
          exact ⟨below_cells hb4 (by simpa using x0), below_cells hb4 (by simpa using x1)⟩
        clear hK K' hH; have hH := hH'; clear hH'; (try simp only [Act.put]); (repeat (first | simp only [List.setIfInBounds_toArray] | simp only [List.set_cons_zero] | simp only [List.set_cons_succ]))
        refine spB 4 7 rfl rfl ?hr ?hw ?hv (fun K' hK => ?b1) (fun K' hK => ?b2)
        case hr => decide +kernel
        case hw => rfl
        case hv => rfl
        case b1 =>
          go_simp
          try dsimp only
          refine hK.out _ _ ?hS (fun hH' => ?_)
          case hS =>
            exact hH
          clear hK K' hH; have hH := hH'; clear hH'; (try simp only [Act.put]); (repeat (first | simp only [List.setIfInBounds_toArray] | simp only [List.set_cons_zero] | simp only [List.set_cons_succ]))
          refine spk 7 rfl ?hr ?hw (fun K' hK => ?_)
          case hr => decide +kernel
          case hw => rfl
          go_simp
          try dsimp only
          refine hK.out _ _ ?hS (fun hH' => ?_)
          case hS =>
            exact ⟨below_cells ((Below.refl _ _).alloc (Nat.le_refl _) _) hH.1, below_cells ((Below.refl _ _).alloc (Nat.le_refl _) _) hH.2⟩
          clear hK K' hH; have hH := hH'; clear hH'; (try simp only [Act.put]); (repeat (first | simp only [List.setIfInBounds_toArray] | simp only [List.set_cons_zero] | simp only [List.set_cons_succ]))
          refine spk 8 rfl ?hr ?hw (fun K' hK => ?_)
          case hr => decide +kernel
          case hw => rfl
          refine wp_append_eq R5.out _ _ rfl rfl rfl ?_
          try dsimp only
          refine hK.out _ _ ?hS (fun hH' => ?_)
          case hS =>
            exact ⟨by rw [S5 _ rfl hwd]; exact x0, by rw [S5 _ rfl hwd]; exact x1⟩
          clear hK K' hH; have hH := hH'; clear hH'; (try simp only [Act.put]); (repeat (first | simp only [List.setIfInBounds_toArray] | simp only [List.set_cons_zero] | simp only [List.set_cons_succ]))
          refine tkY (v := ?_) 9 hH rfl (fun _ _ _ h => h) ?hc ?hw ?hy ?_
          case hc => decide +kernel
          case hw => rfl
          case hy => (intro w hS; (try dsimp only at hS); go_simp; try with_reducible rfl)
          (try simp only [Act.put]); (repeat (first | simp only [List.setIfInBounds_toArray] | simp only [List.set_cons_zero] | simp only [List.set_cons_succ]))
          refine tkY (v := ?_) 10 hH rfl (fun _ _ _ h => h) ?hc ?hw ?hy ?_
          case hc => decide +kernel
          case hw => rfl
          case hy => (intro w hS; (try dsimp only at hS); go_simp; try with_reducible rfl)
          (try simp only [Act.put]); (repeat (first | simp only [List.setIfInBounds_toArray] | simp only [List.set_cons_zero] | simp only [List.set_cons_succ]))
          refine spk 11 rfl ?hr ?hw (fun K' hK => ?_)
          case hr => decide +kernel
          case hw => rfl
          go_simp
          try dsimp only
          refine hK.out _ _ ?hS (fun hH' => ?_)
          case hS =>
            exact ⟨by rw [World.cell?_setCell_other _ _ _ _ (by (try simp); (try omega))]; exact hH.1, by rw [World.cell?_setCell_other _ _ _ _ (by (try simp); (try omega))]; exact hH.2⟩
          clear hK K' hH; have hH := hH'; clear hH'; (try simp only [Act.put]); (repeat (first | simp only [List.setIfInBounds_toArray] | simp only [List.set_cons_zero] | simp only [List.set_cons_succ]))
          refine wpAnyH_done (by decide +kernel) ?_ _
          have E := Lib.hid (put_end hB G3.out K3.out F3.out P4.out.1 P4.out.2 P5.out.1 P5.out.2.1 P5.out.2.2.1)
          clear hH S5 k0 k1 hcl4
          generalize (w5.setCell ⟨c, 0, none⟩ (.slice (some ⟨g5, 0, none⟩) (rs.length + 1) cap5)) = W6 at *
          go_wp2_with fail
          go_ret
          exact E.out
        case b2 =>
          go_simp
          try dsimp only
          refine hK.out _ _ ?hS (fun hH' => ?_)
          case hS =>
            exact ⟨below_cells ((Below.refl _ _).alloc (Nat.le_refl _) _) hH.1, below_cells ((Below.refl _ _).alloc (Nat.le_refl _) _) hH.2⟩
          clear hK K' hH; have hH := hH'; clear hH'; (try simp only [Act.put]); (repeat (first | simp only [List.setIfInBounds_toArray] | simp only [List.set_cons_zero] | simp only [List.set_cons_succ]))
          refine spk 4 rfl ?hr ?hw (fun K' hK => ?_)
          case hr => decide +kernel
          case hw => rfl
          go_simp
          try dsimp only
          refine hK.out _ _ ?hS (fun hH' => ?_)
          case hS =>
            exact hH
          clear hK K' hH; have hH := hH'; clear hH'; (try simp only [Act.put]); (repeat (first | simp only [List.setIfInBounds_toArray] | simp only [List.set_cons_zero] | simp only [List.set_cons_succ]))
          refine spk 8 rfl ?hr ?hw (fun K' hK => ?_)
          case hr => decide +kernel
          case hw => rfl
          refine wp_append_eq R5.out _ _ rfl rfl rfl ?_
          try dsimp only
          refine hK.out _ _ ?hS (fun hH' => ?_)
          case hS =>
            exact ⟨by rw [S5 _ rfl hwd]; exact x0, by rw [S5 _ rfl hwd]; exact x1⟩
          clear hK K' hH; have hH := hH'; clear hH'; (try simp only [Act.put]); (repeat (first | simp only [List.setIfInBounds_toArray] | simp only [List.set_cons_zero] | simp only [List.set_cons_succ]))
          refine tkY (v := ?_) 9 hH rfl (fun _ _ _ h => h) ?hc ?hw ?hy ?_
          case hc => decide +kernel
          case hw => rfl
          case hy => (intro w hS; (try dsimp only at hS); go_simp; try with_reducible rfl)
          (try simp only [Act.put]); (repeat (first | simp only [List.setIfInBounds_toArray] | simp only [List.set_cons_zero] | simp only [List.set_cons_succ]))
          refine tkY (v := ?_) 10 hH rfl (fun _ _ _ h => h) ?hc ?hw ?hy ?_
          case hc => decide +kernel
          case hw => rfl
          case hy => (intro w hS; (try dsimp only at hS); go_simp; try with_reducible rfl)
          (try simp only [Act.put]); (repeat (first | simp only [List.setIfInBounds_toArray] | simp only [List.set_cons_zero] | simp only [List.set_cons_succ]))
          refine spk 11 rfl ?hr ?hw (fun K' hK => ?_)
          case hr => decide +kernel
          case hw => rfl
          go_simp
          try dsimp only
          refine hK.out _ _ ?hS (fun hH' => ?_)
          case hS =>
            exact ⟨by rw [World.cell?_setCell_other _ _ _ _ (by (try simp); (try omega))]; exact hH.1, by rw [World.cell?_setCell_other _ _ _ _ (by (try simp); (try omega))]; exact hH.2⟩
          clear hK K' hH; have hH := hH'; clear hH'; (try simp only [Act.put]); (repeat (first | simp only [List.setIfInBounds_toArray] | simp only [List.set_cons_zero] | simp only [List.set_cons_succ]))
          refine wpAnyH_done (by decide +kernel) ?_ _
          have E := Lib.hid (put_end hB G3.out K3.out F3.out P4.out.1 P4.out.2 P5.out.1 P5.out.2.1 P5.out.2.2.1)
          clear hH S5 k0 k1 hcl4
          generalize (w5.setCell ⟨c, 0, none⟩ (.slice (some ⟨g5, 0, none⟩) (rs.length + 1) cap5)) = W6 at *
          go_wp2_with fail
          go_ret
          exact E.out

end Go.Proofs.Ytpoophimfjfgkaa
