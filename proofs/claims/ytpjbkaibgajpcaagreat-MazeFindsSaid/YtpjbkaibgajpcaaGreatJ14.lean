/- graph's document: a number more, in a list that rises. -/
import Derived.Test.YtpjbkaibgajpcaaGreatJ13
import Derived.Test.YtpjbkaibgajpcaaGreatJ08
namespace Go.Proofs.YtpjbkaibgajpcaaGreat
open Go.RowKit
set_option maxRecDepth 20000

theorem SrcAt.cut {w : World} {b off m c s : Nat} {xs : List Value} (h : SrcAt w (some ⟨b, off, none⟩) m c s xs) (a k c' : Nat) (hk : a + k ≤ m) : SrcAt w (some ⟨b, off + a * s, none⟩) k c' s ((xs.drop (a * s)).take (k * s)) := by
  refine ⟨?_, by simp, fun ad hd j u hj => ?_⟩
  · have := h.len
    have h2 : (a + k) * s ≤ m * s := Nat.mul_le_mul_right _ hk
    rw [Nat.add_mul] at h2
    rw [List.length_take, List.length_drop]
    omega
  · obtain rfl := Option.some.inj hd
    rw [List.getElem?_take] at hj
    split at hj
    · rw [List.getElem?_drop] at hj
      have := h.cells _ rfl (a * s + j) u hj
      rw [Addr.add_lit] at this ⊢
      rwa [← Nat.add_assoc] at this
    · cases hj

theorem SrcAt.none (w : World) (p : Option Addr) (s : Nat) (_hp : p = none ∨ ∃ a, p = some a) : SrcAt w p 0 0 s [] :=
  ⟨by simp, fun _ => ⟨rfl, rfl⟩, fun a _ j u hj => by simp at hj⟩

def putZ (l : List Int) (k : Int) : List Int := l.takeWhile (fun x => decide (x < k)) ++ k :: l.dropWhile (fun x => decide (x < k))

theorem putZ_cut {l : List Int} {k : Int} {i : Nat} (hi : i ≤ l.length) (h1 : ∀ x ∈ l.take i, x < k) (h2 : ∀ (h : i < l.length), ¬ l[i] < k) : putZ l k = l.take i ++ k :: l.drop i := by
  unfold putZ
  induction l generalizing i with
  | nil => simp
  | cons y l ih =>
    cases i with
    | zero =>
      have : ¬ y < k := h2 (by simp)
      simp [this]
    | succ i =>
      have hy : y < k := h1 y (by simp)
      have := ih (i := i) (by simpa using hi) (fun x hx => h1 x (by simp [hx])) (fun h => by have := h2 (by simpa using h); simpa using this)
      simp only [List.takeWhile_cons, List.dropWhile_cons, hy, decide_true, if_true, List.take_succ_cons, List.drop_succ_cons, List.cons_append]
      rw [this]

theorem putZ_length (l : List Int) (k : Int) : (putZ l k).length = l.length + 1 := by
  have := congrArg List.length (List.takeWhile_append_dropWhile (p := fun x => decide (x < k)) (l := l))
  simp only [List.length_append] at this
  simp only [putZ, List.length_append, List.length_cons]
  omega

theorem rowN : RowTy Tryz.prog 45 36 1 8 (.int .u64 0) := ⟨Tryz.underlying45, by kernel_rfl, rfl, by decide⟩

theorem one_nums {l : List Int} : ∀ u ∈ l.map (Value.int .u64), u.oneCell' = true := by
  intro u hu
  obtain ⟨x, -, rfl⟩ := List.mem_map.1 hu
  rfl

def NewL (w : World) (l : List Int) (e : Ending) (w' : World) : Prop :=
  ∃ v : Value, e = .returned v ∧ w'.ownsRow w.heap.size 36 1 v l.length (l.map (Value.int .u64)) ∧ Below w.heap.size w w'


set_option maxHeartbeats 4000000 in
theorem dPut (w : World) (B : Nat) (v : Value) (l : List Int) (k : Int) (h : w.ownsRow B 36 1 v l.length (l.map (Value.int .u64))) (hl : l.length ≤ 1000000) :
    Calls Tryz.prog 57 #[v, .int .u64 k] w (NewL w (putZ l k)) := by
  have hN : Nums w .u64 v l := Nums.of_own h
  obtain ⟨p, cap, rfl, hcap, hbig, hnil, hc⟩ := hN.slice
  have src := SrcAt.of_own h
  have hform : p = none ∨ ∃ g, p = some ⟨g, 0, none⟩ := by
    rcases h.2 with ⟨he, -⟩ | ⟨g, c, cur, he, -⟩
    · exact .inl (Value.slice.inj he).1
    · exact .inr ⟨g, (Value.slice.inj he).1⟩
  have HC := Lib.hid hc
  have HS := Lib.hid src
  have HF := Lib.hid hform
  clear h hc src hN hform
  go_enter Tryz.func57, Tryz.ntmps57
  go_wp2_with fail
  go_loopg [5] l.length (fun q i wr => ∃ j : Nat, q = l.length - j ∧ j ≤ l.length ∧ i = .int .i64 j ∧ (∀ x ∈ l.take j, x < k) ∧ wr = w)
  case atStart => exact ⟨0, rfl, by omega, rfl, by simp, rfl⟩
  case round =>
    obtain ⟨j, rfl, hj, rfl, hall, hww⟩ := hrel
    obtain rfl : w = wr := hww.symm
    have HA := Lib.hid hall
    clear hall
    by_cases hgo : ∃ h : j < l.length, l[j] < k
    · obtain ⟨hlt, hx⟩ := hgo
      obtain ⟨b, off, rfl, hcell⟩ := HC.out j hlt
      have HX := Lib.hid hx
      go_wp2_with fail
      go_roundg (l.length - (j + 1))
      case measure => omega
      case rel => exact ⟨j + 1, rfl, by omega, by go_num, fun x hh => by
          rw [List.take_add_one, List.getElem?_eq_getElem hlt] at hh
          rcases List.mem_append.1 hh with h1 | h1
          · exact HA.out x h1
          · simp at h1; rw [h1]; exact HX.out, rfl⟩
    · have hp := putZ_cut hj HA.out (fun h hx => hgo ⟨h, hx⟩)
      have PE := Lib.hid (show ∀ (v : Value) (w' : World), w'.ownsRow w.heap.size 36 1 v (j + 1 + (l.length - j)) ((l.take j).map (Value.int .u64) ++ [Value.int .u64 k] ++ (l.drop j).map (Value.int .u64)) → Below w.heap.size w w' → NewL w (putZ l k) (.returned v) w' from fun v w' h1 h2 => by
        refine ⟨v, rfl, ?_, h2⟩
        rw [hp]
        have e : (l.take j ++ k :: l.drop j).length = j + 1 + (l.length - j) := by simp; omega
        rw [e]
        simpa using h1)
      have one1 := Lib.hid (one_nums (l := l.take j))
      have one2 := Lib.hid (one_nums (l := l.drop j))
      have k0 : (0 : Int) ≤ (j : Int) := by omega
      have k1 : (j : Int) ≤ (cap : Int) := by omega
      have k2 : (j : Int) ≤ (l.length : Int) := by omega
      have HF2 := HF.out
      clear hp
      rcases HF2 with rfl | ⟨g, rfl⟩
      · have hcap0 := hnil rfl
        subst hcap0
        have hl0 : l.length = 0 := by omega
        obtain rfl : l = [] := List.eq_nil_of_length_eq_zero hl0
        obtain rfl : j = 0 := by simpa using hj
        have S1 := Lib.hid (SrcAt.none w none 1 (.inl rfl))
        have S2 := S1
        go_wp2_with fail
        obtain ⟨W0, hW0⟩ : ∃ W0, W0 = w.drew := ⟨_, rfl⟩
        have hb0 : Below w.heap.size w W0 := by rw [hW0]; exact (Below.refl _ _).drew
        have HW := Lib.hid hW0
        clear hW0
        refine region_go (fun _ => True) (by kernel_rfl) ?hS0 (fun hH => ?_)
        case hS0 =>
          trivial
        rw [← HW.out]
        refine kY 1 hH ?_
        repeat simp only [Act.put, uA1, uB1, uC1]
        refine kY 2 hH ?_
        repeat simp only [Act.put, uA1, uB1, uC1]
        refine kY 3 hH ?_
        repeat simp only [Act.put, uA1, uB1, uC1]
        refine kY 5 hH ?_
        repeat simp only [Act.put, uA1, uB1, uC1]
        refine kY 8 hH ?_
        repeat simp only [Act.put, uA1, uB1, uC1]
        refine kY 9 hH ?_
        repeat simp only [Act.put, uA1, uB1, uC1]
        refine kY 10 hH ?_
        repeat simp only [Act.put, uA1, uB1, uC1]
        refine spB 0 6 rfl rfl ?hr ?hw ?hv (fun K' hK => ?b1_1) (fun K' hK => ?b2_1)
        case hr => decide +kernel
        case hw => rfl
        case hv => rfl
        case b1_1 =>
          go_simp
          have hr0 := own_empty _ w.heap.size 36 1 hb0.size
          try rw [show (W0.alloc (.cells #[.int .u64 k] 36)).heap.size = W0.heap.size + 1 from by simp] at hr0
          try have hne9 := Nat.ne_of_lt (lt_block he9)
          try replace he9 := (heap_alloc_old _ (.cells #[] 36) (lt_block he9)).trans he9
          replace hb0 := hb0.alloc hb0.size (.cells #[] 36)
          try dsimp only
          refine hK.out _ _ ?hS (fun hH' => ?_)
          case hS =>
            trivial
          clear hK K' hH; have hH := hH'; clear hH'; repeat simp only [Act.put, uA1, uB1, uC1]
          refine spB 4 6 rfl rfl ?hr ?hw ?hv (fun K' hK => ?b1_2) (fun K' hK => ?b2_2)
          case hr => decide +kernel
          case hw => rfl
          case hv => rfl
          case b1_2 =>
            obtain ⟨q2, n2, c2, w2, hrun2, hr2, hg2, -⟩ := run_app rowN hr0 hb0.size (S1.out.below hb0) (one1.out) (by simp only [maxLen]; omega) (by omega)
            refine wp_append_eq hrun2 _ _ rfl rfl rfl ?_
            try replace he9 := (hg2.block _ (lt_block he9) (by intro e; simp only [Value.ownBlock, Option.some.injEq] at e; first | exact hne9 e | omega)).trans he9
            replace hb0 := hb0.grown hg2 hb0.size (fun b hb => (hr0.lt b hb).1)
            simp only [Nat.zero_add, List.nil_append] at hr2
            clear hrun2 hg2 hr0
            try dsimp only
            refine hK.out _ _ ?hS (fun hH' => ?_)
            case hS =>
              trivial
            clear hK K' hH; have hH := hH'; clear hH'; repeat simp only [Act.put, uA1, uB1, uC1]
            refine spk 6 rfl (by decide +kernel) (by rfl) (fun K' hK => ?_)
            go_simp
            have he9 := (fun {W : World} (_ : Below w.heap.size w W) => heap_alloc_new W (.cells #[.int .u64 k] 36)) hb0
            try rw [show (W0.alloc (.cells #[] 36)).heap.size = W0.heap.size + 1 from by simp] at he9
            try have hne9 := (Nat.ne_of_lt (hr0.lt _ rfl).2).symm
            try replace hr0 := hr0.alloc (.cells #[.int .u64 k] 36)
            try replace hr2 := hr2.alloc (.cells #[.int .u64 k] 36)
            replace hb0 := hb0.alloc hb0.size (.cells #[.int .u64 k] 36)
            try dsimp only
            refine hK.out _ _ ?hS (fun hH' => ?_)
            case hS =>
              trivial
            clear hK K' hH; have hH := hH'; clear hH'; repeat simp only [Act.put, uA1, uB1, uC1]
            refine spk 7 rfl (by decide +kernel) (by rfl) (fun K' hK => ?_)
            obtain ⟨g5, c5, w5, hrun5, hr5, hg5, -, -⟩ := run_push_at rowN hr2 hb0.size he9 rfl (by simp [Value.oneCell']) (by simp only [maxLen]; omega) (by omega)
            refine wp_append_eq hrun5 _ _ rfl rfl rfl ?_
            replace hb0 := hb0.grown hg5 hb0.size (fun b hb => (hr2.lt b hb).1)
            clear hrun5 hg5 hr2 he9
            try dsimp only
            refine hK.out _ _ ?hS (fun hH' => ?_)
            case hS =>
              trivial
            clear hK K' hH; have hH := hH'; clear hH'; repeat simp only [Act.put, uA1, uB1, uC1]
            refine spk 11 rfl (by decide +kernel) (by rfl) (fun K' hK => ?_)
            obtain ⟨q3, n3, c3, w3, hrun3, hr3, hg3, -⟩ := run_app rowN hr5 hb0.size (S2.out.below hb0) (one2.out) (by simp only [maxLen]; omega) (by omega)
            refine wp_append_eq hrun3 _ _ rfl rfl rfl ?_
            replace hb0 := hb0.grown hg3 hb0.size (fun b hb => (hr5.lt b hb).1)
            have EN := Lib.hid (And.intro hr3 hb0)
            clear hrun3 hg3 hr5 hr3 hb0
            try dsimp only
            refine hK.out _ _ ?hS (fun hH' => ?_)
            case hS =>
              trivial
            clear hK K' hH; have hH := hH'; clear hH'; repeat simp only [Act.put, uA1, uB1, uC1]
            refine kY 12 hH ?_
            repeat simp only [Act.put, uA1, uB1, uC1]
            refine wpAnyH_done (by decide +kernel) ?_ _
            go_wp2_with fail
            go_ret
            exact PE.out _ _ EN.out.1 EN.out.2
          case b2_2 =>
            go_simp
            have he9 := (fun {W : World} (_ : Below w.heap.size w W) => heap_alloc_new W (.cells #[.int .u64 k] 36)) hb0
            try rw [show (W0.alloc (.cells #[] 36)).heap.size = W0.heap.size + 1 from by simp] at he9
            try have hne9 := (Nat.ne_of_lt (hr0.lt _ rfl).2).symm
            try replace hr0 := hr0.alloc (.cells #[.int .u64 k] 36)
            try replace hr2 := hr2.alloc (.cells #[.int .u64 k] 36)
            replace hb0 := hb0.alloc hb0.size (.cells #[.int .u64 k] 36)
            try dsimp only
            refine hK.out _ _ ?hS (fun hH' => ?_)
            case hS =>
              trivial
            clear hK K' hH; have hH := hH'; clear hH'; repeat simp only [Act.put, uA1, uB1, uC1]
            refine spk 4 rfl (by decide +kernel) (by rfl) (fun K' hK => ?_)
            obtain ⟨q2, n2, c2, w2, hrun2, hr2, hg2, -⟩ := run_app rowN hr0 hb0.size (S1.out.below hb0) (one1.out) (by simp only [maxLen]; omega) (by omega)
            refine wp_append_eq hrun2 _ _ rfl rfl rfl ?_
            try replace he9 := (hg2.block _ (lt_block he9) (by intro e; simp only [Value.ownBlock, Option.some.injEq] at e; first | exact hne9 e | omega)).trans he9
            replace hb0 := hb0.grown hg2 hb0.size (fun b hb => (hr0.lt b hb).1)
            simp only [Nat.zero_add, List.nil_append] at hr2
            clear hrun2 hg2 hr0
            try dsimp only
            refine hK.out _ _ ?hS (fun hH' => ?_)
            case hS =>
              trivial
            clear hK K' hH; have hH := hH'; clear hH'; repeat simp only [Act.put, uA1, uB1, uC1]
            refine spk 7 rfl (by decide +kernel) (by rfl) (fun K' hK => ?_)
            obtain ⟨g5, c5, w5, hrun5, hr5, hg5, -, -⟩ := run_push_at rowN hr2 hb0.size he9 rfl (by simp [Value.oneCell']) (by simp only [maxLen]; omega) (by omega)
            refine wp_append_eq hrun5 _ _ rfl rfl rfl ?_
            replace hb0 := hb0.grown hg5 hb0.size (fun b hb => (hr2.lt b hb).1)
            clear hrun5 hg5 hr2 he9
            try dsimp only
            refine hK.out _ _ ?hS (fun hH' => ?_)
            case hS =>
              trivial
            clear hK K' hH; have hH := hH'; clear hH'; repeat simp only [Act.put, uA1, uB1, uC1]
            refine spk 11 rfl (by decide +kernel) (by rfl) (fun K' hK => ?_)
            obtain ⟨q3, n3, c3, w3, hrun3, hr3, hg3, -⟩ := run_app rowN hr5 hb0.size (S2.out.below hb0) (one2.out) (by simp only [maxLen]; omega) (by omega)
            refine wp_append_eq hrun3 _ _ rfl rfl rfl ?_
            replace hb0 := hb0.grown hg3 hb0.size (fun b hb => (hr5.lt b hb).1)
            have EN := Lib.hid (And.intro hr3 hb0)
            clear hrun3 hg3 hr5 hr3 hb0
            try dsimp only
            refine hK.out _ _ ?hS (fun hH' => ?_)
            case hS =>
              trivial
            clear hK K' hH; have hH := hH'; clear hH'; repeat simp only [Act.put, uA1, uB1, uC1]
            refine kY 12 hH ?_
            repeat simp only [Act.put, uA1, uB1, uC1]
            refine wpAnyH_done (by decide +kernel) ?_ _
            go_wp2_with fail
            go_ret
            exact PE.out _ _ EN.out.1 EN.out.2
        case b2_1 =>
          go_simp
          have he9 := (fun {W : World} (_ : Below w.heap.size w W) => heap_alloc_new W (.cells #[.int .u64 k] 36)) hb0
          try rw [show (W0.alloc (.cells #[] 36)).heap.size = W0.heap.size + 1 from by simp] at he9
          try have hne9 := (Nat.ne_of_lt (hr0.lt _ rfl).2).symm
          try replace hr0 := hr0.alloc (.cells #[.int .u64 k] 36)
          try replace hr2 := hr2.alloc (.cells #[.int .u64 k] 36)
          replace hb0 := hb0.alloc hb0.size (.cells #[.int .u64 k] 36)
          try dsimp only
          refine hK.out _ _ ?hS (fun hH' => ?_)
          case hS =>
            trivial
          clear hK K' hH; have hH := hH'; clear hH'; repeat simp only [Act.put, uA1, uB1, uC1]
          refine spk 0 rfl (by decide +kernel) (by rfl) (fun K' hK => ?_)
          go_simp
          have hr0 := own_empty _ w.heap.size 36 1 hb0.size
          try rw [show (W0.alloc (.cells #[.int .u64 k] 36)).heap.size = W0.heap.size + 1 from by simp] at hr0
          try have hne9 := Nat.ne_of_lt (lt_block he9)
          try replace he9 := (heap_alloc_old _ (.cells #[] 36) (lt_block he9)).trans he9
          replace hb0 := hb0.alloc hb0.size (.cells #[] 36)
          try dsimp only
          refine hK.out _ _ ?hS (fun hH' => ?_)
          case hS =>
            trivial
          clear hK K' hH; have hH := hH'; clear hH'; repeat simp only [Act.put, uA1, uB1, uC1]
          refine spk 4 rfl (by decide +kernel) (by rfl) (fun K' hK => ?_)
          obtain ⟨q2, n2, c2, w2, hrun2, hr2, hg2, -⟩ := run_app rowN hr0 hb0.size (S1.out.below hb0) (one1.out) (by simp only [maxLen]; omega) (by omega)
          refine wp_append_eq hrun2 _ _ rfl rfl rfl ?_
          try replace he9 := (hg2.block _ (lt_block he9) (by intro e; simp only [Value.ownBlock, Option.some.injEq] at e; first | exact hne9 e | omega)).trans he9
          replace hb0 := hb0.grown hg2 hb0.size (fun b hb => (hr0.lt b hb).1)
          simp only [Nat.zero_add, List.nil_append] at hr2
          clear hrun2 hg2 hr0
          try dsimp only
          refine hK.out _ _ ?hS (fun hH' => ?_)
          case hS =>
            trivial
          clear hK K' hH; have hH := hH'; clear hH'; repeat simp only [Act.put, uA1, uB1, uC1]
          refine spk 7 rfl (by decide +kernel) (by rfl) (fun K' hK => ?_)
          obtain ⟨g5, c5, w5, hrun5, hr5, hg5, -, -⟩ := run_push_at rowN hr2 hb0.size he9 rfl (by simp [Value.oneCell']) (by simp only [maxLen]; omega) (by omega)
          refine wp_append_eq hrun5 _ _ rfl rfl rfl ?_
          replace hb0 := hb0.grown hg5 hb0.size (fun b hb => (hr2.lt b hb).1)
          clear hrun5 hg5 hr2 he9
          try dsimp only
          refine hK.out _ _ ?hS (fun hH' => ?_)
          case hS =>
            trivial
          clear hK K' hH; have hH := hH'; clear hH'; repeat simp only [Act.put, uA1, uB1, uC1]
          refine spk 11 rfl (by decide +kernel) (by rfl) (fun K' hK => ?_)
          obtain ⟨q3, n3, c3, w3, hrun3, hr3, hg3, -⟩ := run_app rowN hr5 hb0.size (S2.out.below hb0) (one2.out) (by simp only [maxLen]; omega) (by omega)
          refine wp_append_eq hrun3 _ _ rfl rfl rfl ?_
          replace hb0 := hb0.grown hg3 hb0.size (fun b hb => (hr5.lt b hb).1)
          have EN := Lib.hid (And.intro hr3 hb0)
          clear hrun3 hg3 hr5 hr3 hb0
          try dsimp only
          refine hK.out _ _ ?hS (fun hH' => ?_)
          case hS =>
            trivial
          clear hK K' hH; have hH := hH'; clear hH'; repeat simp only [Act.put, uA1, uB1, uC1]
          refine kY 12 hH ?_
          repeat simp only [Act.put, uA1, uB1, uC1]
          refine wpAnyH_done (by decide +kernel) ?_ _
          go_wp2_with fail
          go_ret
          exact PE.out _ _ EN.out.1 EN.out.2
      · have S1 := Lib.hid (show SrcAt w (some ⟨g, 0, none⟩) j cap 1 ((l.take j).map (Value.int .u64)) from by
          have := HS.out.cut 0 j cap (by omega)
          simpa using this)
        have hne : ∀ h : j < l.length, ¬ l[j] < k := fun h hx => hgo ⟨h, hx⟩
        by_cases hcj : cap = j
        · obtain rfl : j = l.length := by omega
          subst hcj
          have S2 := Lib.hid (show SrcAt w (some ⟨g, 0, none⟩) 0 0 1 ((l.drop l.length).map (Value.int .u64)) from by
            rw [List.drop_length]
            exact SrcAt.none w _ 1 (.inr ⟨_, rfl⟩))
          replace PE := Lib.hid (by have := PE.out; rw [Nat.sub_self] at this; exact this)
          go_wp2_with fail
          obtain ⟨W0, hW0⟩ : ∃ W0, W0 = w.drew := ⟨_, rfl⟩
          have hb0 : Below w.heap.size w W0 := by rw [hW0]; exact (Below.refl _ _).drew
          have HW := Lib.hid hW0
          clear hW0
          refine region_go (fun _ => True) (by kernel_rfl) ?hS0 (fun hH => ?_)
          case hS0 =>
            trivial
          rw [← HW.out]
          refine kY 1 hH ?_
          repeat simp only [Act.put, uA1, uB1, uC1]
          refine kY 2 hH ?_
          repeat simp only [Act.put, uA1, uB1, uC1]
          refine kY 3 hH ?_
          repeat simp only [Act.put, uA1, uB1, uC1]
          refine kY 5 hH ?_
          repeat simp only [Act.put, uA1, uB1, uC1]
          refine kY 8 hH ?_
          repeat simp only [Act.put, uA1, uB1, uC1]
          refine kY 9 hH ?_
          repeat simp only [Act.put, uA1, uB1, uC1]
          refine kY 10 hH ?_
          repeat simp only [Act.put, uA1, uB1, uC1]
          refine spB 0 6 rfl rfl ?hr ?hw ?hv (fun K' hK => ?b1_1) (fun K' hK => ?b2_1)
          case hr => decide +kernel
          case hw => rfl
          case hv => rfl
          case b1_1 =>
            go_simp
            have hr0 := own_empty _ w.heap.size 36 1 hb0.size
            try rw [show (W0.alloc (.cells #[.int .u64 k] 36)).heap.size = W0.heap.size + 1 from by simp] at hr0
            try have hne9 := Nat.ne_of_lt (lt_block he9)
            try replace he9 := (heap_alloc_old _ (.cells #[] 36) (lt_block he9)).trans he9
            replace hb0 := hb0.alloc hb0.size (.cells #[] 36)
            try dsimp only
            refine hK.out _ _ ?hS (fun hH' => ?_)
            case hS =>
              trivial
            clear hK K' hH; have hH := hH'; clear hH'; repeat simp only [Act.put, uA1, uB1, uC1]
            refine spB 4 6 rfl rfl ?hr ?hw ?hv (fun K' hK => ?b1_2) (fun K' hK => ?b2_2)
            case hr => decide +kernel
            case hw => rfl
            case hv => rfl
            case b1_2 =>
              obtain ⟨q2, n2, c2, w2, hrun2, hr2, hg2, -⟩ := run_app rowN hr0 hb0.size (S1.out.below hb0) (one1.out) (by simp only [maxLen]; omega) (by omega)
              refine wp_append_eq hrun2 _ _ rfl rfl rfl ?_
              try replace he9 := (hg2.block _ (lt_block he9) (by intro e; simp only [Value.ownBlock, Option.some.injEq] at e; first | exact hne9 e | omega)).trans he9
              replace hb0 := hb0.grown hg2 hb0.size (fun b hb => (hr0.lt b hb).1)
              simp only [Nat.zero_add, List.nil_append] at hr2
              clear hrun2 hg2 hr0
              try dsimp only
              refine hK.out _ _ ?hS (fun hH' => ?_)
              case hS =>
                trivial
              clear hK K' hH; have hH := hH'; clear hH'; repeat simp only [Act.put, uA1, uB1, uC1]
              refine spk 6 rfl (by decide +kernel) (by rfl) (fun K' hK => ?_)
              go_simp
              have he9 := (fun {W : World} (_ : Below w.heap.size w W) => heap_alloc_new W (.cells #[.int .u64 k] 36)) hb0
              try rw [show (W0.alloc (.cells #[] 36)).heap.size = W0.heap.size + 1 from by simp] at he9
              try have hne9 := (Nat.ne_of_lt (hr0.lt _ rfl).2).symm
              try replace hr0 := hr0.alloc (.cells #[.int .u64 k] 36)
              try replace hr2 := hr2.alloc (.cells #[.int .u64 k] 36)
              replace hb0 := hb0.alloc hb0.size (.cells #[.int .u64 k] 36)
              try dsimp only
              refine hK.out _ _ ?hS (fun hH' => ?_)
              case hS =>
                trivial
              clear hK K' hH; have hH := hH'; clear hH'; repeat simp only [Act.put, uA1, uB1, uC1]
              refine spk 7 rfl (by decide +kernel) (by rfl) (fun K' hK => ?_)
              obtain ⟨g5, c5, w5, hrun5, hr5, hg5, -, -⟩ := run_push_at rowN hr2 hb0.size he9 rfl (by simp [Value.oneCell']) (by simp only [maxLen]; omega) (by omega)
              refine wp_append_eq hrun5 _ _ rfl rfl rfl ?_
              replace hb0 := hb0.grown hg5 hb0.size (fun b hb => (hr2.lt b hb).1)
              clear hrun5 hg5 hr2 he9
              try dsimp only
              refine hK.out _ _ ?hS (fun hH' => ?_)
              case hS =>
                trivial
              clear hK K' hH; have hH := hH'; clear hH'; repeat simp only [Act.put, uA1, uB1, uC1]
              refine spk 11 rfl (by decide +kernel) (by rfl) (fun K' hK => ?_)
              obtain ⟨q3, n3, c3, w3, hrun3, hr3, hg3, -⟩ := run_app rowN hr5 hb0.size (S2.out.below hb0) (one2.out) (by simp only [maxLen]; omega) (by omega)
              refine wp_append_eq hrun3 _ _ rfl rfl rfl ?_
              replace hb0 := hb0.grown hg3 hb0.size (fun b hb => (hr5.lt b hb).1)
              have EN := Lib.hid (And.intro hr3 hb0)
              clear hrun3 hg3 hr5 hr3 hb0
              try dsimp only
              refine hK.out _ _ ?hS (fun hH' => ?_)
              case hS =>
                trivial
              clear hK K' hH; have hH := hH'; clear hH'; repeat simp only [Act.put, uA1, uB1, uC1]
              refine kY 12 hH ?_
              repeat simp only [Act.put, uA1, uB1, uC1]
              refine wpAnyH_done (by decide +kernel) ?_ _
              go_wp2_with fail
              go_ret
              exact PE.out _ _ EN.out.1 EN.out.2
            case b2_2 =>
              go_simp
              have he9 := (fun {W : World} (_ : Below w.heap.size w W) => heap_alloc_new W (.cells #[.int .u64 k] 36)) hb0
              try rw [show (W0.alloc (.cells #[] 36)).heap.size = W0.heap.size + 1 from by simp] at he9
              try have hne9 := (Nat.ne_of_lt (hr0.lt _ rfl).2).symm
              try replace hr0 := hr0.alloc (.cells #[.int .u64 k] 36)
              try replace hr2 := hr2.alloc (.cells #[.int .u64 k] 36)
              replace hb0 := hb0.alloc hb0.size (.cells #[.int .u64 k] 36)
              try dsimp only
              refine hK.out _ _ ?hS (fun hH' => ?_)
              case hS =>
                trivial
              clear hK K' hH; have hH := hH'; clear hH'; repeat simp only [Act.put, uA1, uB1, uC1]
              refine spk 4 rfl (by decide +kernel) (by rfl) (fun K' hK => ?_)
              obtain ⟨q2, n2, c2, w2, hrun2, hr2, hg2, -⟩ := run_app rowN hr0 hb0.size (S1.out.below hb0) (one1.out) (by simp only [maxLen]; omega) (by omega)
              refine wp_append_eq hrun2 _ _ rfl rfl rfl ?_
              try replace he9 := (hg2.block _ (lt_block he9) (by intro e; simp only [Value.ownBlock, Option.some.injEq] at e; first | exact hne9 e | omega)).trans he9
              replace hb0 := hb0.grown hg2 hb0.size (fun b hb => (hr0.lt b hb).1)
              simp only [Nat.zero_add, List.nil_append] at hr2
              clear hrun2 hg2 hr0
              try dsimp only
              refine hK.out _ _ ?hS (fun hH' => ?_)
              case hS =>
                trivial
              clear hK K' hH; have hH := hH'; clear hH'; repeat simp only [Act.put, uA1, uB1, uC1]
              refine spk 7 rfl (by decide +kernel) (by rfl) (fun K' hK => ?_)
              obtain ⟨g5, c5, w5, hrun5, hr5, hg5, -, -⟩ := run_push_at rowN hr2 hb0.size he9 rfl (by simp [Value.oneCell']) (by simp only [maxLen]; omega) (by omega)
              refine wp_append_eq hrun5 _ _ rfl rfl rfl ?_
              replace hb0 := hb0.grown hg5 hb0.size (fun b hb => (hr2.lt b hb).1)
              clear hrun5 hg5 hr2 he9
              try dsimp only
              refine hK.out _ _ ?hS (fun hH' => ?_)
              case hS =>
                trivial
              clear hK K' hH; have hH := hH'; clear hH'; repeat simp only [Act.put, uA1, uB1, uC1]
              refine spk 11 rfl (by decide +kernel) (by rfl) (fun K' hK => ?_)
              obtain ⟨q3, n3, c3, w3, hrun3, hr3, hg3, -⟩ := run_app rowN hr5 hb0.size (S2.out.below hb0) (one2.out) (by simp only [maxLen]; omega) (by omega)
              refine wp_append_eq hrun3 _ _ rfl rfl rfl ?_
              replace hb0 := hb0.grown hg3 hb0.size (fun b hb => (hr5.lt b hb).1)
              have EN := Lib.hid (And.intro hr3 hb0)
              clear hrun3 hg3 hr5 hr3 hb0
              try dsimp only
              refine hK.out _ _ ?hS (fun hH' => ?_)
              case hS =>
                trivial
              clear hK K' hH; have hH := hH'; clear hH'; repeat simp only [Act.put, uA1, uB1, uC1]
              refine kY 12 hH ?_
              repeat simp only [Act.put, uA1, uB1, uC1]
              refine wpAnyH_done (by decide +kernel) ?_ _
              go_wp2_with fail
              go_ret
              exact PE.out _ _ EN.out.1 EN.out.2
          case b2_1 =>
            go_simp
            have he9 := (fun {W : World} (_ : Below w.heap.size w W) => heap_alloc_new W (.cells #[.int .u64 k] 36)) hb0
            try rw [show (W0.alloc (.cells #[] 36)).heap.size = W0.heap.size + 1 from by simp] at he9
            try have hne9 := (Nat.ne_of_lt (hr0.lt _ rfl).2).symm
            try replace hr0 := hr0.alloc (.cells #[.int .u64 k] 36)
            try replace hr2 := hr2.alloc (.cells #[.int .u64 k] 36)
            replace hb0 := hb0.alloc hb0.size (.cells #[.int .u64 k] 36)
            try dsimp only
            refine hK.out _ _ ?hS (fun hH' => ?_)
            case hS =>
              trivial
            clear hK K' hH; have hH := hH'; clear hH'; repeat simp only [Act.put, uA1, uB1, uC1]
            refine spk 0 rfl (by decide +kernel) (by rfl) (fun K' hK => ?_)
            go_simp
            have hr0 := own_empty _ w.heap.size 36 1 hb0.size
            try rw [show (W0.alloc (.cells #[.int .u64 k] 36)).heap.size = W0.heap.size + 1 from by simp] at hr0
            try have hne9 := Nat.ne_of_lt (lt_block he9)
            try replace he9 := (heap_alloc_old _ (.cells #[] 36) (lt_block he9)).trans he9
            replace hb0 := hb0.alloc hb0.size (.cells #[] 36)
            try dsimp only
            refine hK.out _ _ ?hS (fun hH' => ?_)
            case hS =>
              trivial
            clear hK K' hH; have hH := hH'; clear hH'; repeat simp only [Act.put, uA1, uB1, uC1]
            refine spk 4 rfl (by decide +kernel) (by rfl) (fun K' hK => ?_)
            obtain ⟨q2, n2, c2, w2, hrun2, hr2, hg2, -⟩ := run_app rowN hr0 hb0.size (S1.out.below hb0) (one1.out) (by simp only [maxLen]; omega) (by omega)
            refine wp_append_eq hrun2 _ _ rfl rfl rfl ?_
            try replace he9 := (hg2.block _ (lt_block he9) (by intro e; simp only [Value.ownBlock, Option.some.injEq] at e; first | exact hne9 e | omega)).trans he9
            replace hb0 := hb0.grown hg2 hb0.size (fun b hb => (hr0.lt b hb).1)
            simp only [Nat.zero_add, List.nil_append] at hr2
            clear hrun2 hg2 hr0
            try dsimp only
            refine hK.out _ _ ?hS (fun hH' => ?_)
            case hS =>
              trivial
            clear hK K' hH; have hH := hH'; clear hH'; repeat simp only [Act.put, uA1, uB1, uC1]
            refine spk 7 rfl (by decide +kernel) (by rfl) (fun K' hK => ?_)
            obtain ⟨g5, c5, w5, hrun5, hr5, hg5, -, -⟩ := run_push_at rowN hr2 hb0.size he9 rfl (by simp [Value.oneCell']) (by simp only [maxLen]; omega) (by omega)
            refine wp_append_eq hrun5 _ _ rfl rfl rfl ?_
            replace hb0 := hb0.grown hg5 hb0.size (fun b hb => (hr2.lt b hb).1)
            clear hrun5 hg5 hr2 he9
            try dsimp only
            refine hK.out _ _ ?hS (fun hH' => ?_)
            case hS =>
              trivial
            clear hK K' hH; have hH := hH'; clear hH'; repeat simp only [Act.put, uA1, uB1, uC1]
            refine spk 11 rfl (by decide +kernel) (by rfl) (fun K' hK => ?_)
            obtain ⟨q3, n3, c3, w3, hrun3, hr3, hg3, -⟩ := run_app rowN hr5 hb0.size (S2.out.below hb0) (one2.out) (by simp only [maxLen]; omega) (by omega)
            refine wp_append_eq hrun3 _ _ rfl rfl rfl ?_
            replace hb0 := hb0.grown hg3 hb0.size (fun b hb => (hr5.lt b hb).1)
            have EN := Lib.hid (And.intro hr3 hb0)
            clear hrun3 hg3 hr5 hr3 hb0
            try dsimp only
            refine hK.out _ _ ?hS (fun hH' => ?_)
            case hS =>
              trivial
            clear hK K' hH; have hH := hH'; clear hH'; repeat simp only [Act.put, uA1, uB1, uC1]
            refine kY 12 hH ?_
            repeat simp only [Act.put, uA1, uB1, uC1]
            refine wpAnyH_done (by decide +kernel) ?_ _
            go_wp2_with fail
            go_ret
            exact PE.out _ _ EN.out.1 EN.out.2
        · have S2 := Lib.hid (show SrcAt w (some ⟨g, j, none⟩) (l.length - j) (cap - j) 1 ((l.drop j).map (Value.int .u64)) from by
            have := HS.out.cut j (l.length - j) (cap - j) (by omega)
            rw [List.take_of_length_le (by simp)] at this
            simpa using this)
          have k3 : ¬ (cap : Int) = (j : Int) := by omega
          by_cases hlt : j < l.length
          · have hcell := HC.out j hlt
            obtain ⟨b, off, he, hcell⟩ := hcell
            obtain ⟨rfl, rfl⟩ : g = b ∧ 0 = off := by have := Option.some.inj he; cases this; exact ⟨rfl, rfl⟩
            have hn := hne hlt
            rw [Nat.zero_add] at hcell
            clear hne hgo
            go_wp2_with fail
            obtain ⟨W0, hW0⟩ : ∃ W0, W0 = w.drew := ⟨_, rfl⟩
            have hb0 : Below w.heap.size w W0 := by rw [hW0]; exact (Below.refl _ _).drew
            have HW := Lib.hid hW0
            clear hW0
            refine region_go (fun _ => True) (by kernel_rfl) ?hS0 (fun hH => ?_)
            case hS0 =>
              trivial
            rw [← HW.out]
            refine kY 1 hH ?_
            repeat simp only [Act.put, uA1, uB1, uC1]
            refine kY 2 hH ?_
            repeat simp only [Act.put, uA1, uB1, uC1]
            refine kY 3 hH ?_
            repeat simp only [Act.put, uA1, uB1, uC1]
            refine kY 5 hH ?_
            repeat simp only [Act.put, uA1, uB1, uC1]
            refine kY 8 hH ?_
            repeat simp only [Act.put, uA1, uB1, uC1]
            refine kY 9 hH ?_
            repeat simp only [Act.put, uA1, uB1, uC1]
            refine kY 10 hH ?_
            repeat simp only [Act.put, uA1, uB1, uC1]
            refine spB 0 6 rfl rfl ?hr ?hw ?hv (fun K' hK => ?b1_1) (fun K' hK => ?b2_1)
            case hr => decide +kernel
            case hw => rfl
            case hv => rfl
            case b1_1 =>
              go_simp
              have hr0 := own_empty _ w.heap.size 36 1 hb0.size
              try rw [show (W0.alloc (.cells #[.int .u64 k] 36)).heap.size = W0.heap.size + 1 from by simp] at hr0
              try have hne9 := Nat.ne_of_lt (lt_block he9)
              try replace he9 := (heap_alloc_old _ (.cells #[] 36) (lt_block he9)).trans he9
              replace hb0 := hb0.alloc hb0.size (.cells #[] 36)
              try dsimp only
              refine hK.out _ _ ?hS (fun hH' => ?_)
              case hS =>
                trivial
              clear hK K' hH; have hH := hH'; clear hH'; repeat simp only [Act.put, uA1, uB1, uC1]
              refine spB 4 6 rfl rfl ?hr ?hw ?hv (fun K' hK => ?b1_2) (fun K' hK => ?b2_2)
              case hr => decide +kernel
              case hw => rfl
              case hv => rfl
              case b1_2 =>
                obtain ⟨q2, n2, c2, w2, hrun2, hr2, hg2, -⟩ := run_app rowN hr0 hb0.size (S1.out.below hb0) (one1.out) (by simp only [maxLen]; omega) (by omega)
                refine wp_append_eq hrun2 _ _ rfl rfl rfl ?_
                try replace he9 := (hg2.block _ (lt_block he9) (by intro e; simp only [Value.ownBlock, Option.some.injEq] at e; first | exact hne9 e | omega)).trans he9
                replace hb0 := hb0.grown hg2 hb0.size (fun b hb => (hr0.lt b hb).1)
                simp only [Nat.zero_add, List.nil_append] at hr2
                clear hrun2 hg2 hr0
                try dsimp only
                refine hK.out _ _ ?hS (fun hH' => ?_)
                case hS =>
                  trivial
                clear hK K' hH; have hH := hH'; clear hH'; repeat simp only [Act.put, uA1, uB1, uC1]
                refine spk 6 rfl (by decide +kernel) (by rfl) (fun K' hK => ?_)
                go_simp
                have he9 := (fun {W : World} (_ : Below w.heap.size w W) => heap_alloc_new W (.cells #[.int .u64 k] 36)) hb0
                try rw [show (W0.alloc (.cells #[] 36)).heap.size = W0.heap.size + 1 from by simp] at he9
                try have hne9 := (Nat.ne_of_lt (hr0.lt _ rfl).2).symm
                try replace hr0 := hr0.alloc (.cells #[.int .u64 k] 36)
                try replace hr2 := hr2.alloc (.cells #[.int .u64 k] 36)
                replace hb0 := hb0.alloc hb0.size (.cells #[.int .u64 k] 36)
                try dsimp only
                refine hK.out _ _ ?hS (fun hH' => ?_)
                case hS =>
                  trivial
                clear hK K' hH; have hH := hH'; clear hH'; repeat simp only [Act.put, uA1, uB1, uC1]
                refine spk 7 rfl (by decide +kernel) (by rfl) (fun K' hK => ?_)
                obtain ⟨g5, c5, w5, hrun5, hr5, hg5, -, -⟩ := run_push_at rowN hr2 hb0.size he9 rfl (by simp [Value.oneCell']) (by simp only [maxLen]; omega) (by omega)
                refine wp_append_eq hrun5 _ _ rfl rfl rfl ?_
                replace hb0 := hb0.grown hg5 hb0.size (fun b hb => (hr2.lt b hb).1)
                clear hrun5 hg5 hr2 he9
                try dsimp only
                refine hK.out _ _ ?hS (fun hH' => ?_)
                case hS =>
                  trivial
                clear hK K' hH; have hH := hH'; clear hH'; repeat simp only [Act.put, uA1, uB1, uC1]
                refine spk 11 rfl (by decide +kernel) (by rfl) (fun K' hK => ?_)
                obtain ⟨q3, n3, c3, w3, hrun3, hr3, hg3, -⟩ := run_app rowN hr5 hb0.size (S2.out.below hb0) (one2.out) (by simp only [maxLen]; omega) (by omega)
                refine wp_append_eq hrun3 _ _ rfl rfl rfl ?_
                replace hb0 := hb0.grown hg3 hb0.size (fun b hb => (hr5.lt b hb).1)
                have EN := Lib.hid (And.intro hr3 hb0)
                clear hrun3 hg3 hr5 hr3 hb0
                try dsimp only
                refine hK.out _ _ ?hS (fun hH' => ?_)
                case hS =>
                  trivial
                clear hK K' hH; have hH := hH'; clear hH'; repeat simp only [Act.put, uA1, uB1, uC1]
                refine kY 12 hH ?_
                repeat simp only [Act.put, uA1, uB1, uC1]
                refine wpAnyH_done (by decide +kernel) ?_ _
                go_wp2_with fail
                go_ret
                exact PE.out _ _ EN.out.1 EN.out.2
              case b2_2 =>
                go_simp
                have he9 := (fun {W : World} (_ : Below w.heap.size w W) => heap_alloc_new W (.cells #[.int .u64 k] 36)) hb0
                try rw [show (W0.alloc (.cells #[] 36)).heap.size = W0.heap.size + 1 from by simp] at he9
                try have hne9 := (Nat.ne_of_lt (hr0.lt _ rfl).2).symm
                try replace hr0 := hr0.alloc (.cells #[.int .u64 k] 36)
                try replace hr2 := hr2.alloc (.cells #[.int .u64 k] 36)
                replace hb0 := hb0.alloc hb0.size (.cells #[.int .u64 k] 36)
                try dsimp only
                refine hK.out _ _ ?hS (fun hH' => ?_)
                case hS =>
                  trivial
                clear hK K' hH; have hH := hH'; clear hH'; repeat simp only [Act.put, uA1, uB1, uC1]
                refine spk 4 rfl (by decide +kernel) (by rfl) (fun K' hK => ?_)
                obtain ⟨q2, n2, c2, w2, hrun2, hr2, hg2, -⟩ := run_app rowN hr0 hb0.size (S1.out.below hb0) (one1.out) (by simp only [maxLen]; omega) (by omega)
                refine wp_append_eq hrun2 _ _ rfl rfl rfl ?_
                try replace he9 := (hg2.block _ (lt_block he9) (by intro e; simp only [Value.ownBlock, Option.some.injEq] at e; first | exact hne9 e | omega)).trans he9
                replace hb0 := hb0.grown hg2 hb0.size (fun b hb => (hr0.lt b hb).1)
                simp only [Nat.zero_add, List.nil_append] at hr2
                clear hrun2 hg2 hr0
                try dsimp only
                refine hK.out _ _ ?hS (fun hH' => ?_)
                case hS =>
                  trivial
                clear hK K' hH; have hH := hH'; clear hH'; repeat simp only [Act.put, uA1, uB1, uC1]
                refine spk 7 rfl (by decide +kernel) (by rfl) (fun K' hK => ?_)
                obtain ⟨g5, c5, w5, hrun5, hr5, hg5, -, -⟩ := run_push_at rowN hr2 hb0.size he9 rfl (by simp [Value.oneCell']) (by simp only [maxLen]; omega) (by omega)
                refine wp_append_eq hrun5 _ _ rfl rfl rfl ?_
                replace hb0 := hb0.grown hg5 hb0.size (fun b hb => (hr2.lt b hb).1)
                clear hrun5 hg5 hr2 he9
                try dsimp only
                refine hK.out _ _ ?hS (fun hH' => ?_)
                case hS =>
                  trivial
                clear hK K' hH; have hH := hH'; clear hH'; repeat simp only [Act.put, uA1, uB1, uC1]
                refine spk 11 rfl (by decide +kernel) (by rfl) (fun K' hK => ?_)
                obtain ⟨q3, n3, c3, w3, hrun3, hr3, hg3, -⟩ := run_app rowN hr5 hb0.size (S2.out.below hb0) (one2.out) (by simp only [maxLen]; omega) (by omega)
                refine wp_append_eq hrun3 _ _ rfl rfl rfl ?_
                replace hb0 := hb0.grown hg3 hb0.size (fun b hb => (hr5.lt b hb).1)
                have EN := Lib.hid (And.intro hr3 hb0)
                clear hrun3 hg3 hr5 hr3 hb0
                try dsimp only
                refine hK.out _ _ ?hS (fun hH' => ?_)
                case hS =>
                  trivial
                clear hK K' hH; have hH := hH'; clear hH'; repeat simp only [Act.put, uA1, uB1, uC1]
                refine kY 12 hH ?_
                repeat simp only [Act.put, uA1, uB1, uC1]
                refine wpAnyH_done (by decide +kernel) ?_ _
                go_wp2_with fail
                go_ret
                exact PE.out _ _ EN.out.1 EN.out.2
            case b2_1 =>
              go_simp
              have he9 := (fun {W : World} (_ : Below w.heap.size w W) => heap_alloc_new W (.cells #[.int .u64 k] 36)) hb0
              try rw [show (W0.alloc (.cells #[] 36)).heap.size = W0.heap.size + 1 from by simp] at he9
              try have hne9 := (Nat.ne_of_lt (hr0.lt _ rfl).2).symm
              try replace hr0 := hr0.alloc (.cells #[.int .u64 k] 36)
              try replace hr2 := hr2.alloc (.cells #[.int .u64 k] 36)
              replace hb0 := hb0.alloc hb0.size (.cells #[.int .u64 k] 36)
              try dsimp only
              refine hK.out _ _ ?hS (fun hH' => ?_)
              case hS =>
                trivial
              clear hK K' hH; have hH := hH'; clear hH'; repeat simp only [Act.put, uA1, uB1, uC1]
              refine spk 0 rfl (by decide +kernel) (by rfl) (fun K' hK => ?_)
              go_simp
              have hr0 := own_empty _ w.heap.size 36 1 hb0.size
              try rw [show (W0.alloc (.cells #[.int .u64 k] 36)).heap.size = W0.heap.size + 1 from by simp] at hr0
              try have hne9 := Nat.ne_of_lt (lt_block he9)
              try replace he9 := (heap_alloc_old _ (.cells #[] 36) (lt_block he9)).trans he9
              replace hb0 := hb0.alloc hb0.size (.cells #[] 36)
              try dsimp only
              refine hK.out _ _ ?hS (fun hH' => ?_)
              case hS =>
                trivial
              clear hK K' hH; have hH := hH'; clear hH'; repeat simp only [Act.put, uA1, uB1, uC1]
              refine spk 4 rfl (by decide +kernel) (by rfl) (fun K' hK => ?_)
              obtain ⟨q2, n2, c2, w2, hrun2, hr2, hg2, -⟩ := run_app rowN hr0 hb0.size (S1.out.below hb0) (one1.out) (by simp only [maxLen]; omega) (by omega)
              refine wp_append_eq hrun2 _ _ rfl rfl rfl ?_
              try replace he9 := (hg2.block _ (lt_block he9) (by intro e; simp only [Value.ownBlock, Option.some.injEq] at e; first | exact hne9 e | omega)).trans he9
              replace hb0 := hb0.grown hg2 hb0.size (fun b hb => (hr0.lt b hb).1)
              simp only [Nat.zero_add, List.nil_append] at hr2
              clear hrun2 hg2 hr0
              try dsimp only
              refine hK.out _ _ ?hS (fun hH' => ?_)
              case hS =>
                trivial
              clear hK K' hH; have hH := hH'; clear hH'; repeat simp only [Act.put, uA1, uB1, uC1]
              refine spk 7 rfl (by decide +kernel) (by rfl) (fun K' hK => ?_)
              obtain ⟨g5, c5, w5, hrun5, hr5, hg5, -, -⟩ := run_push_at rowN hr2 hb0.size he9 rfl (by simp [Value.oneCell']) (by simp only [maxLen]; omega) (by omega)
              refine wp_append_eq hrun5 _ _ rfl rfl rfl ?_
              replace hb0 := hb0.grown hg5 hb0.size (fun b hb => (hr2.lt b hb).1)
              clear hrun5 hg5 hr2 he9
              try dsimp only
              refine hK.out _ _ ?hS (fun hH' => ?_)
              case hS =>
                trivial
              clear hK K' hH; have hH := hH'; clear hH'; repeat simp only [Act.put, uA1, uB1, uC1]
              refine spk 11 rfl (by decide +kernel) (by rfl) (fun K' hK => ?_)
              obtain ⟨q3, n3, c3, w3, hrun3, hr3, hg3, -⟩ := run_app rowN hr5 hb0.size (S2.out.below hb0) (one2.out) (by simp only [maxLen]; omega) (by omega)
              refine wp_append_eq hrun3 _ _ rfl rfl rfl ?_
              replace hb0 := hb0.grown hg3 hb0.size (fun b hb => (hr5.lt b hb).1)
              have EN := Lib.hid (And.intro hr3 hb0)
              clear hrun3 hg3 hr5 hr3 hb0
              try dsimp only
              refine hK.out _ _ ?hS (fun hH' => ?_)
              case hS =>
                trivial
              clear hK K' hH; have hH := hH'; clear hH'; repeat simp only [Act.put, uA1, uB1, uC1]
              refine kY 12 hH ?_
              repeat simp only [Act.put, uA1, uB1, uC1]
              refine wpAnyH_done (by decide +kernel) ?_ _
              go_wp2_with fail
              go_ret
              exact PE.out _ _ EN.out.1 EN.out.2
          · obtain rfl : j = l.length := by omega
            rw [Nat.sub_self] at S2
            replace PE := Lib.hid (by have := PE.out; rw [Nat.sub_self] at this; exact this)
            clear hne hgo
            go_wp2_with fail
            obtain ⟨W0, hW0⟩ : ∃ W0, W0 = w.drew := ⟨_, rfl⟩
            have hb0 : Below w.heap.size w W0 := by rw [hW0]; exact (Below.refl _ _).drew
            have HW := Lib.hid hW0
            clear hW0
            refine region_go (fun _ => True) (by kernel_rfl) ?hS0 (fun hH => ?_)
            case hS0 =>
              trivial
            rw [← HW.out]
            refine kY 1 hH ?_
            repeat simp only [Act.put, uA1, uB1, uC1]
            refine kY 2 hH ?_
            repeat simp only [Act.put, uA1, uB1, uC1]
            refine kY 3 hH ?_
            repeat simp only [Act.put, uA1, uB1, uC1]
            refine kY 5 hH ?_
            repeat simp only [Act.put, uA1, uB1, uC1]
            refine kY 8 hH ?_
            repeat simp only [Act.put, uA1, uB1, uC1]
            refine kY 9 hH ?_
            repeat simp only [Act.put, uA1, uB1, uC1]
            refine kY 10 hH ?_
            repeat simp only [Act.put, uA1, uB1, uC1]
            refine spB 0 6 rfl rfl ?hr ?hw ?hv (fun K' hK => ?b1_1) (fun K' hK => ?b2_1)
            case hr => decide +kernel
            case hw => rfl
            case hv => rfl
            case b1_1 =>
              go_simp
              have hr0 := own_empty _ w.heap.size 36 1 hb0.size
              try rw [show (W0.alloc (.cells #[.int .u64 k] 36)).heap.size = W0.heap.size + 1 from by simp] at hr0
              try have hne9 := Nat.ne_of_lt (lt_block he9)
              try replace he9 := (heap_alloc_old _ (.cells #[] 36) (lt_block he9)).trans he9
              replace hb0 := hb0.alloc hb0.size (.cells #[] 36)
              try dsimp only
              refine hK.out _ _ ?hS (fun hH' => ?_)
              case hS =>
                trivial
              clear hK K' hH; have hH := hH'; clear hH'; repeat simp only [Act.put, uA1, uB1, uC1]
              refine spB 4 6 rfl rfl ?hr ?hw ?hv (fun K' hK => ?b1_2) (fun K' hK => ?b2_2)
              case hr => decide +kernel
              case hw => rfl
              case hv => rfl
              case b1_2 =>
                obtain ⟨q2, n2, c2, w2, hrun2, hr2, hg2, -⟩ := run_app rowN hr0 hb0.size (S1.out.below hb0) (one1.out) (by simp only [maxLen]; omega) (by omega)
                refine wp_append_eq hrun2 _ _ rfl rfl rfl ?_
                try replace he9 := (hg2.block _ (lt_block he9) (by intro e; simp only [Value.ownBlock, Option.some.injEq] at e; first | exact hne9 e | omega)).trans he9
                replace hb0 := hb0.grown hg2 hb0.size (fun b hb => (hr0.lt b hb).1)
                simp only [Nat.zero_add, List.nil_append] at hr2
                clear hrun2 hg2 hr0
                try dsimp only
                refine hK.out _ _ ?hS (fun hH' => ?_)
                case hS =>
                  trivial
                clear hK K' hH; have hH := hH'; clear hH'; repeat simp only [Act.put, uA1, uB1, uC1]
                refine spk 6 rfl (by decide +kernel) (by rfl) (fun K' hK => ?_)
                go_simp
                have he9 := (fun {W : World} (_ : Below w.heap.size w W) => heap_alloc_new W (.cells #[.int .u64 k] 36)) hb0
                try rw [show (W0.alloc (.cells #[] 36)).heap.size = W0.heap.size + 1 from by simp] at he9
                try have hne9 := (Nat.ne_of_lt (hr0.lt _ rfl).2).symm
                try replace hr0 := hr0.alloc (.cells #[.int .u64 k] 36)
                try replace hr2 := hr2.alloc (.cells #[.int .u64 k] 36)
                replace hb0 := hb0.alloc hb0.size (.cells #[.int .u64 k] 36)
                try dsimp only
                refine hK.out _ _ ?hS (fun hH' => ?_)
                case hS =>
                  trivial
                clear hK K' hH; have hH := hH'; clear hH'; repeat simp only [Act.put, uA1, uB1, uC1]
                refine spk 7 rfl (by decide +kernel) (by rfl) (fun K' hK => ?_)
                obtain ⟨g5, c5, w5, hrun5, hr5, hg5, -, -⟩ := run_push_at rowN hr2 hb0.size he9 rfl (by simp [Value.oneCell']) (by simp only [maxLen]; omega) (by omega)
                refine wp_append_eq hrun5 _ _ rfl rfl rfl ?_
                replace hb0 := hb0.grown hg5 hb0.size (fun b hb => (hr2.lt b hb).1)
                clear hrun5 hg5 hr2 he9
                try dsimp only
                refine hK.out _ _ ?hS (fun hH' => ?_)
                case hS =>
                  trivial
                clear hK K' hH; have hH := hH'; clear hH'; repeat simp only [Act.put, uA1, uB1, uC1]
                refine spk 11 rfl (by decide +kernel) (by rfl) (fun K' hK => ?_)
                obtain ⟨q3, n3, c3, w3, hrun3, hr3, hg3, -⟩ := run_app rowN hr5 hb0.size (S2.out.below hb0) (one2.out) (by simp only [maxLen]; omega) (by omega)
                refine wp_append_eq hrun3 _ _ rfl rfl rfl ?_
                replace hb0 := hb0.grown hg3 hb0.size (fun b hb => (hr5.lt b hb).1)
                have EN := Lib.hid (And.intro hr3 hb0)
                clear hrun3 hg3 hr5 hr3 hb0
                try dsimp only
                refine hK.out _ _ ?hS (fun hH' => ?_)
                case hS =>
                  trivial
                clear hK K' hH; have hH := hH'; clear hH'; repeat simp only [Act.put, uA1, uB1, uC1]
                refine kY 12 hH ?_
                repeat simp only [Act.put, uA1, uB1, uC1]
                refine wpAnyH_done (by decide +kernel) ?_ _
                go_wp2_with fail
                go_ret
                exact PE.out _ _ EN.out.1 EN.out.2
              case b2_2 =>
                go_simp
                have he9 := (fun {W : World} (_ : Below w.heap.size w W) => heap_alloc_new W (.cells #[.int .u64 k] 36)) hb0
                try rw [show (W0.alloc (.cells #[] 36)).heap.size = W0.heap.size + 1 from by simp] at he9
                try have hne9 := (Nat.ne_of_lt (hr0.lt _ rfl).2).symm
                try replace hr0 := hr0.alloc (.cells #[.int .u64 k] 36)
                try replace hr2 := hr2.alloc (.cells #[.int .u64 k] 36)
                replace hb0 := hb0.alloc hb0.size (.cells #[.int .u64 k] 36)
                try dsimp only
                refine hK.out _ _ ?hS (fun hH' => ?_)
                case hS =>
                  trivial
                clear hK K' hH; have hH := hH'; clear hH'; repeat simp only [Act.put, uA1, uB1, uC1]
                refine spk 4 rfl (by decide +kernel) (by rfl) (fun K' hK => ?_)
                obtain ⟨q2, n2, c2, w2, hrun2, hr2, hg2, -⟩ := run_app rowN hr0 hb0.size (S1.out.below hb0) (one1.out) (by simp only [maxLen]; omega) (by omega)
                refine wp_append_eq hrun2 _ _ rfl rfl rfl ?_
                try replace he9 := (hg2.block _ (lt_block he9) (by intro e; simp only [Value.ownBlock, Option.some.injEq] at e; first | exact hne9 e | omega)).trans he9
                replace hb0 := hb0.grown hg2 hb0.size (fun b hb => (hr0.lt b hb).1)
                simp only [Nat.zero_add, List.nil_append] at hr2
                clear hrun2 hg2 hr0
                try dsimp only
                refine hK.out _ _ ?hS (fun hH' => ?_)
                case hS =>
                  trivial
                clear hK K' hH; have hH := hH'; clear hH'; repeat simp only [Act.put, uA1, uB1, uC1]
                refine spk 7 rfl (by decide +kernel) (by rfl) (fun K' hK => ?_)
                obtain ⟨g5, c5, w5, hrun5, hr5, hg5, -, -⟩ := run_push_at rowN hr2 hb0.size he9 rfl (by simp [Value.oneCell']) (by simp only [maxLen]; omega) (by omega)
                refine wp_append_eq hrun5 _ _ rfl rfl rfl ?_
                replace hb0 := hb0.grown hg5 hb0.size (fun b hb => (hr2.lt b hb).1)
                clear hrun5 hg5 hr2 he9
                try dsimp only
                refine hK.out _ _ ?hS (fun hH' => ?_)
                case hS =>
                  trivial
                clear hK K' hH; have hH := hH'; clear hH'; repeat simp only [Act.put, uA1, uB1, uC1]
                refine spk 11 rfl (by decide +kernel) (by rfl) (fun K' hK => ?_)
                obtain ⟨q3, n3, c3, w3, hrun3, hr3, hg3, -⟩ := run_app rowN hr5 hb0.size (S2.out.below hb0) (one2.out) (by simp only [maxLen]; omega) (by omega)
                refine wp_append_eq hrun3 _ _ rfl rfl rfl ?_
                replace hb0 := hb0.grown hg3 hb0.size (fun b hb => (hr5.lt b hb).1)
                have EN := Lib.hid (And.intro hr3 hb0)
                clear hrun3 hg3 hr5 hr3 hb0
                try dsimp only
                refine hK.out _ _ ?hS (fun hH' => ?_)
                case hS =>
                  trivial
                clear hK K' hH; have hH := hH'; clear hH'; repeat simp only [Act.put, uA1, uB1, uC1]
                refine kY 12 hH ?_
                repeat simp only [Act.put, uA1, uB1, uC1]
                refine wpAnyH_done (by decide +kernel) ?_ _
                go_wp2_with fail
                go_ret
                exact PE.out _ _ EN.out.1 EN.out.2
            case b2_1 =>
              go_simp
              have he9 := (fun {W : World} (_ : Below w.heap.size w W) => heap_alloc_new W (.cells #[.int .u64 k] 36)) hb0
              try rw [show (W0.alloc (.cells #[] 36)).heap.size = W0.heap.size + 1 from by simp] at he9
              try have hne9 := (Nat.ne_of_lt (hr0.lt _ rfl).2).symm
              try replace hr0 := hr0.alloc (.cells #[.int .u64 k] 36)
              try replace hr2 := hr2.alloc (.cells #[.int .u64 k] 36)
              replace hb0 := hb0.alloc hb0.size (.cells #[.int .u64 k] 36)
              try dsimp only
              refine hK.out _ _ ?hS (fun hH' => ?_)
              case hS =>
                trivial
              clear hK K' hH; have hH := hH'; clear hH'; repeat simp only [Act.put, uA1, uB1, uC1]
              refine spk 0 rfl (by decide +kernel) (by rfl) (fun K' hK => ?_)
              go_simp
              have hr0 := own_empty _ w.heap.size 36 1 hb0.size
              try rw [show (W0.alloc (.cells #[.int .u64 k] 36)).heap.size = W0.heap.size + 1 from by simp] at hr0
              try have hne9 := Nat.ne_of_lt (lt_block he9)
              try replace he9 := (heap_alloc_old _ (.cells #[] 36) (lt_block he9)).trans he9
              replace hb0 := hb0.alloc hb0.size (.cells #[] 36)
              try dsimp only
              refine hK.out _ _ ?hS (fun hH' => ?_)
              case hS =>
                trivial
              clear hK K' hH; have hH := hH'; clear hH'; repeat simp only [Act.put, uA1, uB1, uC1]
              refine spk 4 rfl (by decide +kernel) (by rfl) (fun K' hK => ?_)
              obtain ⟨q2, n2, c2, w2, hrun2, hr2, hg2, -⟩ := run_app rowN hr0 hb0.size (S1.out.below hb0) (one1.out) (by simp only [maxLen]; omega) (by omega)
              refine wp_append_eq hrun2 _ _ rfl rfl rfl ?_
              try replace he9 := (hg2.block _ (lt_block he9) (by intro e; simp only [Value.ownBlock, Option.some.injEq] at e; first | exact hne9 e | omega)).trans he9
              replace hb0 := hb0.grown hg2 hb0.size (fun b hb => (hr0.lt b hb).1)
              simp only [Nat.zero_add, List.nil_append] at hr2
              clear hrun2 hg2 hr0
              try dsimp only
              refine hK.out _ _ ?hS (fun hH' => ?_)
              case hS =>
                trivial
              clear hK K' hH; have hH := hH'; clear hH'; repeat simp only [Act.put, uA1, uB1, uC1]
              refine spk 7 rfl (by decide +kernel) (by rfl) (fun K' hK => ?_)
              obtain ⟨g5, c5, w5, hrun5, hr5, hg5, -, -⟩ := run_push_at rowN hr2 hb0.size he9 rfl (by simp [Value.oneCell']) (by simp only [maxLen]; omega) (by omega)
              refine wp_append_eq hrun5 _ _ rfl rfl rfl ?_
              replace hb0 := hb0.grown hg5 hb0.size (fun b hb => (hr2.lt b hb).1)
              clear hrun5 hg5 hr2 he9
              try dsimp only
              refine hK.out _ _ ?hS (fun hH' => ?_)
              case hS =>
                trivial
              clear hK K' hH; have hH := hH'; clear hH'; repeat simp only [Act.put, uA1, uB1, uC1]
              refine spk 11 rfl (by decide +kernel) (by rfl) (fun K' hK => ?_)
              obtain ⟨q3, n3, c3, w3, hrun3, hr3, hg3, -⟩ := run_app rowN hr5 hb0.size (S2.out.below hb0) (one2.out) (by simp only [maxLen]; omega) (by omega)
              refine wp_append_eq hrun3 _ _ rfl rfl rfl ?_
              replace hb0 := hb0.grown hg3 hb0.size (fun b hb => (hr5.lt b hb).1)
              have EN := Lib.hid (And.intro hr3 hb0)
              clear hrun3 hg3 hr5 hr3 hb0
              try dsimp only
              refine hK.out _ _ ?hS (fun hH' => ?_)
              case hS =>
                trivial
              clear hK K' hH; have hH := hH'; clear hH'; repeat simp only [Act.put, uA1, uB1, uC1]
              refine kY 12 hH ?_
              repeat simp only [Act.put, uA1, uB1, uC1]
              refine wpAnyH_done (by decide +kernel) ?_ _
              go_wp2_with fail
              go_ret
              exact PE.out _ _ EN.out.1 EN.out.2

end Go.Proofs.YtpjbkaibgajpcaaGreat
