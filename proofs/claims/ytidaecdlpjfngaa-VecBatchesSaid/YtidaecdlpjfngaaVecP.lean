/-
  Whether ops are a batch does not hang on their order.
-/
import Derived.Test.YtidaecdlpjfngaaVecO
import Derived.Test.YtidaecdlpjfngaaStore
namespace Go.Proofs.Ytidaecdlpjfngaa
open Go.RowKit

theorem checkZ_perm (dim : Int) {l m : List (Int × List Int)} (h : l.Perm m) : checkZ dim l = checkZ dim m := by
  unfold checkZ bodyZ
  have h1 := h.length_eq
  have h2 : l.any (opBad dim) = m.any (opBad dim) := by
    rw [Bool.eq_iff_iff, List.any_eq_true, List.any_eq_true]
    exact ⟨fun ⟨x, hx, hp⟩ => ⟨x, h.mem_iff.1 hx, hp⟩, fun ⟨x, hx, hp⟩ => ⟨x, h.mem_iff.2 hx, hp⟩⟩
  have h3 : (l.map (·.1)).Nodup ↔ (m.map (·.1)).Nodup := (h.map _).nodup_iff
  rw [h1, h2]
  simp only [h3]

theorem perm_swap {α : Type} (l : List α) (i j : Nat) (hi : i < l.length) (hj : j < l.length) : ((l.set i l[j]).set j l[i]).Perm l := List.set_set_perm hi hj

theorem Held2.swap {w : World} {B E : Nat} {rs : List (Int × Value)} {ls : List (Int × List Int)} (h : Held2 w B E rs ls) (i j : Nat) (hi : i < rs.length) (hj : j < rs.length) (hi' : i < ls.length) (hj' : j < ls.length) :
    Held2 w B E ((rs.set i rs[j]).set j rs[i]) ((ls.set i ls[j]).set j ls[i]) := by
  refine ⟨by simp [h.len], fun k h1 h2 => ?_, ?_⟩
  · simp only [List.length_set] at h1 h2
    simp only [List.getElem_set]
    by_cases hjk : j = k
    · simp only [hjk, if_true]; exact h.own i hi hi'
    · by_cases hik : i = k
      · simp only [hjk, if_false, hik, if_true]; exact h.own j hj hj'
      · simp only [hjk, if_false, hik]; exact h.own k h1 h2
  · refine (perm_swap rs i j hi hj).symm.pairwise h.apart ?_
    intro x y hxy
    cases hy : y.2.ownBlock with
    | none => exact .inl rfl
    | some b =>
      right
      rw [hy] at hxy
      rcases hxy with hx | hx
      · rw [hx]; simp
      · exact fun e => hx e.symm

/-- what stands after a swap -/
def Swapped (w0 w' : World) (B e E : Nat) (v : Value) (n : Nat) (ls : List (Int × List Int)) : Prop :=
  ∃ rs' ls', rs'.length = n ∧ ls'.Perm ls ∧ w'.ownsRow B e 2 v rs'.length (flat2 rs') ∧ Held2 w' B E rs' ls' ∧ Below B w0 w'

theorem swap_step {w0 wr : World} {B e E : Nat} {v : Value} {g : Nat} {rs : List (Int × Value)} {ls : List (Int × List Int)} (hown : wr.ownsRow B e 2 v rs.length (flat2 rs)) (hheld : Held2 wr B E rs ls) (hb : Below B w0 wr) (hB : B ≤ wr.heap.size)
    (hg : v.ownBlock = some g) (hne : E ≠ e) (i j : Nat) (hi : i < rs.length) (hj : j < rs.length) :
    Swapped w0 ((wr.setCells g (i * 2) [.int .u64 rs[j].1, rs[j].2]).setCells g (j * 2) [.int .u64 rs[i].1, rs[i].2]) B e E v rs.length ls := by
  have hi' : i < ls.length := by rw [← hheld.len]; exact hi
  have hj' : j < ls.length := by rw [← hheld.len]; exact hj
  have o1 := own_setCells hg [.int .u64 rs[j].1, rs[j].2] (i * 2) wr _ hown (by simp; omega)
  have g1 := grownBy_setCells g [.int .u64 rs[j].1, rs[j].2] (i * 2) wr
  rw [setAt_flat2] at o1
  have h1 := hheld.other hown hne (by rw [hg]; exact g1)
  have b1 := hb.grown (by rw [hg]; exact g1) hB (fun b hbk => (hown.lt b hbk).1)
  have s1 := heap_size_setCells g [.int .u64 rs[j].1, rs[j].2] (i * 2) wr
  generalize wr.setCells g (i * 2) [.int .u64 rs[j].1, rs[j].2] = w1 at *
  have o2 := own_setCells hg [.int .u64 rs[i].1, rs[i].2] (j * 2) w1 _ o1 (by simp; omega)
  have g2 := grownBy_setCells g [.int .u64 rs[i].1, rs[i].2] (j * 2) w1
  rw [setAt_flat2] at o2
  have h2 := h1.other o1 hne (by rw [hg]; exact g2)
  have b2 := b1.grown (by rw [hg]; exact g2) (by omega) (fun b hbk => (o1.lt b hbk).1)
  refine ⟨(rs.set i rs[j]).set j rs[i], _, by simp, perm_swap ls i j hi' hj', ?_, h2.swap i j hi hj hi' hj', b2⟩
  simpa using o2

theorem range2 {w : World} {B e n : Nat} {v : Value} {g : Nat} {rs : List (Int × Value)} (h : w.ownsRow B e 2 v n (flat2 rs)) (hg : v.ownBlock = some g) (i : Nat) (hi : i < rs.length) : w.rangeAt g (i * 2) [.int .u64 rs[i].1, rs[i].2] := by
  refine own_rangeAt h hg _ _ fun j u hj => ?_
  have := flat2_get rs i hi
  match j, hj with
  | 0, hj => rw [Nat.add_zero, this.1]; simpa using hj
  | 1, hj => rw [this.2]; simpa using hj
  | (k + 2), hj => simp at hj

theorem own_form2 {w : World} {base e size n : Nat} {v : Value} {xs : List Value} (h : w.ownsRow base e size v n xs) : ∃ p c, v = .slice p n c ∧ (0 < n → ∃ g, p = some ⟨g, 0, none⟩) ∧ (n ≤ c ∧ c ≤ 9223372036854775807) := by
  obtain ⟨_, ⟨rfl, rfl⟩ | ⟨b, cap, cur, rfl, _, _, hn, hc, _⟩⟩ := h
  · exact ⟨none, 0, rfl, fun h => absurd h (by omega), by omega⟩
  · exact ⟨_, cap, rfl, fun _ => ⟨b, rfl⟩, by simpa [maxLen] using ⟨hn, hc⟩⟩

theorem one_pair {w : World} {B e size n : Nat} {x : Int} {u : Value} {xs : List Value} (h : w.ownsRow B e size u n xs) : (#[Value.int .u64 x, u] : Array Value).all (·.oneCell') = true := by
  obtain ⟨q, m, c, rfl⟩ := own_form h
  simp [Value.oneCell']

set_option maxHeartbeats 1000000 in
theorem vecBatches (dim : Int) (l : List (Int × List Int)) (v : Value) (os : List Int) (ov : Value) (w : World) (h : Recs w v l) (ho : Nums w .u8 ov os) (hwf : ∀ y ∈ os, (Lit.int .u8 y).wf = true) :
    Calls Try.prog 10 #[.int .i64 dim, v, ov] w fun e w' => e = .returned (.bool true) ∧ Below w.heap.size w w' := by
  have H := Lib.hid h
  have O := Lib.hid ho
  clear h ho
  go_enter Try.func10, Try.ntmps10
  go_wp2_with fail
  refine (awake_true _).mono ?_
  rintro e w1 ⟨rfl, hb1⟩
  have B1 := Lib.hid hb1
  clear hb1
  go_wp2_with fail
  refine (few l _ w1 (H.out.below B1.out)).mono ?_
  rintro e w2 ⟨a, rs, rfl, ho1, hh1, hb2⟩
  have A1 := Lib.hid (Recs.of_own ho1 hh1)
  have B2 := Lib.hid (B1.out.trans (hb2.mono B1.out.size))
  have H2 := Lib.hid ((H.out.below B1.out).below hb2)
  have O2 := Lib.hid ((O.out.below B1.out).below hb2)
  clear ho1 hh1 hb2
  go_wp2_with fail
  refine (few l _ w2 H2.out).mono ?_
  rintro e w3 ⟨b, rs', rfl, ho2, hh2, hb3⟩
  have hm : (fewZ 20 l).length ≤ 20 := by rw [fewZ_length]; omega
  generalize fewZ 20 l = m at *
  obtain ⟨p, c, rfl, hp, hcc⟩ := own_form2 ho2
  obtain ⟨q, cap', rfl, hcap', hbig', -, -⟩ := O2.out.slice
  have hn20 : rs'.length ≤ 20 := by have := hh2.len; omega
  obtain ⟨n, hn⟩ : ∃ n, rs'.length = n := ⟨_, rfl⟩
  have R := Lib.hid (And.intro hn (And.intro ho2 (And.intro hh2 hb3)))
  rw [hn] at hn20 hp hcc
  rw [hn]
  clear ho2 hh2 hb3 hn hm
  go_wp2_with fail
  go_loopg [19] n (fun q' i wr => ∃ (k : Nat) (ss : List (Int × Value)) (ls : List (Int × List Int)), q' = n - k ∧ k ≤ n ∧ i = .int .i64 k ∧ ss.length = n ∧ ls.Perm m ∧ wr.ownsRow w2.heap.size 51 2 (.slice p n c) ss.length (flat2 ss) ∧ Held2 wr w2.heap.size 21 ss ls ∧ Below w2.heap.size w2 wr)
  case atStart =>
    obtain ⟨hn, ho2, hh2, hb3⟩ := R.out
    exact ⟨0, rs', m, rfl, by omega, rfl, hn, List.Perm.refl _, by rw [hn] at ho2 ⊢; exact ho2, hh2, hb3⟩
  case round =>
    obtain ⟨k, ss, ls, rfl, hk, rfl, hlen, hperm, hown, hheld, hb⟩ := hrel
    by_cases hlt : k < n
    · obtain ⟨g, rfl⟩ := hp (by omega)
      have hk0 : ((k : Int) < (n : Int)) := by omega
      by_cases ho : k < os.length
      · obtain ⟨b', off', hq, hcell⟩ := (O2.out.below hb).elem ho
        subst hq
        have hy := hwf _ (List.getElem_mem ho)
        simp [Lit.wf, IntKind.min, IntKind.max, IntKind.signed, IntKind.bits] at hy
        have hn0 : (n : Int) ≠ 0 := by omega
        obtain ⟨j, hj, hjn⟩ : ∃ j : Nat, os[k].tmod n = (j : Int) ∧ j < n := by
          have h1 := Int.tmod_nonneg (n : Int) hy.1
          have h2 := Int.tmod_lt_of_pos os[k] (show (0 : Int) < n by omega)
          exact ⟨(os[k].tmod n).toNat, by omega, by omega⟩
        have hks : k < ss.length := by omega
        have hjs : j < ss.length := by omega
        have r1 := range2 hown rfl k hks
        have r2 := range2 hown rfl j hjs
        have t1 := own_there hown rfl (k * 2) 2 (by omega)
        have t2 := own_there hown rfl (j * 2) 2 (by omega)
        have oj : (#[Value.int .u64 ss[j].1, ss[j].2] : Array Value).all (·.oneCell') = true := one_pair (hheld.own j hjs (by rw [← hheld.len]; exact hjs)).2
        have ok : (#[Value.int .u64 ss[k].1, ss[k].2] : Array Value).all (·.oneCell') = true := one_pair (hheld.own k hks (by rw [← hheld.len]; exact hks)).2
        have F := Lib.hid (swap_step (wr := wr.drew) hown (hheld.below (Below.refl _ wr).drew) hb.drew hb.size rfl (by decide) k j hks hjs)
        have L := Lib.hid hlen
        have P := Lib.hid hperm
        clear hown hheld hb hlen hperm
        go_wp2_with fail
        refine region_go (fun _ => True) (by kernel_rfl) ?hS0 (fun hH => ?_)
        case hS0 =>
          trivial
        refine tkY (v := ?_) 0 hH rfl (fun _ _ _ h => h) ?hc ?hw ?hy ?_
        case hc => decide +kernel
        case hw => rfl
        case hy => (intro w hS; (try dsimp only at hS); go_simp; try with_reducible rfl)
        (try simp only [Act.put]); (repeat (first | simp only [List.setIfInBounds_toArray] | simp only [List.set_cons_zero] | simp only [List.set_cons_succ]))
        refine tkY (v := ?_) 1 hH rfl (fun _ _ _ h => h) ?hc ?hw ?hy ?_
        case hc => decide +kernel
        case hw => rfl
        case hy => (intro w hS; (try dsimp only at hS); go_simp; try with_reducible rfl)
        (try simp only [Act.put]); (repeat (first | simp only [List.setIfInBounds_toArray] | simp only [List.set_cons_zero] | simp only [List.set_cons_succ]))
        refine tkY (v := ?_) 2 hH rfl (fun _ _ _ h => h) ?hc ?hw ?hy ?_
        case hc => decide +kernel
        case hw => rfl
        case hy => (intro w hS; (try dsimp only at hS); go_simp; try with_reducible rfl)
        (try simp only [Act.put]); (repeat (first | simp only [List.setIfInBounds_toArray] | simp only [List.set_cons_zero] | simp only [List.set_cons_succ]))
        refine tkY (v := ?_) 3 hH rfl (fun _ _ _ h => h) ?hc ?hw ?hy ?_
        case hc => decide +kernel
        case hw => rfl
        case hy => (intro w hS; (try dsimp only at hS); go_simp; try with_reducible rfl)
        (try simp only [Act.put]); (repeat (first | simp only [List.setIfInBounds_toArray] | simp only [List.set_cons_zero] | simp only [List.set_cons_succ]))
        refine tkY (v := ?_) 4 hH rfl (fun _ _ _ h => h) ?hc ?hw ?hy ?_
        case hc => decide +kernel
        case hw => rfl
        case hy => (intro w hS; (try dsimp only at hS); go_simp; try with_reducible rfl)
        (try simp only [Act.put]); (repeat (first | simp only [List.setIfInBounds_toArray] | simp only [List.set_cons_zero] | simp only [List.set_cons_succ]))
        refine tkY (v := ?_) 5 hH rfl (fun _ _ _ h => h) ?hc ?hw ?hy ?_
        case hc => decide +kernel
        case hw => rfl
        case hy => (intro w hS; (try dsimp only at hS); go_simp; try with_reducible rfl)
        (try simp only [Act.put]); (repeat (first | simp only [List.setIfInBounds_toArray] | simp only [List.set_cons_zero] | simp only [List.set_cons_succ]))
        refine tkY (v := ?_) 6 hH rfl (fun _ _ _ h => h) ?hc ?hw ?hy ?_
        case hc => decide +kernel
        case hw => rfl
        case hy => (intro w hS; (try dsimp only at hS); go_simp; try with_reducible rfl)
        (try simp only [Act.put]); (repeat (first | simp only [List.setIfInBounds_toArray] | simp only [List.set_cons_zero] | simp only [List.set_cons_succ]))
        refine tkY (v := ?_) 8 hH rfl (fun _ _ _ h => h) ?hc ?hw ?hy ?_
        case hc => decide +kernel
        case hw => rfl
        case hy => (intro w hS; (try dsimp only at hS); go_simp; try with_reducible rfl)
        (try simp only [Act.put]); (repeat (first | simp only [List.setIfInBounds_toArray] | simp only [List.set_cons_zero] | simp only [List.set_cons_succ]))
        refine tkY (v := ?_) 9 hH rfl (fun _ _ _ h => h) ?hc ?hw ?hy ?_
        case hc => decide +kernel
        case hw => rfl
        case hy => (intro w hS; (try dsimp only at hS); go_simp; try with_reducible rfl)
        (try simp only [Act.put]); (repeat (first | simp only [List.setIfInBounds_toArray] | simp only [List.set_cons_zero] | simp only [List.set_cons_succ]))
        refine tkY (v := ?_) 10 hH rfl (fun _ _ _ h => h) ?hc ?hw ?hy ?_
        case hc => decide +kernel
        case hw => rfl
        case hy => (intro w hS; (try dsimp only at hS); go_simp; try with_reducible rfl)
        (try simp only [Act.put]); (repeat (first | simp only [List.setIfInBounds_toArray] | simp only [List.set_cons_zero] | simp only [List.set_cons_succ]))
        refine spB 7 11 rfl rfl ?hr ?hw ?hv (fun K' hK => ?b1) (fun K' hK => ?b2)
        case hr => decide +kernel
        case hw => rfl
        case hv => rfl
        case b1 =>
          refine wp_load_mid 51 _ rfl g (j * 2) (by rfl) [.int .u64 ss[j].1, ss[j].2] _ (by exact r2) Try.underlying51 rfl (by kernel_rfl) ?_
          try dsimp only
          refine hK.out _ _ ?hS (fun hH' => ?_)
          case hS =>
            trivial
          clear hK K' hH; have hH := hH'; clear hH'; (try simp only [Act.put]); (repeat (first | simp only [List.setIfInBounds_toArray] | simp only [List.set_cons_zero] | simp only [List.set_cons_succ]))
          refine spk 11 rfl ?hr ?hw (fun K' hK => ?_)
          case hr => decide +kernel
          case hw => rfl
          refine wp_load_mid 51 _ rfl g (k * 2) (by rfl) [.int .u64 ss[k].1, ss[k].2] _ (by exact r1) Try.underlying51 rfl (by kernel_rfl) ?_
          try dsimp only
          refine hK.out _ _ ?hS (fun hH' => ?_)
          case hS =>
            trivial
          clear hK K' hH; have hH := hH'; clear hH'; (try simp only [Act.put]); (repeat (first | simp only [List.setIfInBounds_toArray] | simp only [List.set_cons_zero] | simp only [List.set_cons_succ]))
          refine tkY (v := ?_) 12 hH rfl (fun _ _ _ h => h) ?hc ?hw ?hy ?_
          case hc => decide +kernel
          case hw => rfl
          case hy => (intro w hS; (try dsimp only at hS); go_simp; try with_reducible rfl)
          (try simp only [Act.put]); (repeat (first | simp only [List.setIfInBounds_toArray] | simp only [List.set_cons_zero] | simp only [List.set_cons_succ]))
          refine spk 13 rfl ?hr ?hw (fun K' hK => ?_)
          case hr => decide +kernel
          case hw => rfl
          refine wp_store_mid 51 _ _ rfl g (k * 2) #[.int .u64 ss[j].1, ss[j].2] (by rfl) (by rfl) (by exact t1) (by kernel_rfl) (by exact oj) ?_
          try dsimp only
          refine hK.out _ _ ?hS (fun hH' => ?_)
          case hS =>
            trivial
          clear hK K' hH; have hH := hH'; clear hH'; (try simp only [Act.put]); (repeat (first | simp only [List.setIfInBounds_toArray] | simp only [List.set_cons_zero] | simp only [List.set_cons_succ]))
          refine tkY (v := ?_) 14 hH rfl (fun _ _ _ h => h) ?hc ?hw ?hy ?_
          case hc => decide +kernel
          case hw => rfl
          case hy => (intro w hS; (try dsimp only at hS); go_simp; try with_reducible rfl)
          (try simp only [Act.put]); (repeat (first | simp only [List.setIfInBounds_toArray] | simp only [List.set_cons_zero] | simp only [List.set_cons_succ]))
          refine spk 15 rfl ?hr ?hw (fun K' hK => ?_)
          case hr => decide +kernel
          case hw => rfl
          refine wp_store_mid 51 _ _ rfl g (j * 2) #[.int .u64 ss[k].1, ss[k].2] (by rfl) (by rfl) (by exact World.there_setCells (w := wr.drew) t2 _ _ _) (by kernel_rfl) (by exact ok) ?_
          try dsimp only
          refine hK.out _ _ ?hS (fun hH' => ?_)
          case hS =>
            trivial
          clear hK K' hH; have hH := hH'; clear hH'; (try simp only [Act.put]); (repeat (first | simp only [List.setIfInBounds_toArray] | simp only [List.set_cons_zero] | simp only [List.set_cons_succ]))
          refine wpAnyH_done (by decide +kernel) ?_ _
          replace F := Lib.hid F.out
          obtain ⟨ss', ls', hl', hp', F⟩ := F.out
          replace F := Lib.hid F
          generalize (World.setCells _ _ _ _) = W' at *
          go_wp2_with fail
          go_roundg (n - (k + 1))
          case measure => omega
          case rel => exact ⟨k + 1, ss', ls', rfl, by omega, by go_num, hl'.trans L.out, hp'.trans P.out, F.out⟩
        case b2 =>
          refine wp_load_mid 51 _ rfl g (k * 2) (by rfl) [.int .u64 ss[k].1, ss[k].2] _ (by exact r1) Try.underlying51 rfl (by kernel_rfl) ?_
          try dsimp only
          refine hK.out _ _ ?hS (fun hH' => ?_)
          case hS =>
            trivial
          clear hK K' hH; have hH := hH'; clear hH'; (try simp only [Act.put]); (repeat (first | simp only [List.setIfInBounds_toArray] | simp only [List.set_cons_zero] | simp only [List.set_cons_succ]))
          refine spk 7 rfl ?hr ?hw (fun K' hK => ?_)
          case hr => decide +kernel
          case hw => rfl
          refine wp_load_mid 51 _ rfl g (j * 2) (by rfl) [.int .u64 ss[j].1, ss[j].2] _ (by exact r2) Try.underlying51 rfl (by kernel_rfl) ?_
          try dsimp only
          refine hK.out _ _ ?hS (fun hH' => ?_)
          case hS =>
            trivial
          clear hK K' hH; have hH := hH'; clear hH'; (try simp only [Act.put]); (repeat (first | simp only [List.setIfInBounds_toArray] | simp only [List.set_cons_zero] | simp only [List.set_cons_succ]))
          refine tkY (v := ?_) 12 hH rfl (fun _ _ _ h => h) ?hc ?hw ?hy ?_
          case hc => decide +kernel
          case hw => rfl
          case hy => (intro w hS; (try dsimp only at hS); go_simp; try with_reducible rfl)
          (try simp only [Act.put]); (repeat (first | simp only [List.setIfInBounds_toArray] | simp only [List.set_cons_zero] | simp only [List.set_cons_succ]))
          refine spk 13 rfl ?hr ?hw (fun K' hK => ?_)
          case hr => decide +kernel
          case hw => rfl
          refine wp_store_mid 51 _ _ rfl g (k * 2) #[.int .u64 ss[j].1, ss[j].2] (by rfl) (by rfl) (by exact t1) (by kernel_rfl) (by exact oj) ?_
          try dsimp only
          refine hK.out _ _ ?hS (fun hH' => ?_)
          case hS =>
            trivial
          clear hK K' hH; have hH := hH'; clear hH'; (try simp only [Act.put]); (repeat (first | simp only [List.setIfInBounds_toArray] | simp only [List.set_cons_zero] | simp only [List.set_cons_succ]))
          refine tkY (v := ?_) 14 hH rfl (fun _ _ _ h => h) ?hc ?hw ?hy ?_
          case hc => decide +kernel
          case hw => rfl
          case hy => (intro w hS; (try dsimp only at hS); go_simp; try with_reducible rfl)
          (try simp only [Act.put]); (repeat (first | simp only [List.setIfInBounds_toArray] | simp only [List.set_cons_zero] | simp only [List.set_cons_succ]))
          refine spk 15 rfl ?hr ?hw (fun K' hK => ?_)
          case hr => decide +kernel
          case hw => rfl
          refine wp_store_mid 51 _ _ rfl g (j * 2) #[.int .u64 ss[k].1, ss[k].2] (by rfl) (by rfl) (by exact World.there_setCells (w := wr.drew) t2 _ _ _) (by kernel_rfl) (by exact ok) ?_
          try dsimp only
          refine hK.out _ _ ?hS (fun hH' => ?_)
          case hS =>
            trivial
          clear hK K' hH; have hH := hH'; clear hH'; (try simp only [Act.put]); (repeat (first | simp only [List.setIfInBounds_toArray] | simp only [List.set_cons_zero] | simp only [List.set_cons_succ]))
          refine wpAnyH_done (by decide +kernel) ?_ _
          replace F := Lib.hid F.out
          obtain ⟨ss', ls', hl', hp', F⟩ := F.out
          replace F := Lib.hid F
          generalize (World.setCells _ _ _ _) = W' at *
          go_wp2_with fail
          go_roundg (n - (k + 1))
          case measure => omega
          case rel => exact ⟨k + 1, ss', ls', rfl, by omega, by go_num, hl'.trans L.out, hp'.trans P.out, F.out⟩
      · have R := Lib.hid (And.intro hlen (And.intro hperm (And.intro hown (And.intro hheld hb))))
        clear hlen hperm hown hheld hb
        have ho' : ¬ ((k : Int) < (os.length : Int)) := by omega
        go_wp2_with fail
        go_roundg (n - (k + 1))
        case measure => omega
        case rel =>
          obtain ⟨hlen, hperm, hown, hheld, hb⟩ := R.out
          exact ⟨k + 1, ss, ls, rfl, by omega, by go_num, hlen, hperm, hown, hheld, hb⟩
    · obtain rfl : k = n := by omega
      have C := Lib.hid (checkZ_perm dim hperm)
      have A2 := Lib.hid (A1.out.below hb)
      have D2 := Lib.hid (Recs.of_own hown hheld)
      have B3 := Lib.hid (B2.out.trans (hb.mono B2.out.size))
      clear hlen hperm hown hheld hb R
      go_wp2_with fail
      refine (check dim m _ wr A2.out).mono ?_
      rintro e w4 ⟨rfl, hb4⟩
      have D4 := Lib.hid (D2.out.below hb4)
      have B4 := Lib.hid (B3.out.trans (hb4.mono B3.out.size))
      clear hb4
      go_wp2_with fail
      refine (check dim ls _ w4 D4.out).mono ?_
      rintro e w5 ⟨rfl, hb5⟩
      have B5 := Lib.hid (B4.out.trans (hb5.mono B4.out.size))
      clear hb5
      rw [C.out]
      go_wp2_with fail
      go_ret
      exact ⟨ret_bool (by simp), B5.out⟩

end Go.Proofs.Ytidaecdlpjfngaa
