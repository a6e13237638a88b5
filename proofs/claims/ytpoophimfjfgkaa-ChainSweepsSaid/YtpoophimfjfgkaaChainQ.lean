/-
  chain's laws: what a law carries with it; ChainSteps.
-/
import Derived.Test.YtpoophimfjfgkaaChainP
import Derived.Test.YtpoophimfjfgkaaChainL
import Derived.Test.YtpoophimfjfgkaaChainS
namespace Go.Proofs.Ytpoophimfjfgkaa
open Go.RowKit

/-- a chain of a law that began in w0; its blocks are F -/
structure InLaw (w0 : World) (F : Nat → Prop) (c : Nat) (l : List (Int × List Int)) (w : World) : Prop where
  chain : ChainAt w w0.heap.size F c l
  lo : ∀ k, F k → w0.heap.size ≤ k
  hi : ∀ k, F k → k < w.heap.size
  below : Below w0.heap.size w0 w

theorem InLaw.step {w0 w w' : World} {F : Nat → Prop} {c : Nat} {l : List (Int × List Int)} (h : InLaw w0 F c l w) (hb : Below w.heap.size w w') : InLaw w0 F c l w' :=
  ⟨h.chain.below hb, h.lo, fun k hk => by have := h.hi k hk; have := hb.size; omega, h.below.trans (hb.mono h.below.size)⟩

theorem InLaw.put {w0 w w' : World} {F : Nat → Prop} {c : Nat} {l l' : List (Int × List Int)} (h : InLaw w0 F c l w) (hc : ChainAt w' w0.heap.size (Plus F w w') c l') (hm : Mod F w w') : InLaw w0 (Plus F w w') c l' w' := by
  have hs := h.below.size
  have hs' := hm.size
  refine ⟨hc, fun k hk => ?_, fun k hk => ?_, h.below.trans (hm.below hs h.lo)⟩
  · rcases hk with hk | ⟨h1, h2⟩
    · exact h.lo k hk
    · omega
  · rcases hk with hk | ⟨h1, h2⟩
    · have := h.hi k hk; omega
    · exact h2

theorem ChainAt.lower {w : World} {B B' c : Nat} {F : Nat → Prop} {l : List (Int × List Int)} (h : ChainAt w B F c l) (hB : B' ≤ B) : ChainAt w B' F c l := by
  obtain ⟨v, rs, h, f⟩ := h
  exact ⟨v, rs, ⟨h.obj, Nat.le_trans hB h.ge, own_mono h.row hB, ⟨h.held.len, fun i a b => ⟨(h.held.own i a b).1, own_mono (h.held.own i a b).2 hB⟩, h.held.apart⟩⟩, f⟩

theorem InLaw.new {w0 w w' : World} {c : Nat} {l : List (Int × List Int)} (hb : Below w0.heap.size w0 w) (hc : ChainAt w' w.heap.size (Plus (fun _ => False) w w') c l) (hb' : Below w.heap.size w w') : InLaw w0 (Plus (fun _ => False) w w') c l w' := by
  have hs := hb.size
  refine ⟨hc.lower hs, fun k hk => ?_, fun k hk => ?_, hb.trans (hb'.mono hs)⟩
  · rcases hk with hk | ⟨h1, h2⟩
    · exact hk.elim
    · omega
  · rcases hk with hk | ⟨h1, h2⟩
    · exact hk.elim
    · exact h2

theorem sameVecOne (xs : List Int) (v u : Value) (w : World) (h : Nums w .i32 v xs) (g : Nums w .i32 u xs) :
    Calls Try.prog 16 #[v, u] w fun e w' => e = .returned (.bool true) ∧ Drawn w w' :=
  (sameVecQ xs xs v u w h g).mono fun _ _ ⟨a, b⟩ => ⟨by rw [a]; simp, b⟩

/-- the first calls of a script, as versions -/
def scrZ (l : List OpZ) (k : Nat) : List (Int × List Int) := ((l.take k).take 40).map fun o => (o.stamp, o.vec.take 10)

theorem scrZ_snoc {l : List OpZ} {k : Nat} (hk : k < l.length) (h : k < 40) : scrZ l (k + 1) = scrZ l k ++ [(l[k].stamp, l[k].vec.take 10)] := by
  unfold scrZ
  rw [take_take_snoc l 40 k hk h, List.map_append]; rfl

theorem scrZ_same {l : List OpZ} {k : Nat} (h : 40 ≤ k) : scrZ l (k + 1) = scrZ l k := by
  unfold scrZ
  rw [take_take_same l 40 k h]

theorem scrZ_length (l : List OpZ) (k : Nat) : (scrZ l k).length ≤ 40 := by simp [scrZ]; omega

theorem InLaw.is {w0 w : World} {F : Nat → Prop} {c : Nat} {l : List (Int × List Int)} (h : InLaw w0 F c l w) : ∃ v, ChainIs w c v l :=
  let ⟨v, _, h, _⟩ := h.chain; ⟨v, h.is⟩

theorem fill_length (m : List OpZ) (k : Nat) : (fillZ [] (scrZ m k)).length ≤ 40 := by
  have := fillZ_length [] (scrZ m k)
  have := scrZ_length m k
  simp at *
  omega

theorem fill_good (m : List OpZ) (k : Nat) : Good (fillZ [] (scrZ m k)) := fillZ_good Good.nil _

set_option maxHeartbeats 4000000 in
theorem chainSteps (m : List OpZ) (hm : ∀ r ∈ m, r.Fits) (stamp : Int) (hs : 0 ≤ stamp) (v : Value) (w : World) (h : Script w v m) :
    Calls Try.prog 6 #[v, .int .u64 stamp] w fun e w' => e = .returned (.bool true) ∧ Below w.heap.size w w' := by
  obtain ⟨p, cap, rfl, hcap, hbig, -, -⟩ := id h
  have hl9 : m.length ≤ 9223372036854775807 := by omega
  have H := Lib.hid h
  have M := Lib.hid hm
  clear h hm hcap hbig
  go_enter Try.func6, Try.ntmps6
  go_wp2_with fail
  refine (awake_true w).mono ?_
  rintro e w1 ⟨rfl, hb1⟩
  have B1 := Lib.hid hb1
  clear hb1
  go_wp2_with fail
  refine (new [] (by simp) (by simp) _ w1 ⟨none, 0, rfl, by simp, by simp, by simp, fun i hi => absurd hi (by simp)⟩).mono ?_
  rintro e w2 (⟨-, c, rfl, hc, hb2⟩ | ⟨hne, -⟩)
  case inr => exact absurd rfl hne
  have L2 := Lib.hid (InLaw.new B1.out hc hb2)
  clear hc hb2
  go_wp2_with fail
  go_loopg [24] m.length (fun q i wr => ∃ (k : Nat) (F : Nat → Prop), q = m.length - k ∧ k ≤ m.length ∧ i = .int .i64 k ∧ InLaw w F c (fillZ [] (scrZ m k)) wr)
  case atStart => exact ⟨0, _, rfl, by omega, rfl, L2.out⟩
  case round =>
    obtain ⟨k, F, rfl, hk, rfl, hL⟩ := hrel
    have L := Lib.hid hL
    by_cases hlt : k < m.length
    · obtain ⟨b, off, u, rfl, c0, c1, c2, c3, hu⟩ := (H.out.below hL.below).elem hlt
      obtain ⟨up, uc, rfl, -, -, -, -⟩ := id hu.slice
      have U := Lib.hid hu
      have hFits := Lib.hid (M.out _ (List.getElem_mem hlt))
      clear hL hu
      by_cases h40 : k < 40
      · skip
        go_wp2_with fail
        have hbox := ((Below.refl wr.heap.size wr).alloc (Nat.le_refl _) (Obj.cells #[Value.int IntKind.u8 m[k].act, Value.int IntKind.u64 m[k].stamp, Value.slice up m[k].vec.length uc, Value.int IntKind.u64 m[k].ask] 32)).drew
        have y0 : (wr.alloc (Obj.cells #[Value.int IntKind.u8 m[k].act, Value.int IntKind.u64 m[k].stamp, Value.slice up m[k].vec.length uc, Value.int IntKind.u64 m[k].ask] 32)).drew.cell? ⟨wr.heap.size, 1, none⟩ = some (.int .u64 m[k].stamp) := by go_simp
        have y1 : (wr.alloc (Obj.cells #[Value.int IntKind.u8 m[k].act, Value.int IntKind.u64 m[k].stamp, Value.slice up m[k].vec.length uc, Value.int IntKind.u64 m[k].ask] 32)).drew.cell? ⟨wr.heap.size, 2, none⟩ = some (.slice up m[k].vec.length uc) := by go_simp
        have U0 := Lib.hid (U.out.below hbox)
        have L0 := Lib.hid (L.out.step hbox)
        obtain ⟨W0, hW0⟩ : ∃ W0, W0 = (wr.alloc (Obj.cells #[Value.int IntKind.u8 m[k].act, Value.int IntKind.u64 m[k].stamp, Value.slice up m[k].vec.length uc, Value.int IntKind.u64 m[k].ask] 32)).drew := ⟨_, rfl⟩
        rw [← hW0] at hbox y0 y1 U0 L0
        have HW := Lib.hid hW0
        have hF := Lib.hid L.out.hi
        have hz := hbox.size
        have hl40 := fill_length m k
        clear hW0
        refine region_go (fun w' => w'.cell? ⟨wr.heap.size, 1, none⟩ = some (.int .u64 m[k].stamp) ∧ w'.cell? ⟨wr.heap.size, 2, none⟩ = some (.slice up m[k].vec.length uc)) (by kernel_rfl) ?hS0 (fun hH => ?_)
        case hS0 =>
          rw [← HW.out]; exact ⟨y0, y1⟩
        rw [← HW.out] at hH ⊢
        refine tkY (v := ?_) 0 hH rfl (fun _ _ _ h => h) ?hc ?hw ?hy ?_
        case hc => decide +kernel
        case hw => rfl
        case hy => (intro w hS; (try dsimp only at hS); go_simp; try with_reducible rfl)
        (try simp only [Act.put]); (repeat (first | simp only [List.setIfInBounds_toArray] | simp only [List.set_cons_zero] | simp only [List.set_cons_succ]))
        refine tkY (v := ?_) 1 hH rfl (fun _ _ _ h => h) ?hc ?hw ?hy ?_
        case hc => decide +kernel
        case hw => rfl
        case hy => (intro w hS; (try dsimp only at hS); go_simp; try with_reducible rfl)
        (try simp only [Act.put]); (repeat (first | simp only [List.setIfInBounds_toArray] | simp only [List.set_cons_zero] | simp only [List.set_cons_succ]))
        refine tkY (v := ?_) 2 hH rfl (fun _ _ _ h => h) ?hc ?hw ?hy ?_
        case hc => decide +kernel
        case hw => rfl
        case hy => (intro w hS; (try dsimp only at hS); go_simp; try with_reducible rfl)
        (try simp only [Act.put]); (repeat (first | simp only [List.setIfInBounds_toArray] | simp only [List.set_cons_zero] | simp only [List.set_cons_succ]))
        refine tkY (v := ?_) 3 hH rfl (fun _ _ _ h => h) ?hc ?hw ?hy ?_
        case hc => decide +kernel
        case hw => rfl
        case hy => (intro w hS; (try dsimp only at hS); go_simp; try with_reducible rfl)
        (try simp only [Act.put]); (repeat (first | simp only [List.setIfInBounds_toArray] | simp only [List.set_cons_zero] | simp only [List.set_cons_succ]))
        refine tkY (v := ?_) 4 hH rfl (fun _ _ _ h => h) ?hc ?hw ?hy ?_
        case hc => decide +kernel
        case hw => rfl
        case hy => (intro w hS; (try dsimp only at hS); go_simp; try with_reducible rfl)
        (try simp only [Act.put]); (repeat (first | simp only [List.setIfInBounds_toArray] | simp only [List.set_cons_zero] | simp only [List.set_cons_succ]))
        refine spk 5 rfl ?hr ?hw (fun K' hK => ?_)
        case hr => decide +kernel
        case hw => rfl
        go_simp
        refine (cutVec m[k].vec _ 10 _ U0.out (by decide) (.inr (by decide))).mono ?_
        rintro e w5 ⟨u5, rfl, hu5, hb5⟩
        obtain ⟨q5, m5, k5, rfl⟩ := own_form hu5
        have L5 := Lib.hid (L0.out.step hb5)
        have U5 := Lib.hid (Nums.of_own hu5)
        have z0 := below_cells hb5 y0
        have z1 := below_cells hb5 y1
        clear hu5 hb5
        try dsimp only
        refine hK.out _ _ ?hS (fun hH' => ?_)
        case hS =>
          exact ⟨z0, z1⟩
        clear hK K' hH; have hH := hH'; clear hH'; (try simp only [Act.put]); (repeat (first | simp only [List.setIfInBounds_toArray] | simp only [List.set_cons_zero] | simp only [List.set_cons_succ]))
        refine tkY (v := ?_) 6 hH rfl (fun _ _ _ h => h) ?hc ?hw ?hy ?_
        case hc => decide +kernel
        case hw => rfl
        case hy => (intro w hS; (try dsimp only at hS); go_simp; try with_reducible rfl)
        (try simp only [Act.put]); (repeat (first | simp only [List.setIfInBounds_toArray] | simp only [List.set_cons_zero] | simp only [List.set_cons_succ]))
        refine spk 7 rfl ?hr ?hw (fun K' hK => ?_)
        case hr => decide +kernel
        case hw => rfl
        go_simp
        refine (put w.heap.size c F (fillZ [] (scrZ m k)) m[k].stamp (m[k].vec.take 10) _ _ L5.out.chain (by omega) U5.out (by simp; omega) hFits.out.2.2.1 L5.out.below.size).mono ?_
        rintro e w7 ⟨rfl, hc7, hm7⟩
        have L7 := Lib.hid (L5.out.put hc7 hm7)
        have kk : ∀ a : Addr, a.block = wr.heap.size → w7.cell? a = w5.cell? a := fun a ha => World.cell?_of_block (by rw [ha]; exact hm7.block _ (lt_of_cell z0) fun hk => Nat.lt_irrefl _ (hF.out _ hk))
        clear hc7 hm7
        try dsimp only
        refine hK.out _ _ ?hS (fun hH' => ?_)
        case hS =>
          exact ⟨by rw [kk _ rfl]; exact z0, by rw [kk _ rfl]; exact z1⟩
        clear hK K' hH; have hH := hH'; clear hH'; (try simp only [Act.put]); (repeat (first | simp only [List.setIfInBounds_toArray] | simp only [List.set_cons_zero] | simp only [List.set_cons_succ]))
        refine wpAnyH_done (by decide +kernel) ?_ _
        clear hH kk z0 z1 y0 y1 hbox hz
        go_wp2_with fail
        go_roundg (m.length - (k + 1))
        case measure => omega
        case rel => exact ⟨k + 1, _, rfl, by omega, by go_num, by rw [scrZ_snoc hlt h40, fillZ_snoc]; exact L7.out⟩
      · go_wp2_with fail
        go_roundg (m.length - (k + 1))
        case measure => omega
        case rel => exact ⟨k + 1, F, rfl, by omega, by go_num, by rw [scrZ_same (by omega)]; exact L.out.step ((Below.refl _ _).alloc (Nat.le_refl _) _)⟩
    · obtain rfl : m.length = k := by omega
      clear hL
      have G := Lib.hid (fill_good m m.length)
      have hn40 := fill_length m m.length
      generalize fillZ [] (scrZ m m.length) = l at *
      have hl9' : l.length ≤ 9223372036854775807 := by omega
      go_wp2_with fail
      obtain ⟨cv, hcv⟩ := L.out.is
      refine (list l (by omega) G.out.lengths c cv wr hcv).mono ?_
      clear hcv
      rintro e w3 ⟨vl, rs, rfl, ho, hh, hb3⟩
      have hrec := Recs.of_own ho hh
      obtain ⟨q, qc, rfl, -, -, -, -⟩ := id hrec
      have R3 := Lib.hid hrec
      have L3 := Lib.hid (L.out.step hb3)
      clear ho hh hb3 hrec
      go_wp2_with fail
      go_loopg [9, 43] l.length (fun q' at' i wr => ∃ k : Nat, q' = l.length - k ∧ k ≤ l.length ∧ i = .int .i64 k ∧ at' = .int .u64 (lastAt stamp (l.take k)) ∧ Below w3.heap.size w3 wr)
      case atStart => exact ⟨0, rfl, by omega, rfl, rfl, Below.refl _ _⟩
      case round =>
        rename_i wo _ _ _ _
        obtain ⟨k, rfl, hk, rfl, rfl, hb⟩ := hrel
        have B := Lib.hid hb
        have hsz := hb.size
        by_cases hlt : k < l.length
        · obtain ⟨b, off, u, rfl, c0, c1, hu⟩ := (R3.out.below hb).elem hlt
          obtain ⟨up, uc, rfl, -, -, -, -⟩ := id hu.slice
          clear hb hu
          cases ht : decide (l[k].1 ≤ stamp)
          · have hz : lastAt stamp (l.take (k + 1)) = lastAt stamp (l.take k) := by rw [take_snoc l k hlt, lastAt_snoc, if_neg (of_decide_eq_false ht)]
            have Z := Lib.hid hz
            clear hz
            go_wp2_with fail
            go_roundg (l.length - (k + 1))
            case measure => omega
            case rel => exact ⟨k + 1, rfl, by omega, by go_num, by rw [Z.out], B.out.alloc hsz _⟩
          · have hz : lastAt stamp (l.take (k + 1)) = l[k].1 := by rw [take_snoc l k hlt, lastAt_snoc, if_pos (of_decide_eq_true ht)]
            have Z := Lib.hid hz
            clear hz
            go_wp2_with fail
            go_roundg (l.length - (k + 1))
            case measure => omega
            case rel => exact ⟨k + 1, rfl, by omega, by go_num, by rw [Z.out], B.out.alloc hsz _⟩
        · obtain rfl : l.length = k := by omega
          rw [List.take_length]
          obtain ⟨e1, e2, e3⟩ := lastAt_steps G.out stamp
          have L4 := Lib.hid (L3.out.step B.out)
          have E1 := Lib.hid e1
          have E3 := Lib.hid e3
          clear hb e1 e3
          generalize lastAt stamp l = at' at *
          go_wp2_with fail
          obtain ⟨cv, hcv⟩ := L4.out.is
          refine (atOf l G.out.rising (by omega) G.out.lengths stamp c cv _ hcv).mono ?_
          clear hcv
          rintro e w5 ⟨a, rfl, ha, hb5⟩
          have A5 := Lib.hid (Nums.of_own ha)
          have L5 := Lib.hid (L4.out.step hb5)
          clear ha hb5
          go_wp2_with fail
          obtain ⟨cv, hcv⟩ := L5.out.is
          refine (atOf l G.out.rising (by omega) G.out.lengths at' c cv w5 hcv).mono ?_
          clear hcv
          rw [E1.out]
          rintro e w6 ⟨b, rfl, hb, hb6⟩
          have A6 := Lib.hid (A5.out.below hb6)
          have C6 := Lib.hid (Nums.of_own hb)
          have L6 := Lib.hid (L5.out.step hb6)
          clear hb hb6
          have SV := Lib.hid (sameVecOne _ _ _ w6 A6.out C6.out)
          generalize atZ stamp l = xs at *
          cases hd : decide (0 < xs.length)
          all_goals
            go_wp2_with fail
            refine SV.out.mono ?_
            rintro e w7 ⟨rfl, hd7⟩
            have D7 := Lib.hid (L6.out.below.trans (hd7.below.mono L6.out.below.size))
            clear hd7
          · go_wp2_with fail
            all_goals
              go_ret
              exact ⟨rfl, D7.out⟩
          · have hp : 0 < at' := by
              rcases E3.out with h | h
              · exact h
              · rw [h] at hd; simp at hd
            go_wp2_with fail
            all_goals
              go_ret
              exact ⟨rfl, D7.out⟩

end Go.Proofs.Ytpoophimfjfgkaa
