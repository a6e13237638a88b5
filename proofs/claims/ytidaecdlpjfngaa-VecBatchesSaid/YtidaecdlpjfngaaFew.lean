import Derived.Test.YtidaecdlpjfngaaRecs
import Derived.Test.YtidaecdlpjfngaaRegion
import Derived.Test.YtidaecdlpjfngaaVecF
namespace Go.Proofs.Ytidaecdlpjfngaa
open Go.RowKit

theorem infoOp : (Try.prog.info? 51).map (fun i => (i.zero, i.size, i.bytes)) = some (some (.agg #[.int .u64 0, .slice none 0 0]), 2, 32) := by kernel_rfl
theorem rowOp : RowTy Try.prog 43 51 2 32 (.agg #[.int .u64 0, .slice none 0 0]) := ⟨Try.underlying43, infoOp, rfl, by decide⟩

/-- what Few answers: the first n of them, each vector cut at 10 -/
def fewZ (n : Nat) (l : List (Int × List Int)) : List (Int × List Int) := (l.take n).map fun r => (r.1, r.2.take 10)

theorem fewZ_snoc (n : Nat) (l : List (Int × List Int)) (k : Nat) (hk : k < l.length) (hn : k < n) : fewZ n (l.take (k + 1)) = fewZ n (l.take k) ++ [(l[k].1, l[k].2.take 10)] := by
  unfold fewZ
  have h1 : (l.take (k + 1)).take n = l.take (k + 1) := List.take_of_length_le (by simp; omega)
  have h2 : (l.take k).take n = l.take k := List.take_of_length_le (by simp; omega)
  rw [h1, h2, List.take_succ_eq_append_getElem hk, List.map_append]
  rfl

theorem fewZ_same (n : Nat) (l : List (Int × List Int)) (k : Nat) (hn : n ≤ k) : fewZ n (l.take (k + 1)) = fewZ n (l.take k) := by
  unfold fewZ
  rw [List.take_take, List.take_take]
  congr 2
  omega

theorem fewZ_length (n : Nat) (l : List (Int × List Int)) : (fewZ n l).length = min n l.length := by simp [fewZ]

/-- a new row of pairs of the call's own -/
def NewRecs (w : World) (e : Nat) (l : List (Int × List Int)) (r : Ending) (w' : World) : Prop :=
  ∃ v rs, r = .returned v ∧ w'.ownsRow w.heap.size e 2 v rs.length (flat2 rs) ∧ Held2 w' w.heap.size 21 rs l ∧ Below w.heap.size w w'

theorem few_step {l : List (Int × List Int)} {k : Nat} {rs : List (Int × Value)} {w wr w4 w5 : World} {v v5 : Value} {u4 : Value} {e E B4 : Nat} {o : Obj} (hown : wr.ownsRow w.heap.size e 2 v rs.length (flat2 rs)) (hheld : Held2 wr w.heap.size E rs (fewZ 20 (l.take k))) (hb : Below w.heap.size w wr)
    (hlt : k < l.length) (h20 : k < 20) (hu : w4.ownsRow B4 E 1 u4 (l[k].2.take (10 : Int).toNat).length ((l[k].2.take (10 : Int).toNat).map (Value.int .i32))) (hB4 : wr.heap.size ≤ B4) (hne : E ≠ e) (hb4 : Below wr.heap.size wr w4)
    (hown5 : w5.ownsRow w.heap.size e 2 v5 (rs.length + 1) (flat2 rs ++ (#[.int .u64 l[k].1, u4] : Array Value).toList)) (hg5 : (w4.alloc o).grownBy w5 v.ownBlock) :
    w5.ownsRow w.heap.size e 2 v5 (rs ++ [(l[k].1, u4)]).length (flat2 (rs ++ [(l[k].1, u4)])) ∧ Held2 w5 w.heap.size E (rs ++ [(l[k].1, u4)]) (fewZ 20 (l.take (k + 1))) ∧ Below w.heap.size w w5 := by
  have hown4 := (own_below hown hb4).alloc o
  have hheld4 := (hheld.below hb4).below ((Below.refl _ _).alloc (Nat.le_refl _) o)
  have hsz := hb.size
  have hsz4 := hb4.size
  refine ⟨by rw [flat2_append]; simpa [flat2] using hown5, ?_, ((hb.trans (hb4.mono hsz)).alloc (by omega) o).grown hg5 (by simp; omega) (fun b hbk => (hown.lt b hbk).1)⟩
  rw [fewZ_snoc 20 l k hlt h20]
  refine (hheld4.other hown4 hne hg5).snoc ?_ fun r hr => ?_
  · have := (hu.alloc o).kept hg5 (own_apart (hu.alloc o) hown4 hne)
    exact own_mono this (by omega)
  · cases hrb : r.2.ownBlock with
    | none => exact .inl rfl
    | some b =>
      right
      intro he
      have h1 := hheld.lt hr b hrb
      have h2 := hu.lt b he.symm
      omega

theorem few (l : List (Int × List Int)) (v : Value) (w : World) (h : Recs w v l) :
    Calls Try.prog 22 #[v, .int .i64 20] w (NewRecs w 51 (fewZ 20 l)) := by
  obtain ⟨p, cap, rfl, hcap, hbig, -, -⟩ := id h
  have hl : l.length ≤ 9223372036854775807 := by omega
  clear hcap hbig
  have H := Lib.hid h
  clear h
  go_enter Try.func22, Try.ntmps22
  go_wp2_with fail
  go_loopg [5, 10] l.length (fun q out i wr => ∃ (k : Nat) (rs : List (Int × Value)), q = l.length - k ∧ k ≤ l.length ∧ i = .int .i64 k ∧ rs.length = min 20 k ∧ wr.ownsRow w.heap.size 51 2 out rs.length (flat2 rs) ∧ Held2 wr w.heap.size 21 rs (fewZ 20 (l.take k)) ∧ Below w.heap.size w wr)
  case atStart => exact ⟨0, [], rfl, by omega, rfl, rfl, World.ownsRow_nil _ _ _ _, Held2.nil _ _ _, Below.refl _ _⟩
  case round =>
    obtain ⟨k, rs, rfl, hk, rfl, hlen, hown, hheld, hb⟩ := hrel
    by_cases hlt : k < l.length
    · obtain ⟨b, off, u, rfl, c0, c1, hu⟩ := (H.out.below hb).elem hlt
      obtain ⟨up, ucap, rfl, -, -, -, -⟩ := id hu.slice
      have O := Lib.hid (And.intro hown (And.intro hheld hb))
      have hl20 : rs.length ≤ 20 := by omega
      have L := Lib.hid hlen
      clear hlen
      have U := Lib.hid hu
      have hsz := hb.size
      clear hown hheld hb hu
      by_cases h20 : k < 20
      · go_wp2_with fail
        refine region_go (fun w' => w'.cell? ⟨wr.heap.size, 0, none⟩ = some (.int .u64 l[k].1) ∧ w'.cell? ⟨wr.heap.size, 1, none⟩ = some (.slice up l[k].2.length ucap)) (by kernel_rfl) ?hS0 (fun hH => ?_)
        case hS0 =>
          exact ⟨by go_simp, by go_simp⟩
        refine tkY (v := ?_) 0 hH rfl (fun _ _ _ h => h) ?hc ?hw ?hy ?_
        case hc => decide +kernel
        case hw => rfl
        case hy => (intro w hS; (try dsimp only at hS); go_simp; try with_reducible rfl)
        (try simp only [Act.put]); (repeat (first | simp only [List.setIfInBounds_toArray] | simp only [List.set_cons_zero] | simp only [List.set_cons_succ]))
        refine tkY (v := ?_) 1 hH rfl (fun _ _ _ h => h) ?hc ?hw ?hy ?_
        case hc => decide +kernel
        case hw => rfl
        case hy => (intro w hS; (try dsimp only at hS); go_simp; try with_reducible rfl)
        (try simp only [Act.put]); (repeat (first | simp only [List.setIfInBounds_toArray] | simp only [List.set_cons_zero] | simp only [List.set_cons_succ]))
        refine tkY (v := ?_) 2 hH rfl (fun _ _ _ h => h) ?hc ?hw ?hy ?_
        case hc => decide +kernel
        case hw => rfl
        case hy => (intro w hS; (try dsimp only at hS); go_simp; try with_reducible rfl)
        (try simp only [Act.put]); (repeat (first | simp only [List.setIfInBounds_toArray] | simp only [List.set_cons_zero] | simp only [List.set_cons_succ]))
        refine tkY (v := ?_) 3 hH rfl (fun _ _ _ h => h) ?hc ?hw ?hy ?_
        case hc => decide +kernel
        case hw => rfl
        case hy => (intro w hS; (try dsimp only at hS); go_simp; try with_reducible rfl)
        (try simp only [Act.put]); (repeat (first | simp only [List.setIfInBounds_toArray] | simp only [List.set_cons_zero] | simp only [List.set_cons_succ]))
        refine tkY (v := ?_) 4 hH rfl (fun _ _ _ h => h) ?hc ?hw ?hy ?_
        case hc => decide +kernel
        case hw => rfl
        case hy => (intro w hS; (try dsimp only at hS); go_simp; try with_reducible rfl)
        (try simp only [Act.put]); (repeat (first | simp only [List.setIfInBounds_toArray] | simp only [List.set_cons_zero] | simp only [List.set_cons_succ]))
        refine spk 5 rfl ?hr ?hw (fun K' hK => ?_)
        case hr => decide +kernel
        case hw => rfl
        go_simp
        have hbW := ((Below.refl wr.heap.size wr).alloc (Nat.le_refl _) (Obj.cells #[Value.int IntKind.u64 l[k].fst, Value.slice up l[k].snd.length ucap] 51)).drew
        refine (cutVec l[k].2 _ 10 _ (U.out.below hbW) (by decide) (.inr (by decide))).mono ?_
        intro e w4 hN
        obtain ⟨u4, rfl, hu4, hb4⟩ := hN
        obtain ⟨q4, n4, c4, rfl⟩ := own_form hu4
        have hb04 := hbW.trans (hb4.mono (by simp))
        obtain ⟨g5, c5, w5, hrun, hown5, hg5, hat5, -⟩ := run_push rowOp (own_below O.out.1 hb04) (by have := hb04.size; omega) #[.int .u64 l[k].1, .slice q4 n4 c4] rfl (by simp [Value.oneCell']) (by simp [maxLen]; omega) (by omega)
        have hk5 : ∀ (j : Nat) (v : Value), (w4.alloc (.cells #[.int .u64 l[k].1, .slice q4 n4 c4] 51)).cell? ⟨wr.heap.size, j, none⟩ = some v → w5.cell? ⟨wr.heap.size, j, none⟩ = some v := fun j v hc => hg5.cell hc (fun e => Nat.lt_irrefl _ (O.out.1.lt _ e.symm).2)
        have F := Lib.hid (few_step O.out.1 O.out.2.1 O.out.2.2 hlt h20 hu4 (by simp) (by decide) hb04 hown5 hg5)
        clear hbW hb04 hown5 hg5 hat5 hu4
        try dsimp only
        refine hK.out _ _ ?hS (fun hH' => ?_)
        case hS =>
          exact ⟨below_cells hb4 hH.1, below_cells hb4 hH.2⟩
        clear hK K' hH; have hH := hH'; clear hH'; (try simp only [Act.put]); (repeat (first | simp only [List.setIfInBounds_toArray] | simp only [List.set_cons_zero] | simp only [List.set_cons_succ]))
        refine tkY (v := ?_) 6 hH rfl (fun _ _ _ h => h) ?hc ?hw ?hy ?_
        case hc => decide +kernel
        case hw => rfl
        case hy => (intro w hS; (try dsimp only at hS); go_simp; try with_reducible rfl)
        (try simp only [Act.put]); (repeat (first | simp only [List.setIfInBounds_toArray] | simp only [List.set_cons_zero] | simp only [List.set_cons_succ]))
        refine spk 7 rfl ?hr ?hw (fun K' hK => ?_)
        case hr => decide +kernel
        case hw => rfl
        go_simp
        try dsimp only
        refine hK.out _ _ ?hS (fun hH' => ?_)
        case hS =>
          exact ⟨by rw [World.cell?_alloc_lt _ _ _ (lt_of_cell hH.1)]; exact hH.1, by rw [World.cell?_alloc_lt _ _ _ (lt_of_cell hH.2)]; exact hH.2⟩
        clear hK K' hH; have hH := hH'; clear hH'; (try simp only [Act.put]); (repeat (first | simp only [List.setIfInBounds_toArray] | simp only [List.set_cons_zero] | simp only [List.set_cons_succ]))
        refine spk 8 rfl ?hr ?hw (fun K' hK => ?_)
        case hr => decide +kernel
        case hw => rfl
        refine wp_append_eq hrun _ _ rfl rfl rfl ?_
        try dsimp only
        refine hK.out _ _ ?hS (fun hH' => ?_)
        case hS =>
          exact ⟨hk5 _ _ hH.1, hk5 _ _ hH.2⟩
        clear hK K' hH; have hH := hH'; clear hH'; (try simp only [Act.put]); (repeat (first | simp only [List.setIfInBounds_toArray] | simp only [List.set_cons_zero] | simp only [List.set_cons_succ]))
        refine tkY (v := ?_) 9 hH rfl (fun _ _ _ h => h) ?hc ?hw ?hy ?_
        case hc => decide +kernel
        case hw => rfl
        case hy => (intro w hS; (try dsimp only at hS); go_simp; try with_reducible rfl)
        (try simp only [Act.put]); (repeat (first | simp only [List.setIfInBounds_toArray] | simp only [List.set_cons_zero] | simp only [List.set_cons_succ]))
        refine wpAnyH_done (by decide +kernel) ?_ _
        go_wp2_with fail
        go_roundg (l.length - (k + 1))
        case measure => omega
        case rel => exact ⟨k + 1, rs ++ [(l[k].1, .slice q4 n4 c4)], rfl, by omega, by go_num, by have := L.out; rw [List.length_append, this]; simp; omega, F.out⟩
      · go_wp2_with fail
        go_roundg (l.length - (k + 1))
        case measure => omega
        case rel => exact ⟨k + 1, rs, rfl, by omega, by go_num, by have := L.out; omega, O.out.1.alloc _, by rw [fewZ_same 20 l k (by omega)]; exact O.out.2.1.below ((Below.refl _ _).alloc (Nat.le_refl _) _), O.out.2.2.alloc hsz _⟩
    · obtain rfl : k = l.length := by omega
      go_wp2_with fail
      go_ret
      exact ⟨_, rs, rfl, hown, by rw [List.take_length] at hheld; exact hheld, hb⟩

end Go.Proofs.Ytidaecdlpjfngaa
