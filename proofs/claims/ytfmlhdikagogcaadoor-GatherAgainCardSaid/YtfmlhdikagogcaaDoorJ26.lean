/-
  The document's Hits: the first n, each vector cut.
-/
import Derived.Test.YtfmlhdikagogcaaDoorJ25
import Derived.Test.YtfmlhdikagogcaaDoorJ11
namespace Go.Proofs.YtfmlhdikagogcaaDoor
open Go.RowKit
set_option maxRecDepth 20000

/-- the first n of them, each vector cut at 8 -/
def hitsZ (n : Nat) (l : List Hz) : List Hz := (l.take n).map fun h => ⟨h.id, h.dist, h.vec.take 8⟩

theorem hitsZ_snoc (n : Nat) (l : List Hz) (k : Nat) (hk : k < l.length) (hn : k < n) : hitsZ n (l.take (k + 1)) = hitsZ n (l.take k) ++ [⟨l[k].id, l[k].dist, l[k].vec.take 8⟩] := by
  unfold hitsZ
  have h1 : (l.take (k + 1)).take n = l.take (k + 1) := List.take_of_length_le (by simp; omega)
  have h2 : (l.take k).take n = l.take k := List.take_of_length_le (by simp; omega)
  rw [h1, h2, List.take_succ_eq_append_getElem hk, List.map_append]
  rfl

theorem hitsZ_same (n : Nat) (l : List Hz) (k : Nat) (hn : n ≤ k) : hitsZ n (l.take (k + 1)) = hitsZ n (l.take k) := by
  unfold hitsZ
  rw [List.take_take, List.take_take]
  congr 2
  omega

theorem hitsZ_length (n : Nat) (l : List Hz) : (hitsZ n l).length = min n l.length := by simp [hitsZ]

theorem hitsZ_vec {n : Nat} {l : List Hz} {h : Hz} (hh : h ∈ hitsZ n l) : h.vec.length ≤ 8 := by
  unfold hitsZ at hh
  obtain ⟨x, -, rfl⟩ := List.mem_map.1 hh
  simp only [List.length_take]; omega

theorem refHits (n : Nat) (hn9 : n ≤ 1000) (l : List Hz) (F : Nat → Prop) (v : Value) (w : World) (h : HitsF w F v l) :
    Calls Tryd.prog 45 #[v, .int .i64 n] w (NewHits w 40 (hitsZ n l)) := by
  obtain ⟨p, cap, rfl, hcap, hbig, -, -⟩ := id h
  have hl : l.length ≤ 9223372036854775807 := by omega
  clear hcap hbig
  have H := Lib.hid h
  clear h
  go_enter Tryd.func45, Tryd.ntmps45
  go_wp2_with fail
  go_loopg [5, 10] l.length (fun q out i wr => ∃ (k : Nat) (rs : List Hv), q = l.length - k ∧ k ≤ l.length ∧ i = .int .i64 k ∧ rs.length = min n k ∧ wr.ownsRow w.heap.size 40 3 out rs.length (flat3 rs) ∧ Held3 wr w.heap.size 21 rs (hitsZ n (l.take k)) ∧ Below w.heap.size w wr)
  case atStart => exact ⟨0, [], rfl, by omega, rfl, by simp, World.ownsRow_nil _ _ _ _, by simpa [hitsZ] using Held3.nil _ _ _, Below.refl _ _⟩
  case round =>
    obtain ⟨k, rs, rfl, hk, rfl, hlen, hown, hheld, hb⟩ := hrel
    by_cases hlt : k < l.length
    · obtain ⟨rs', -, -, hel⟩ := (H.out.below hb).rows
      obtain ⟨b, off, up, ucap, -, rfl, -, -, c0, c1, c2, hu, -⟩ := hel k hlt
      have O := Lib.hid (And.intro hown (And.intro hheld hb))
      have hl20 : rs.length ≤ n := by omega
      have L := Lib.hid hlen
      clear hlen
      have U := Lib.hid hu
      have hsz := hb.size
      clear hown hheld hb hu hel
      by_cases h20 : k < n
      · go_wp2_with fail
        refine region_go (fun w' => w'.cell? ⟨wr.heap.size, 0, none⟩ = some (.int .u64 l[k].id) ∧ w'.cell? ⟨wr.heap.size, 1, none⟩ = some (.int .u64 l[k].dist) ∧ w'.cell? ⟨wr.heap.size, 2, none⟩ = some (.slice up l[k].vec.length ucap)) (by kernel_rfl) ?hS0 (fun hH => ?_)
        case hS0 =>
          exact ⟨by go_simp, by go_simp, by go_simp⟩
        refine tkY (v := ?_) 0 hH rfl (fun _ _ _ h => h) ?hc ?hw ?hy ?_
        case hc => decide +kernel
        case hw => rfl
        case hy => (intro w hS; (try dsimp only at hS); go_simp; try with_reducible rfl)
        (try simp only [Act.put]); (repeat (first | simp only [List.setIfInBounds_toArray] | simp only [List.set_cons_zero] | simp only [List.set_cons_succ]))
        refine tkY (v := ?_) 1 hH rfl (fun _ _ _ h => h) ?hc ?hw ?hy ?_
        case hc => decide +kernel
        case hw => rfl
        case hy => (intro w hS; (try dsimp only at hS); go_simp; try with_reducible rfl)
        (try simp only [Act.put]); (repeat (first | simp only [List.setIfInBounds_toArray] | simp only [List.set_cons_zero] | simp only [List.set_cons_succ]))
        refine tkY (v := ?_) 2 hH rfl (fun _ _ _ h => h) ?hc ?hw ?hy ?_
        case hc => decide +kernel
        case hw => rfl
        case hy => (intro w hS; (try dsimp only at hS); go_simp; try with_reducible rfl)
        (try simp only [Act.put]); (repeat (first | simp only [List.setIfInBounds_toArray] | simp only [List.set_cons_zero] | simp only [List.set_cons_succ]))
        refine tkY (v := ?_) 3 hH rfl (fun _ _ _ h => h) ?hc ?hw ?hy ?_
        case hc => decide +kernel
        case hw => rfl
        case hy => (intro w hS; (try dsimp only at hS); go_simp; try with_reducible rfl)
        (try simp only [Act.put]); (repeat (first | simp only [List.setIfInBounds_toArray] | simp only [List.set_cons_zero] | simp only [List.set_cons_succ]))
        refine tkY (v := ?_) 4 hH rfl (fun _ _ _ h => h) ?hc ?hw ?hy ?_
        case hc => decide +kernel
        case hw => rfl
        case hy => (intro w hS; (try dsimp only at hS); go_simp; try with_reducible rfl)
        (try simp only [Act.put]); (repeat (first | simp only [List.setIfInBounds_toArray] | simp only [List.set_cons_zero] | simp only [List.set_cons_succ]))
        refine tkY (v := ?_) 5 hH rfl (fun _ _ _ h => h) ?hc ?hw ?hy ?_
        case hc => decide +kernel
        case hw => rfl
        case hy => (intro w hS; (try dsimp only at hS); go_simp; try with_reducible rfl)
        (try simp only [Act.put]); (repeat (first | simp only [List.setIfInBounds_toArray] | simp only [List.set_cons_zero] | simp only [List.set_cons_succ]))
        refine tkY (v := ?_) 6 hH rfl (fun _ _ _ h => h) ?hc ?hw ?hy ?_
        case hc => decide +kernel
        case hw => rfl
        case hy => (intro w hS; (try dsimp only at hS); go_simp; try with_reducible rfl)
        (try simp only [Act.put]); (repeat (first | simp only [List.setIfInBounds_toArray] | simp only [List.set_cons_zero] | simp only [List.set_cons_succ]))
        refine spk 7 rfl ?hr ?hw (fun K' hK => ?_)
        case hr => decide +kernel
        case hw => rfl
        go_simp
        have hbW := ((Below.refl wr.heap.size wr).alloc (Nat.le_refl _) (Obj.cells #[Value.int IntKind.u64 l[k].id, Value.int IntKind.u64 l[k].dist, Value.slice up l[k].vec.length ucap] 40)).drew
        refine (cutVec l[k].vec _ 8 _ (U.out.below hbW) (by decide) (.inr (by decide))).mono ?_
        intro e w4 hN
        obtain ⟨u4, rfl, hu4, hb4⟩ := hN
        obtain ⟨q4, n4, c4, rfl⟩ := own_form hu4
        have hb04 := hbW.trans (hb4.mono (by simp))
        obtain ⟨g5, c5, w5, hrun, hown5, hg5, hat5, -⟩ := run_push rowHit (own_below O.out.1 hb04) (by have := hb04.size; omega) #[.int .u64 l[k].id, .int .u64 l[k].dist, .slice q4 n4 c4] rfl (by simp [Value.oneCell']) (by simp [maxLen]; omega) (by omega)
        have hk5 : ∀ (j : Nat) (v : Value), (w4.alloc (.cells #[.int .u64 l[k].id, .int .u64 l[k].dist, .slice q4 n4 c4] 40)).cell? ⟨wr.heap.size, j, none⟩ = some v → w5.cell? ⟨wr.heap.size, j, none⟩ = some v := fun j v hc => hg5.cell hc (fun e => Nat.lt_irrefl _ (O.out.1.lt _ e.symm).2)
        have F := Lib.hid (hits_step (z := ⟨l[k].id, l[k].dist, l[k].vec.take 8⟩) O.out.1 O.out.2.1 O.out.2.2 hu4 (by simp) (by decide) hb04 hown5 hg5)
        clear hbW hb04 hown5 hg5 hat5 hu4
        try dsimp only
        refine hK.out _ _ ?hS (fun hH' => ?_)
        case hS =>
          exact ⟨below_cells hb4 hH.1, below_cells hb4 hH.2.1, below_cells hb4 hH.2.2⟩
        clear hK K' hH; have hH := hH'; clear hH'; (try simp only [Act.put]); (repeat (first | simp only [List.setIfInBounds_toArray] | simp only [List.set_cons_zero] | simp only [List.set_cons_succ]))
        refine tkY (v := ?_) 8 hH rfl (fun _ _ _ h => h) ?hc ?hw ?hy ?_
        case hc => decide +kernel
        case hw => rfl
        case hy => (intro w hS; (try dsimp only at hS); go_simp; try with_reducible rfl)
        (try simp only [Act.put]); (repeat (first | simp only [List.setIfInBounds_toArray] | simp only [List.set_cons_zero] | simp only [List.set_cons_succ]))
        refine spk 9 rfl ?hr ?hw (fun K' hK => ?_)
        case hr => decide +kernel
        case hw => rfl
        go_simp
        try dsimp only
        refine hK.out _ _ ?hS (fun hH' => ?_)
        case hS =>
          exact ⟨by rw [World.cell?_alloc_lt _ _ _ (lt_of_cell hH.1)]; exact hH.1, by rw [World.cell?_alloc_lt _ _ _ (lt_of_cell hH.2.1)]; exact hH.2.1, by rw [World.cell?_alloc_lt _ _ _ (lt_of_cell hH.2.2)]; exact hH.2.2⟩
        clear hK K' hH; have hH := hH'; clear hH'; (try simp only [Act.put]); (repeat (first | simp only [List.setIfInBounds_toArray] | simp only [List.set_cons_zero] | simp only [List.set_cons_succ]))
        refine spk 10 rfl ?hr ?hw (fun K' hK => ?_)
        case hr => decide +kernel
        case hw => rfl
        refine wp_append_eq hrun _ _ rfl rfl rfl ?_
        try dsimp only
        refine hK.out _ _ ?hS (fun hH' => ?_)
        case hS =>
          exact ⟨hk5 _ _ hH.1, hk5 _ _ hH.2.1, hk5 _ _ hH.2.2⟩
        clear hK K' hH; have hH := hH'; clear hH'; (try simp only [Act.put]); (repeat (first | simp only [List.setIfInBounds_toArray] | simp only [List.set_cons_zero] | simp only [List.set_cons_succ]))
        refine tkY (v := ?_) 11 hH rfl (fun _ _ _ h => h) ?hc ?hw ?hy ?_
        case hc => decide +kernel
        case hw => rfl
        case hy => (intro w hS; (try dsimp only at hS); go_simp; try with_reducible rfl)
        (try simp only [Act.put]); (repeat (first | simp only [List.setIfInBounds_toArray] | simp only [List.set_cons_zero] | simp only [List.set_cons_succ]))
        refine wpAnyH_done (by decide +kernel) ?_ _
        go_wp2_with fail
        go_roundg (l.length - (k + 1))
        case measure => omega
        case rel => exact ⟨k + 1, rs ++ [⟨l[k].id, l[k].dist, .slice q4 n4 c4⟩], rfl, by omega, by go_num, by have := L.out; rw [List.length_append, this]; simp; omega, F.out.1, by rw [hitsZ_snoc n l k hlt h20]; exact F.out.2.1, F.out.2.2⟩
      · go_wp2_with fail
        go_roundg (l.length - (k + 1))
        case measure => omega
        case rel => exact ⟨k + 1, rs, rfl, by omega, by go_num, by have := L.out; omega, O.out.1.alloc _, by rw [hitsZ_same n l k (by omega)]; exact O.out.2.1.below ((Below.refl _ _).alloc (Nat.le_refl _) _), O.out.2.2.alloc hsz _⟩
    · obtain rfl : k = l.length := by omega
      go_wp2_with fail
      go_ret
      exact ⟨_, rs, rfl, hown, by rw [List.take_length] at hheld; exact hheld, hb⟩

end Go.Proofs.YtfmlhdikagogcaaDoor
