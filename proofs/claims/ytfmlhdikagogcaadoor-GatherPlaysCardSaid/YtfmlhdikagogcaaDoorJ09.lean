/-
  The document's SameHits.
  How a law's contract closes its given row: the answer true, each argument as it read, nothing old turned.
  The table of note's kinds, as the row lays it: each cell.
  How arguments with depth read: slices of numbers inside structs, slices of pairs.
  An argument that is a slice of hits.
-/
import Derived.Test.YtfmlhdikagogcaaDoorJ08
import Derived.Test.YtfmlhdikagogcaaDoorJ01
import Derived.ProofKit
import Derived.LaidLaws
import Derived.FnData
import Derived.LaidHandle
import Derived.MakeChecks
import Derived.Test.YtfmlhdikagogcaaDoorTie
import Derived.Deep.Slices
import Derived.Deep.Strs
namespace Go.Proofs.YtfmlhdikagogcaaDoor
open Go.RowKit
set_option maxRecDepth 20000

theorem hz_ext {a b : Hz} (h1 : a.id = b.id) (h2 : a.dist = b.dist) (h3 : a.vec = b.vec) : a = b := by
  cases a; cases b; simp_all

set_option maxHeartbeats 4000000 in
theorem sameHits (F G : Nat → Prop) (l m : List Hz) (v u : Value) (w : World) (h : HitsF w F v l) (g : HitsF w G u m) :
    Calls Tryd.prog 14 #[v, u] w fun e w' => e = .returned (.bool (decide (l = m))) ∧ Drawn w w' := by
  obtain ⟨p, cap, rfl, hcap, hbig, -, -⟩ := id h
  have hl : l.length ≤ 9223372036854775807 := by omega
  clear hcap hbig
  obtain ⟨q, cap', rfl, hcap', hbig', -, -⟩ := id g
  have hl' : m.length ≤ 9223372036854775807 := by omega
  clear hcap' hbig'
  have H := Lib.hid h
  have GG := Lib.hid g
  clear h g
  by_cases h3 : l.length = m.length
  · have h4 : ((l.length : Int) != m.length) = false := by simp [h3]
    have H3 := Lib.hid h3
    clear h3
    go_enter Tryd.func14, Tryd.ntmps14
    go_wp2_with fail
    go_loopg [5, 13] l.length (fun q _ i wr => ∃ k : Nat, q = l.length - k ∧ k ≤ l.length ∧ i = .int .i64 k ∧ l.take k = m.take k ∧ Drawn w wr)
    case atStart => exact ⟨0, rfl, by omega, rfl, rfl, Drawn.refl _⟩
    case round =>
      obtain ⟨k, rfl, hk, rfl, hall, hb⟩ := hrel
      have A := Lib.hid (And.intro hall hb)
      clear hall hb
      by_cases hlt : k < l.length
      · have hlt' : k < m.length := by have := H3.out; omega
        obtain ⟨rs', -, -, hel⟩ := (H.out.below A.out.2.below).rows
        obtain ⟨b, off, up1, uc1, -, rfl, -, -, c0, c1, c2, hu1, -⟩ := hel k hlt
        obtain ⟨rs2, -, -, hel'⟩ := (GG.out.below A.out.2.below).rows
        obtain ⟨b', off', up2, uc2, -, rfl, -, -, c0', c1', c2', hu2, -⟩ := hel' k hlt'
        have U1 := Lib.hid hu1
        have U2 := Lib.hid hu2
        clear hu1 hu2 hel hel'
        have k0 : (0 : Int) ≤ (k : Int) := by omega
        have k1 : (k : Int) < (l.length : Int) := by omega
        have k2 : (k : Int) < (m.length : Int) := by omega
        by_cases hx : l[k].id = m[k].id
        · have hne : (l[k].id != m[k].id) = false := by simp [hx]
          have E := Lib.hid hx
          clear hx
          by_cases hy : l[k].dist = m[k].dist
          · have hne2 : (l[k].dist != m[k].dist) = false := by simp [hy]
            have E2 := Lib.hid hy
            clear hy
            by_cases hv : l[k].vec = m[k].vec
            · have hd : decide (l[k].vec = m[k].vec) = true := by simp [hv]
              have V := Lib.hid hv
              clear hv
              have S := fun n => sameVecQ l[k].vec m[k].vec (.slice up1 l[k].vec.length uc1) (.slice up2 m[k].vec.length uc2) (wr.drewN n) (U1.out.below (Drawn.below ⟨n, rfl⟩)) (U2.out.below (Drawn.below ⟨n, rfl⟩))
              rw [hd] at S
              have SS := Lib.hid S
              clear S hd
              go_wp2_with fail
              go_quiet ((go_at_call 42; exact Calls.quiet_of (SS.out _)))
              go_wp2_with fail
              go_roundg (l.length - (k + 1))
              case measure => omega
              case rel => exact ⟨k + 1, rfl, by omega, by go_num, by rw [List.take_succ_eq_append_getElem hlt, List.take_succ_eq_append_getElem hlt', A.out.1, hz_ext E.out E2.out V.out], A.out.2.drewN _⟩
            · have hd : decide (l[k].vec = m[k].vec) = false := by simp [hv]
              have V := Lib.hid hv
              clear hv
              have S := fun n => sameVecQ l[k].vec m[k].vec (.slice up1 l[k].vec.length uc1) (.slice up2 m[k].vec.length uc2) (wr.drewN n) (U1.out.below (Drawn.below ⟨n, rfl⟩)) (U2.out.below (Drawn.below ⟨n, rfl⟩))
              rw [hd] at S
              have SS := Lib.hid S
              clear S hd
              go_wp2_with fail
              go_quiet ((go_at_call 42; exact Calls.quiet_of (SS.out _)))
              go_wp2_with fail
              go_ret
              exact ⟨ret_bool (by simp; intro e; subst e; exact V.out rfl), A.out.2.drewN _⟩
          · have hne2 : (l[k].dist != m[k].dist) = true := by simp [hy]
            have E2 := Lib.hid hy
            clear hy
            go_wp2_with fail
            go_quiet (fail)
            go_wp2_with fail
            go_ret
            exact ⟨ret_bool (by simp; intro e; subst e; exact E2.out rfl), A.out.2.drewN _⟩
        · have hne : (l[k].id != m[k].id) = true := by simp [hx]
          have E := Lib.hid hx
          clear hx
          go_wp2_with fail
          go_quiet (fail)
          go_wp2_with fail
          go_ret
          exact ⟨ret_bool (by simp; intro e; subst e; exact E.out rfl), A.out.2.drewN _⟩
      · go_wp2_with fail
        go_ret
        have h3 := H3.out
        have h4 := A.out.1
        rw [List.take_of_length_le (by omega), List.take_of_length_le (by omega)] at h4
        exact ⟨ret_bool (by simp [h4]), A.out.2⟩
  · have h4 : ((l.length : Int) != m.length) = true := by simp; omega
    go_enter Tryd.func14, Tryd.ntmps14
    go_wp2_with fail
    go_ret
    exact ⟨ret_bool (by simp; intro e; exact h3 (by rw [e])), Drawn.refl _⟩

end Go.Proofs.YtfmlhdikagogcaaDoor

namespace Go.Proofs.YtfmlhdikagogcaaDoor
open Go.ChangeShapes Go.WideShapes Go.ChangeAt Go.RowKit
set_option maxRecDepth 20000

theorem own : ownKnob Tryd.prog.godebug = none := by kernel_rfl
theorem laidOut : laidOutB Tryd.prog = true := by kernel_rfl

/-- a law's contract: whatever the world, it answers true, and nothing that was there has turned -/
def Law (f : FuncId) (args : Array Value) (w : World) : Prop := Calls Tryd.prog f args w fun e w' => e = .returned (.bool true) ∧ Below w.heap.size w w'

theorem trodAll_below {H : Type} {enc : TypeId × Value → H} {W W' : World} (hb : Below W.heap.size W W') : ∀ (ts : List TypeId) (vs : List Value) (ds : List (DataW H)) (ps : List MemPlace),
    (∀ t ∈ ts, Tryd.prog.readableRec t = true ∧ t < Tryd.prog.types.size) → DataW.TrodAll enc Tryd.prog W 0 (fun _ => true) true ts vs ds ps → (∀ x ∈ ps, x.block < W.heap.size) →
    DataW.TrodAll enc Tryd.prog W' 0 (fun b => decide (b < W.heap.size)) true ts vs ds ps
  | [], [], [], _, _, h, _ => h
  | t :: ts, v :: vs, d :: ds, ps, hr, h, hlt => by
    obtain ⟨p, q, h1, h2, rfl⟩ := h
    have ht := hr t (by simp)
    exact ⟨p, q, Below.trod laidOut ht.1 ht.2 h1 hb fun x hx => hlt x (by simp [hx]), trodAll_below hb ts vs ds q (fun t' ht' => hr t' (by simp [ht'])) h2 fun x hx => hlt x (by simp [hx]), rfl⟩
  | [], _ :: _, _, _, _, h, _ => h.elim
  | [], [], _ :: _, _, _, h, _ => h.elim
  | _ :: _, [], _, _, _, h, _ => h.elim
  | _ :: _, _ :: _, [], _, _, h, _ => h.elim

theorem law_post {H : Type} {enc : TypeId × Value → H} {f : Func} {s : ChangeSpec} {W W' : World} {args : Array Value} {ds : List (DataW H)} {before : List MemPlace}
    (hW : DataW.Whole enc Tryd.prog f.params.toList s.vars false W args.toList ds [] before) (hvars : s.vars = []) (hres : f.resultTypes = #[4])
    (h1 : (s.fn H (ds ++ [])).results = [.lit (.bool true)]) (h2 : (s.fn H (ds ++ [])).args = ds) (h3 : (s.fn H (ds ++ [])).vars = [])
    (hr : ∀ t ∈ f.params.toList, Tryd.prog.readableRec t = true ∧ t < Tryd.prog.types.size) (hb : Below W.heap.size W W') :
    s.post enc Tryd.prog f false true false false W args (.bool true) W' := by
  have hW' := hW
  obtain ⟨p, q, hA, hV, rfl, _, _⟩ := hW
  rw [hvars] at hV
  obtain ⟨_, rfl⟩ := trodVars_none hV
  refine ⟨ds, [], p ++ [], [], p, [], hW', ?_, ?_, ?_, hb.frame _, fun h => by cases h⟩
  · rw [h1, hres]; exact trodAll_mk1 (shut_bool Tryd.underlying4 true)
  · rw [h2]; exact trodAll_below hb _ _ _ _ hr hA fun x hx => hW'.lt x (by simp [hx])
  · rw [h3, hvars]; rfl

/-- an argument that is a slice of numbers reads so -/
theorem open_nums {H : Type} {enc : TypeId × Value → H} {W : World} {base t e : TypeId} {k : IntKind} {v : Value} {d : DataW H} {ps : List MemPlace}
    (ht : Tryd.prog.underlying t = some (.slice e)) (he : Tryd.prog.underlying e = some (.int k)) (hc : Tryd.prog.cellsOf e = 1)
    (hok : Value.okWide Tryd.prog W .any base t v) (h : DataW.Trod enc Tryd.prog W 0 (fun _ => true) true t v d ps) :
    ∃ xs : List Int, Nums W k v xs ∧ ∀ x ∈ xs, (Lit.int k x).wf = true := by
  obtain ⟨a0, len, cap, rfl⟩ := okWide_slice ht hok
  obtain ⟨fuel, hf⟩ := h
  rcases open_ints ht he hc hf with ⟨hcs, hx⟩ | ⟨a, len', cap', zs, hcs, _, hl, hm, hz, hx, hcell, hwz⟩
  · simp [Value.cells] at hcs
    obtain ⟨rfl, rfl, rfl⟩ := hcs
    exact ⟨[], Nums.mk (xs := []) (by simp) (by simp) (by simp) (by simp), by simp⟩
  · simp [Value.cells] at hcs
    obtain ⟨rfl, rfl, rfl⟩ := hcs
    simp only [if_true] at hz
    have hlen : (zs.take len).length = len := by simp; omega
    refine ⟨zs.take len, ?_, fun x hx => hwz x (List.mem_of_mem_take hx)⟩
    have key : Nums W k (.slice (some a) (zs.take len).length cap) (zs.take len) := by
      refine Nums.mk (by omega) (by simpa [maxLen] using hm) (by simp) fun i hi => ?_
      have hi' : i < zs.length := by omega
      have := hcell i hi'
      obtain ⟨b, off, spot⟩ := a
      obtain rfl : spot = none := by
        simpa [Addr.add] using World.cell?_spot (hcell 0 (by omega))
      rw [Addr.add_lit] at this
      refine ⟨b, off, rfl, ?_⟩
      rw [this]
      simp [List.getD, List.getElem?_eq_getElem hi']
    rw [hlen] at key
    exact key

end Go.Proofs.YtfmlhdikagogcaaDoor

namespace Go.Proofs.YtfmlhdikagogcaaDoor
open Go.ChangeShapes Go.WideShapes Go.ChangeAt Go.RowKit
set_option maxRecDepth 20000

/-- the kinds of note: name and fields -/
def tabZ : List (List UInt8 × Int) := [([], 0), ([65, 115, 107], 4098), ([82, 101, 112, 108, 121], 518), ([80, 114, 101, 112, 97, 114, 101], 6153), ([86, 111, 116, 101], 513), ([68, 101, 99, 105, 100, 101], 517), ([65, 99, 107], 1), ([80, 114, 111, 98, 101], 1), ([81, 117, 101, 114, 121], 8672), ([76, 111, 111, 107], 8692), ([83, 101, 101, 110], 16928), ([82, 101, 115, 117, 108, 116], 16932), ([80, 114, 101, 112, 97, 114, 101, 100], 6153), ([67, 111, 109, 109, 105, 116, 116, 101, 100], 5), ([65, 98, 111, 114, 116, 101, 100], 1), ([83, 119, 101, 112, 116], 16), ([69, 112, 111, 99, 104], 16), ([67, 111, 109, 109, 105, 116], 2055), ([69, 110, 100], 1), ([66, 101, 103, 105, 110], 7179), ([89, 101, 115], 1025), ([65, 99, 107, 101, 100], 1025), ([71, 111, 110, 101], 1)]

/-- the table lies in block 0 -/
def Tab (W : World) : Prop := ∀ k (hk : k < tabZ.length), W.cell? ⟨0, k * 2, none⟩ = some (.string ⟨tabZ[k].1.toArray⟩) ∧ W.cell? ⟨0, k * 2 + 1, none⟩ = some (.int .i64 tabZ[k].2)

theorem Tab.below {W W' : World} (h : Tab W) (hb : Below W.heap.size W W') : Tab W' := fun k hk => ⟨below_cells hb (h k hk).1, below_cells hb (h k hk).2⟩

def laidZ {H : Type} : DataW H := .agg (tabZ.map fun x => .agg [.lit (.string x.1), .lit (.int .i64 x.2)])

theorem laid_eq {H : Type} : (Rows.laid_armillary_note_sorts : DataW H) = laidZ := rfl

theorem mapM_each {α β : Type} {f : α → Option β} : ∀ {l : List α} {xs : List β}, l.mapM f = some xs → xs.length = l.length ∧ ∀ i (h : i < l.length) (h' : i < xs.length), f l[i] = some xs[i]
  | [], xs, h => by
    simp at h; subst h; simp
  | a :: l, xs, h => by
    simp only [List.mapM_cons, Option.bind_eq_bind, Option.bind_eq_some_iff, Option.pure_def, Option.some.injEq] at h
    obtain ⟨y, h1, ys, h2, rfl⟩ := h
    obtain ⟨h3, h4⟩ := mapM_each h2
    refine ⟨by simp [h3], fun i hi hi' => ?_⟩
    cases i with
    | zero => exact h1
    | succ i => exact h4 i (by simpa using hi) (by simpa using hi')

theorem gN : Tryd.prog.globalNamed "armillary/note.sorts" = some 0 := by kernel_rfl
theorem gNType : (Tryd.prog.globals[0]?).map (·.type) = some 141 := by kernel_rfl
theorem gcells : Tryd.prog.cellsOf 141 = 46 := by kernel_rfl
theorem gcells2 : Tryd.prog.cellsOf 134 = 2 := by kernel_rfl
theorem gcells1 : Tryd.prog.cellsOf 9 = 1 := by kernel_rfl
theorem gcells3 : Tryd.prog.cellsOf 3 = 1 := by kernel_rfl

theorem tab_of_laid {W : World} (h : laidMet Tryd.prog [("armillary/note.sorts", Rows.laid_armillary_note_sorts)] W) : Tab W := by
  obtain ⟨ps, ⟨g, t, cs, fuel, p, q, hg, ht, hvar, hd, _, _⟩, _⟩ := h
  obtain rfl := Option.some.inj (gN.symm.trans hg)
  obtain rfl := Option.some.inj (gNType.symm.trans ht)
  rw [laid_eq] at hd
  obtain ⟨l⟩ := cs
  cases fuel with
  | zero => simp [DataW.trod] at hd
  | succ fuel =>
    unfold DataW.trod at hd
    simp only [Tryd.underlying141, gcells, gcells2] at hd
    split at hd
    · rename_i hl
      simp only [Option.map_eq_some_iff] at hd
      obtain ⟨xs, hxs, hx⟩ := hd
      obtain ⟨hlen, heach⟩ := mapM_each hxs
      rw [List.length_range] at hlen
      simp only [laidZ, Prod.mk.injEq, DataW.agg.injEq] at hx
      have h23 : tabZ.length = 23 := rfl
      intro k hk
      have hkx : k < xs.length := by omega
      have hk1 := heach k (by rw [List.length_range]; omega) hkx
      simp only [List.getElem_range] at hk1
      have hxk : xs[k].1 = .agg [.lit (.string tabZ[k].1), .lit (.int .i64 tabZ[k].2)] := by
        have h1 : (xs.map (·.1))[k]? = (tabZ.map fun x => (DataW.agg [.lit (.string x.1), .lit (.int .i64 x.2)] : DataW Unit))[k]? := by rw [hx.1]
        simpa [List.getElem?_eq_getElem hkx, List.getElem?_eq_getElem hk] using h1
      obtain ⟨y0, y1, n', e, hc, t0, t1⟩ := trod_struct2 Tryd.underlying134 hk1
      rw [e] at hxk
      simp only [DataW.agg.injEq, List.cons.injEq, and_true] at hxk
      obtain ⟨s, e0, rfl, -⟩ := DataW.trod_string Tryd.underlying9 t0
      obtain ⟨z, e1, rfl, -⟩ := DataW.trod_int Tryd.underlying3 t1
      simp only [DataW.lit.injEq, Lit.string.injEq, Lit.int.injEq, true_and] at hxk
      simp only [gcells1, gcells3, List.drop_zero] at e0 e1
      have hl46 : l.length = 46 := by simpa using hl
      have g0 := World.var?_cell gN hvar (k * 2)
      have g1 := World.var?_cell gN hvar (k * 2 + 1)
      have q0 : l[k * 2]? = some (.string s) := by
        have := congrArg (fun x : List Value => x[0]?) e0
        simpa [List.getElem?_take, List.getElem?_drop] using this
      have q1 : l[k * 2 + 1]? = some (.int .i64 z) := by
        have := congrArg (fun x : List Value => x[0]?) e1
        simpa [List.getElem?_take, List.getElem?_drop, Nat.add_comm] using this
      have hs : s = ⟨tabZ[k].1.toArray⟩ := by rw [← hxk.1]
      refine ⟨?_, ?_⟩
      · rw [g0]; simpa [← hs] using q0
      · rw [g1, ← hxk.2]; simpa using q1
    · cases hd

def cells46 : Array Value := (tabZ.flatMap fun x => [Value.string ⟨x.1.toArray⟩, Value.int .i64 x.2]).toArray

/-- A world that meets the row's condition: the settled one, the table laid. -/
noncomputable def laidWorld (os : Os) : World :=
  { World.holding Tryd.prog os ⟨#[], #[], []⟩ with heap := (World.holding Tryd.prog os ⟨#[], #[], []⟩).heap.modify 0 fun
      | .cells _ t frozen => .cells cells46 t frozen
      | o => o }

theorem laid_met (os : Os) (args : Array Value) : laidMet Tryd.prog [("armillary/note.sorts", Rows.laid_armillary_note_sorts)] ((laidWorld os).forCall (fun _ _ => 0) ⟨#[], args, []⟩).memory :=
  laidMet_of_run (ps := (List.range 46).map fun i => .cell 0 i) 8 (by kernel_rfl) (by kernel_rfl) (by kernel_rfl)

theorem laid_plain (W : World) : laidMetH Tryd.prog [("armillary/note.sorts", Rows.laid_armillary_note_sorts)] W = laidMet Tryd.prog [("armillary/note.sorts", Rows.laid_armillary_note_sorts)] W :=
  Go.MakeChecks.laidMetH_plain _ _ _ (by kernel_rfl)

end Go.Proofs.YtfmlhdikagogcaaDoor

namespace Go.Proofs.YtfmlhdikagogcaaDoor
open Go.ChangeShapes Go.WideShapes Go.ChangeAt Go.RowKit Go.Deep
set_option maxRecDepth 20000

theorem exists_list {α : Type} (n : Nat) {p : Nat → α → Prop} (h : ∀ i, i < n → ∃ x, p i x) : ∃ l : List α, l.length = n ∧ ∀ i (hi : i < l.length), p i l[i] := by
  induction n with
  | zero => exact ⟨[], rfl, fun i hi => absurd hi (by simp)⟩
  | succ n ih =>
    obtain ⟨l, hl, hp⟩ := ih fun i hi => h i (by omega)
    obtain ⟨x, hx⟩ := h n (by omega)
    refine ⟨l ++ [x], by simp [hl], fun i hi => ?_⟩
    simp only [List.length_append, List.length_cons, List.length_nil] at hi
    rcases Nat.lt_or_ge i l.length with h1 | h1
    · rw [List.getElem_append_left h1]; exact hp i h1
    · have e : i = n := by omega
      subst e
      rw [List.getElem_append_right (by omega)]
      simp [hl, hx]

section
variable {H : Type} {enc : TypeId × Value → H} {W : World}

/-- a slice of numbers, wherever it is met -/
theorem nums_of_trod {t e : TypeId} {k : IntKind} {fuel : Nat} {cs : List Value} {x : DataW H × List MemPlace}
    (ht : Tryd.prog.underlying t = some (.slice e)) (he : Tryd.prog.underlying e = some (.int k)) (hc : Tryd.prog.cellsOf e = 1)
    (hf : DataW.trod enc Tryd.prog W 0 (fun _ => true) true fuel t cs = some x) : ∃ v xs, cs = [v] ∧ Nums W k v xs ∧ ∀ x ∈ xs, (Lit.int k x).wf = true := by
  rcases open_ints ht he hc hf with ⟨hcs, hx⟩ | ⟨a, len', cap', zs, hcs, _, hl, hm, hz, hx, hcell, hwz⟩
  · exact ⟨_, [], hcs, Nums.mk (xs := []) (by simp) (by simp) (by simp) (by simp), by simp⟩
  · simp only [if_true] at hz
    have hlen : (zs.take len').length = len' := by simp; omega
    refine ⟨_, zs.take len', hcs, ?_, fun x hx => hwz x (List.mem_of_mem_take hx)⟩
    have key : Nums W k (.slice (some a) (zs.take len').length cap') (zs.take len') := by
      refine Nums.mk (by omega) (by simpa [maxLen] using hm) (by simp) fun i hi => ?_
      have hi' : i < zs.length := by omega
      have := hcell i hi'
      obtain ⟨b, off, spot⟩ := a
      obtain rfl : spot = none := by
        simpa [Addr.add] using World.cell?_spot (hcell 0 (by omega))
      rw [Addr.add_lit] at this
      refine ⟨b, off, rfl, ?_⟩
      rw [this]
      simp [List.getD, List.getElem?_eq_getElem hi']
    rw [hlen] at key
    exact key

theorem cells_two {a : Addr} {cs : List Value} (h : W.cells? 0 a 2 = some cs) : ∃ c0 c1, cs = [c0, c1] ∧ W.cell? (a.add 0) = some c0 ∧ W.cell? (a.add 1) = some c1 := by
  unfold World.cells? at h
  simp only [Nat.zero_le, if_true, List.range_succ, List.range_zero, List.nil_append, List.cons_append, List.mapM_cons, List.mapM_nil] at h
  cases h0 : W.cell? (a.add 0) with
  | none => rw [h0] at h; simp at h
  | some c0 =>
    cases h1 : W.cell? (a.add 1) with
    | none => rw [h0, h1] at h; simp at h
    | some c1 =>
      rw [h0, h1] at h
      simp at h
      exact ⟨c0, c1, h.symm, rfl, rfl⟩

/-- a slice of pairs: a number and a slice of numbers each -/
theorem recs_of_trod {t e e0 e1 e2 : TypeId} {f0 f1 : Field} {fuel : Nat} {cs : List Value} {x : DataW H × List MemPlace}
    (ht : Tryd.prog.underlying t = some (.slice e)) (he : Tryd.prog.underlying e = some (.struct #[f0, f1])) (hce : Tryd.prog.cellsOf e = 2)
    (h0 : f0.type = e0 ∧ f0.offset = 0) (hu0 : Tryd.prog.underlying e0 = some (.int .u64)) (hc0 : Tryd.prog.cellsOf e0 = 1)
    (h1 : f1.type = e1 ∧ f1.offset = 1) (hu1 : Tryd.prog.underlying e1 = some (.slice e2)) (hc1 : Tryd.prog.cellsOf e1 = 1) (hu2 : Tryd.prog.underlying e2 = some (.int .i32)) (hc2 : Tryd.prog.cellsOf e2 = 1)
    (hf : DataW.trod enc Tryd.prog W 0 (fun _ => true) true fuel t cs = some x) :
    ∃ v l, cs = [v] ∧ Recs W v l ∧ ∀ r ∈ l, (Lit.int .u64 r.1).wf = true ∧ ∀ y ∈ r.2, (Lit.int .i32 y).wf = true := by
  rcases open_slice ht hf with ⟨hcs, _⟩ | ⟨a, len, cap, m, n, D, Pl, hcs, _, hl, hm, hmm, _, hel⟩
  · exact ⟨_, [], hcs, ⟨none, 0, rfl, by simp, by simp, by simp, fun i hi => absurd hi (by simp)⟩, by simp⟩
  · simp only [if_true] at hmm
    subst hmm
    rw [hce] at hel
    have each : ∀ i, i < len → ∃ r : Int × List Int, ∃ u, W.cell? (a.add (i * 2)) = some (.int .u64 r.1) ∧ W.cell? (a.add (i * 2 + 1)) = some u ∧ Nums W .i32 u r.2 ∧ (Lit.int .u64 r.1).wf = true ∧ ∀ y ∈ r.2, (Lit.int .i32 y).wf = true := by
      intro i hi
      obtain ⟨cs', hcs', htr⟩ := hel i (by omega)
      obtain ⟨c0, c1, rfl, g0, g1⟩ := cells_two hcs'
      obtain ⟨y0, y1, n', _, _, t0, t1⟩ := trod_struct2 he htr
      rw [h0.1, h0.2, hc0] at t0
      rw [h1.1, h1.2, hc1] at t1
      obtain ⟨id, e0', _, w0⟩ := DataW.trod_int hu0 t0
      obtain ⟨u, xs, e1', hn, wx⟩ := nums_of_trod hu1 hu2 hc2 t1
      simp at e0' e1'
      subst e0' e1'
      rw [add_add] at g0 g1
      exact ⟨(id, xs), c1, by simpa using g0, g1, hn, w0, wx⟩
    obtain ⟨l, hll, hp⟩ := exists_list len each
    refine ⟨_, l, hcs, ⟨some a, m, by rw [hll], by omega, by simpa [maxLen] using hm, by simp, fun i hi => ?_⟩, fun r hr => ?_⟩
    · obtain ⟨u, g0, g1, hn, _⟩ := hp i hi
      have h00 := (hp 0 (by omega)).choose_spec.1
      obtain ⟨b, off, spot⟩ := a
      obtain rfl : spot = none := by
        simpa [Addr.add] using World.cell?_spot h00
      rw [Addr.add_lit] at g0 g1
      exact ⟨b, off, u, rfl, g0, by rw [Nat.add_assoc]; exact g1, hn⟩
    · obtain ⟨i, hi, rfl⟩ := List.mem_iff_getElem.1 hr
      obtain ⟨u, _, _, _, w0, wx⟩ := hp i hi
      exact ⟨w0, wx⟩

end

end Go.Proofs.YtfmlhdikagogcaaDoor

namespace Go.Proofs.YtfmlhdikagogcaaDoor
open Go.ChangeShapes Go.WideShapes Go.ChangeAt Go.RowKit Go.Deep
set_option maxRecDepth 20000

def Hz.Fits (h : Hz) : Prop := 0 ≤ h.id ∧ h.id ≤ 18446744073709551615 ∧ 0 ≤ h.dist ∧ h.dist ≤ 18446744073709551615 ∧ ∀ x ∈ h.vec, -2147483648 ≤ x ∧ x ≤ 2147483647

section
variable {H : Type} {enc : TypeId × Value → H} {W : World}

theorem cells_three {a : Addr} {cs : List Value} (h : W.cells? 0 a 3 = some cs) : ∃ c0 c1 c2, cs = [c0, c1, c2] ∧ W.cell? (a.add 0) = some c0 ∧ W.cell? (a.add 1) = some c1 ∧ W.cell? (a.add 2) = some c2 := by
  unfold World.cells? at h
  simp only [Nat.zero_le, if_true, List.range_succ, List.range_zero, List.nil_append, List.cons_append, List.mapM_cons, List.mapM_nil] at h
  cases h0 : W.cell? (a.add 0) with
  | none => rw [h0] at h; simp at h
  | some c0 =>
    cases h1 : W.cell? (a.add 1) with
    | none => rw [h0, h1] at h; simp at h
    | some c1 =>
      cases h2 : W.cell? (a.add 2) with
      | none => rw [h0, h1, h2] at h; simp at h
      | some c2 =>
        rw [h0, h1, h2] at h
        simp at h
        exact ⟨c0, c1, c2, h.symm, rfl, rfl, rfl⟩

theorem hits_of_trod {t e e0 e1 e2 e4 : TypeId} {f0 f1 f2 : Field} {fuel : Nat} {cs : List Value} {x : DataW H × List MemPlace}
    (ht : Tryd.prog.underlying t = some (.slice e)) (he : Tryd.prog.underlying e = some (.struct #[f0, f1, f2])) (hce : Tryd.prog.cellsOf e = 3)
    (h0 : f0.type = e0 ∧ f0.offset = 0) (hu0 : Tryd.prog.underlying e0 = some (.int .u64)) (hc0 : Tryd.prog.cellsOf e0 = 1)
    (h1 : f1.type = e1 ∧ f1.offset = 1) (hu1 : Tryd.prog.underlying e1 = some (.int .u64)) (hc1 : Tryd.prog.cellsOf e1 = 1)
    (h2 : f2.type = e2 ∧ f2.offset = 2) (hu2 : Tryd.prog.underlying e2 = some (.slice e4)) (hc2 : Tryd.prog.cellsOf e2 = 1) (hu4 : Tryd.prog.underlying e4 = some (.int .i32)) (hc4 : Tryd.prog.cellsOf e4 = 1)
    (hf : DataW.trod enc Tryd.prog W 0 (fun _ => true) true fuel t cs = some x) :
    ∃ v l, cs = [v] ∧ HitsF W (fun _ => True) v l ∧ ∀ r ∈ l, r.Fits := by
  rcases open_slice ht hf with ⟨hcs, _⟩ | ⟨a, len, cap, m, n, D, Pl, hcs, _, hl, hm, hmm, _, hel⟩
  · exact ⟨_, [], hcs, ⟨none, 0, rfl, by simp, by simp, by simp, fun i hi => absurd hi (by simp)⟩, by simp⟩
  · simp only [if_true] at hmm
    subst hmm
    rw [hce] at hel
    have each : ∀ i, i < len → ∃ r : Hz, ∃ u, W.cell? (a.add (i * 3)) = some (.int .u64 r.id) ∧ W.cell? (a.add (i * 3 + 1)) = some (.int .u64 r.dist) ∧ W.cell? (a.add (i * 3 + 2)) = some u ∧ Nums W .i32 u r.vec ∧ r.Fits := by
      intro i hi
      obtain ⟨cs', hcs', htr⟩ := hel i (by omega)
      obtain ⟨c0, c1, c2, rfl, g0, g1, g2⟩ := cells_three hcs'
      obtain ⟨y0, y1, y2, n', _, _, t0, t1, t2⟩ := trod_struct3 he htr
      rw [h0.1, h0.2, hc0] at t0
      rw [h1.1, h1.2, hc1] at t1
      rw [h2.1, h2.2, hc2] at t2
      obtain ⟨z0, q0, _, w0⟩ := DataW.trod_int hu0 t0
      obtain ⟨z1, q1, _, w1⟩ := DataW.trod_int hu1 t1
      obtain ⟨u, xs, q2, hn, wx⟩ := nums_of_trod hu2 hu4 hc4 t2
      simp at q0 q1 q2
      subst q0 q1 q2
      rw [add_add] at g0 g1 g2
      simp [Lit.wf, IntKind.min, IntKind.max, IntKind.signed, IntKind.bits] at w0 w1 wx
      exact ⟨⟨z0, z1, xs⟩, c2, by simpa using g0, g1, g2, hn, w0.1, w0.2, w1.1, w1.2, wx⟩
    obtain ⟨l, hll, hp⟩ := exists_list len each
    refine ⟨_, l, hcs, ⟨some a, m, by rw [hll], by omega, by simpa [maxLen] using hm, by simp, fun i hi => ?_⟩, fun r hr => ?_⟩
    · obtain ⟨u, g0, g1, g2, hn, _⟩ := hp i hi
      have h00 := (hp 0 (by omega)).choose_spec.1
      obtain ⟨b, off, spot⟩ := a
      obtain rfl : spot = none := by
        simpa [Addr.add] using World.cell?_spot h00
      rw [Addr.add_lit] at g0 g1 g2
      exact ⟨b, off, u, rfl, trivial, g0, by rw [Nat.add_assoc]; exact g1, by rw [Nat.add_assoc, Nat.add_assoc]; exact g2, hn, fun _ _ _ => trivial⟩
    · obtain ⟨i, hi, rfl⟩ := List.mem_iff_getElem.1 hr
      exact (hp i hi).choose_spec.2.2.2.2

/-- an argument that is a slice of hits -/
theorem open_hits {base : Nat} {v : Value} {d : DataW H} {ps : List MemPlace}
    (hok : Value.okWide Tryd.prog W .any base 35 v) (h : DataW.Trod enc Tryd.prog W 0 (fun _ => true) true 35 v d ps) :
    ∃ l, HitsF W (fun _ => True) v l ∧ ∀ r ∈ l, r.Fits := by
  obtain ⟨a0, len, cap, rfl⟩ := okWide_slice Tryd.underlying35 hok
  obtain ⟨fuel, hf⟩ := h
  obtain ⟨v, l, hcs, hr⟩ := hits_of_trod Tryd.underlying35 Tryd.underlying40 (by kernel_rfl) ⟨rfl, rfl⟩ Tryd.underlying29 (by kernel_rfl) ⟨rfl, rfl⟩ Tryd.underlying29 (by kernel_rfl) ⟨rfl, rfl⟩ Tryd.underlying32 (by kernel_rfl) Tryd.underlying21 (by kernel_rfl) hf
  simp [Value.cells] at hcs
  subst hcs
  exact ⟨l, hr⟩

end

end Go.Proofs.YtfmlhdikagogcaaDoor
