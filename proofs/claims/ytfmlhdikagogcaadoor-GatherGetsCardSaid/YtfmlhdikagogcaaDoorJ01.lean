/-
  Ground words of this family: how a slice in memory reads as a list of cells, and what a call leaves as it was.
  How a law's contract closes its given row: the answer true, each argument as it read, nothing old turned.
  The table of note's kinds, as the row lays it: each cell.
-/
import Derived.Test.YtfmlhdikagogcaaDoorRows
import Derived.WalkKit
import Derived.WalkSpells
import Derived.WalkLawsBesides
import Derived.Lib.Hide
import Derived.Deep.LoopGhost
import Derived.Deep.QuietTactic
import Derived.BigQuiet
import Derived.Handy
import Derived.ProofKit
import Derived.LaidLaws
import Derived.FnData
import Derived.LaidHandle
import Derived.MakeChecks
import Derived.Test.YtfmlhdikagogcaaDoorTie
namespace Go.Proofs.YtfmlhdikagogcaaDoor
open Go.RowKit
set_option maxRecDepth 20000

/-- the slice value v of n elements (size cells each) reads in w as the cells xs -/
def Reads (w : World) (v : Value) (size n : Nat) (xs : List Value) : Prop :=
  xs.length = n * size ∧ ∃ p cap, v = .slice p n cap ∧ n ≤ cap ∧ cap ≤ 9223372036854775807 ∧ (p = none → cap = 0) ∧
    ∀ j u, xs[j]? = some u → ∃ b off, p = some ⟨b, off, none⟩ ∧ w.cell? ⟨b, off + j, none⟩ = some u

/-- a slice of numbers of kind k -/
def Nums (w : World) (k : IntKind) (v : Value) (xs : List Int) : Prop := Reads w v 1 xs.length (xs.map (Value.int k))

theorem Nums.slice {w : World} {k : IntKind} {v : Value} {xs : List Int} (h : Nums w k v xs) : ∃ p cap, v = .slice p xs.length cap ∧ xs.length ≤ cap ∧ cap ≤ 9223372036854775807 ∧ (p = none → cap = 0) ∧
    ∀ i (hi : i < xs.length), ∃ b off, p = some ⟨b, off, none⟩ ∧ w.cell? ⟨b, off + i, none⟩ = some (.int k xs[i]) := by
  obtain ⟨_, p, cap, hv, h1, h2, h3, h4⟩ := h
  exact ⟨p, cap, hv, h1, h2, h3, fun i hi => h4 i _ (by simp [List.getElem?_eq_getElem hi])⟩

theorem Nums.mk {w : World} {k : IntKind} {p : Option Addr} {cap : Nat} {xs : List Int} (h1 : xs.length ≤ cap) (h2 : cap ≤ 9223372036854775807) (h3 : p = none → cap = 0)
    (h4 : ∀ i (hi : i < xs.length), ∃ b off, p = some ⟨b, off, none⟩ ∧ w.cell? ⟨b, off + i, none⟩ = some (.int k xs[i])) : Nums w k (.slice p xs.length cap) xs := by
  refine ⟨by simp, p, cap, rfl, h1, h2, h3, fun j u hj => ?_⟩
  rw [List.getElem?_map, Option.map_eq_some_iff] at hj
  obtain ⟨x, hx, rfl⟩ := hj
  obtain ⟨hj', rfl⟩ := List.getElem?_eq_some_iff.1 hx
  exact h4 j hj'

theorem lt_of_cell {w : World} {a : Addr} {v : Value} (h : w.cell? a = some v) : a.block < w.heap.size := by
  refine Nat.lt_of_not_le fun hge => ?_
  simp [World.cell?, Array.getElem?_eq_none hge] at h

theorem Reads.below {w w' : World} {v : Value} {size n : Nat} {xs : List Value} (h : Reads w v size n xs) (hb : Below w.heap.size w w') : Reads w' v size n xs := by
  obtain ⟨h0, p, cap, hv, h1, h2, h3, h4⟩ := h
  refine ⟨h0, p, cap, hv, h1, h2, h3, fun j u hj => ?_⟩
  obtain ⟨b, off, hp, hc⟩ := h4 j u hj
  exact ⟨b, off, hp, by rw [hb.cell (lt_of_cell hc)]; exact hc⟩

theorem Nums.below {w w' : World} {k : IntKind} {v : Value} {xs : List Int} (h : Nums w k v xs) (hb : Below w.heap.size w w') : Nums w' k v xs := Reads.below h hb

theorem Nums.elem {w : World} {k : IntKind} {p : Option Addr} {n cap : Nat} {xs : List Int} (h : Nums w k (.slice p n cap) xs) {j : Nat} (hj : j < xs.length) :
    ∃ b off, p = some ⟨b, off, none⟩ ∧ w.cell? ⟨b, off + j, none⟩ = some (.int k xs[j]) := by
  obtain ⟨p', cap', hv, _, _, _, h⟩ := h.slice
  simp only [Value.slice.injEq] at hv
  obtain ⟨rfl, _, _⟩ := hv
  exact h j hj

theorem below_cells {w w' : World} (hb : Below w.heap.size w w') {a : Addr} {v : Value} (h : w.cell? a = some v) : w'.cell? a = some v := by
  rw [hb.cell (lt_of_cell h)]; exact h

/-- the world but for draws -/
def Drawn (w w' : World) : Prop := ∃ n, w' = w.drewN n
theorem Drawn.refl (w : World) : Drawn w w := ⟨0, rfl⟩
theorem Drawn.drewN {w w' : World} (h : Drawn w w') (m : Nat) : Drawn w (w'.drewN m) := by
  obtain ⟨n, rfl⟩ := h; exact ⟨n + m, by simp⟩
theorem Drawn.below {w w' : World} (h : Drawn w w') : Below w.heap.size w w' := by
  obtain ⟨n, rfl⟩ := h; exact below_drewN (Below.refl _ _) n

theorem sw {P : Program} {f : FuncId} {args : Array Value} {w : World} {v : Value} (h : Calls P f args w fun e w' => e = .returned v ∧ w = w') :
    Calls P f args w fun e w' => e = .returned v ∧ w' = w := h.mono fun _ _ ⟨a, b⟩ => ⟨a, b.symm⟩

theorem ret_eq {a b : Value} (h : a = b) : Ending.returned a = .returned b := by rw [h]
theorem ret_int {k : IntKind} {a b : Int} (h : a = b) : Ending.returned (.int k a) = .returned (.int k b) := by rw [h]
theorem ret_bool {a b : Bool} (h : a = b) : Ending.returned (.bool a) = .returned (.bool b) := by rw [h]
theorem ret_ii {k k' : IntKind} {a b c d : Int} (h : a = c) (h' : b = d) : Ending.returned (.tuple #[.int k a, .int k' b]) = .returned (.tuple #[.int k c, .int k' d]) := by rw [h, h']
theorem ret_two {a b c d : Value} (h : a = c) (h' : b = d) : Ending.returned (.tuple #[a, b]) = .returned (.tuple #[c, d]) := by rw [h, h']

end Go.Proofs.YtfmlhdikagogcaaDoor

namespace Go.Proofs.YtfmlhdikagogcaaDoor
open Go.ChangeShapes Go.WideShapes Go.ChangeAt Go.RowKit
set_option maxRecDepth 20000

theorem own : ownKnob Tryd.prog.godebug = none := by kernel_rfl
theorem laidOut : laidOutB Tryd.prog = true := by kernel_rfl

/-- a law's contract: whatever the world, it answers true, and nothing that was there has turned -/
def Law (f : FuncId) (args : Array Value) (w : World) : Prop := Calls Tryd.prog f args w fun e w' => e = .returned (.bool true) ∧ Below w.heap.size w w'

theorem trodAll_below {H : Type} {enc : TypeId × Value → H} {W W' : World} (hb : Below W.heap.size W W') : ∀ (ts : List TypeId) (vs : List Value) (ds : List (DataW H)) (ps : List MemPlace),
    (∀ t ∈ ts, Tryd.prog.readableRec t = true ∧ t < Tryd.prog.types.size) → DataW.TrodAll enc Tryd.prog W 0 (fun _ => true) true ts vs ds ps → (∀ x ∈ ps, x.block < W.heap.size) →
    DataW.TrodAll enc Tryd.prog W' 0 (fun b => decide (b < W.heap.size)) true ts vs ds ps
  | [], [], [], _, _, h, _ => h
  | t :: ts, v :: vs, d :: ds, ps, hr, h, hlt => by
    obtain ⟨p, q, h1, h2, rfl⟩ := h
    have ht := hr t (by simp)
    exact ⟨p, q, Below.trod laidOut ht.1 ht.2 h1 hb fun x hx => hlt x (by simp [hx]), trodAll_below hb ts vs ds q (fun t' ht' => hr t' (by simp [ht'])) h2 fun x hx => hlt x (by simp [hx]), rfl⟩
  | [], _ :: _, _, _, _, h, _ => h.elim
  | [], [], _ :: _, _, _, h, _ => h.elim
  | _ :: _, [], _, _, _, h, _ => h.elim
  | _ :: _, _ :: _, [], _, _, h, _ => h.elim

theorem law_post {H : Type} {enc : TypeId × Value → H} {f : Func} {s : ChangeSpec} {W W' : World} {args : Array Value} {ds : List (DataW H)} {before : List MemPlace}
    (hW : DataW.Whole enc Tryd.prog f.params.toList s.vars false W args.toList ds [] before) (hvars : s.vars = []) (hres : f.resultTypes = #[4])
    (h1 : (s.fn H (ds ++ [])).results = [.lit (.bool true)]) (h2 : (s.fn H (ds ++ [])).args = ds) (h3 : (s.fn H (ds ++ [])).vars = [])
    (hr : ∀ t ∈ f.params.toList, Tryd.prog.readableRec t = true ∧ t < Tryd.prog.types.size) (hb : Below W.heap.size W W') :
    s.post enc Tryd.prog f false true false false W args (.bool true) W' := by
  have hW' := hW
  obtain ⟨p, q, hA, hV, rfl, _, _⟩ := hW
  rw [hvars] at hV
  obtain ⟨_, rfl⟩ := trodVars_none hV
  refine ⟨ds, [], p ++ [], [], p, [], hW', ?_, ?_, ?_, hb.frame _, fun h => by cases h⟩
  · rw [h1, hres]; exact trodAll_mk1 (shut_bool Tryd.underlying4 true)
  · rw [h2]; exact trodAll_below hb _ _ _ _ hr hA fun x hx => hW'.lt x (by simp [hx])
  · rw [h3, hvars]; rfl

/-- an argument that is a slice of numbers reads so -/
theorem open_nums {H : Type} {enc : TypeId × Value → H} {W : World} {base t e : TypeId} {k : IntKind} {v : Value} {d : DataW H} {ps : List MemPlace}
    (ht : Tryd.prog.underlying t = some (.slice e)) (he : Tryd.prog.underlying e = some (.int k)) (hc : Tryd.prog.cellsOf e = 1)
    (hok : Value.okWide Tryd.prog W .any base t v) (h : DataW.Trod enc Tryd.prog W 0 (fun _ => true) true t v d ps) :
    ∃ xs : List Int, Nums W k v xs ∧ ∀ x ∈ xs, (Lit.int k x).wf = true := by
  obtain ⟨a0, len, cap, rfl⟩ := okWide_slice ht hok
  obtain ⟨fuel, hf⟩ := h
  rcases open_ints ht he hc hf with ⟨hcs, hx⟩ | ⟨a, len', cap', zs, hcs, _, hl, hm, hz, hx, hcell, hwz⟩
  · simp [Value.cells] at hcs
    obtain ⟨rfl, rfl, rfl⟩ := hcs
    exact ⟨[], Nums.mk (xs := []) (by simp) (by simp) (by simp) (by simp), by simp⟩
  · simp [Value.cells] at hcs
    obtain ⟨rfl, rfl, rfl⟩ := hcs
    simp only [if_true] at hz
    have hlen : (zs.take len).length = len := by simp; omega
    refine ⟨zs.take len, ?_, fun x hx => hwz x (List.mem_of_mem_take hx)⟩
    have key : Nums W k (.slice (some a) (zs.take len).length cap) (zs.take len) := by
      refine Nums.mk (by omega) (by simpa [maxLen] using hm) (by simp) fun i hi => ?_
      have hi' : i < zs.length := by omega
      have := hcell i hi'
      obtain ⟨b, off, spot⟩ := a
      obtain rfl : spot = none := by
        simpa [Addr.add] using World.cell?_spot (hcell 0 (by omega))
      rw [Addr.add_lit] at this
      refine ⟨b, off, rfl, ?_⟩
      rw [this]
      simp [List.getD, List.getElem?_eq_getElem hi']
    rw [hlen] at key
    exact key

end Go.Proofs.YtfmlhdikagogcaaDoor

namespace Go.Proofs.YtfmlhdikagogcaaDoor
open Go.ChangeShapes Go.WideShapes Go.ChangeAt Go.RowKit
set_option maxRecDepth 20000

/-- the kinds of note: name and fields -/
def tabZ : List (List UInt8 × Int) := [([], 0), ([65, 115, 107], 4098), ([82, 101, 112, 108, 121], 518), ([80, 114, 101, 112, 97, 114, 101], 6153), ([86, 111, 116, 101], 513), ([68, 101, 99, 105, 100, 101], 517), ([65, 99, 107], 1), ([80, 114, 111, 98, 101], 1), ([81, 117, 101, 114, 121], 8672), ([76, 111, 111, 107], 8692), ([83, 101, 101, 110], 16928), ([82, 101, 115, 117, 108, 116], 16932), ([80, 114, 101, 112, 97, 114, 101, 100], 6153), ([67, 111, 109, 109, 105, 116, 116, 101, 100], 5), ([65, 98, 111, 114, 116, 101, 100], 1), ([83, 119, 101, 112, 116], 16), ([69, 112, 111, 99, 104], 16), ([67, 111, 109, 109, 105, 116], 2055), ([69, 110, 100], 1), ([66, 101, 103, 105, 110], 7179), ([89, 101, 115], 1025), ([65, 99, 107, 101, 100], 1025), ([71, 111, 110, 101], 1)]

/-- the table lies in block 0 -/
def Tab (W : World) : Prop := ∀ k (hk : k < tabZ.length), W.cell? ⟨0, k * 2, none⟩ = some (.string ⟨tabZ[k].1.toArray⟩) ∧ W.cell? ⟨0, k * 2 + 1, none⟩ = some (.int .i64 tabZ[k].2)

theorem Tab.below {W W' : World} (h : Tab W) (hb : Below W.heap.size W W') : Tab W' := fun k hk => ⟨below_cells hb (h k hk).1, below_cells hb (h k hk).2⟩

def laidZ {H : Type} : DataW H := .agg (tabZ.map fun x => .agg [.lit (.string x.1), .lit (.int .i64 x.2)])

theorem laid_eq {H : Type} : (Rows.laid_armillary_note_sorts : DataW H) = laidZ := rfl

theorem mapM_each {α β : Type} {f : α → Option β} : ∀ {l : List α} {xs : List β}, l.mapM f = some xs → xs.length = l.length ∧ ∀ i (h : i < l.length) (h' : i < xs.length), f l[i] = some xs[i]
  | [], xs, h => by
    simp at h; subst h; simp
  | a :: l, xs, h => by
    simp only [List.mapM_cons, Option.bind_eq_bind, Option.bind_eq_some_iff, Option.pure_def, Option.some.injEq] at h
    obtain ⟨y, h1, ys, h2, rfl⟩ := h
    obtain ⟨h3, h4⟩ := mapM_each h2
    refine ⟨by simp [h3], fun i hi hi' => ?_⟩
    cases i with
    | zero => exact h1
    | succ i => exact h4 i (by simpa using hi) (by simpa using hi')

theorem gN : Tryd.prog.globalNamed "armillary/note.sorts" = some 0 := by kernel_rfl
theorem gNType : (Tryd.prog.globals[0]?).map (·.type) = some 141 := by kernel_rfl
theorem gcells : Tryd.prog.cellsOf 141 = 46 := by kernel_rfl
theorem gcells2 : Tryd.prog.cellsOf 134 = 2 := by kernel_rfl
theorem gcells1 : Tryd.prog.cellsOf 9 = 1 := by kernel_rfl
theorem gcells3 : Tryd.prog.cellsOf 3 = 1 := by kernel_rfl

theorem tab_of_laid {W : World} (h : laidMet Tryd.prog [("armillary/note.sorts", Rows.laid_armillary_note_sorts)] W) : Tab W := by
  obtain ⟨ps, ⟨g, t, cs, fuel, p, q, hg, ht, hvar, hd, _, _⟩, _⟩ := h
  obtain rfl := Option.some.inj (gN.symm.trans hg)
  obtain rfl := Option.some.inj (gNType.symm.trans ht)
  rw [laid_eq] at hd
  obtain ⟨l⟩ := cs
  cases fuel with
  | zero => simp [DataW.trod] at hd
  | succ fuel =>
    unfold DataW.trod at hd
    simp only [Tryd.underlying141, gcells, gcells2] at hd
    split at hd
    · rename_i hl
      simp only [Option.map_eq_some_iff] at hd
      obtain ⟨xs, hxs, hx⟩ := hd
      obtain ⟨hlen, heach⟩ := mapM_each hxs
      rw [List.length_range] at hlen
      simp only [laidZ, Prod.mk.injEq, DataW.agg.injEq] at hx
      have h23 : tabZ.length = 23 := rfl
      intro k hk
      have hkx : k < xs.length := by omega
      have hk1 := heach k (by rw [List.length_range]; omega) hkx
      simp only [List.getElem_range] at hk1
      have hxk : xs[k].1 = .agg [.lit (.string tabZ[k].1), .lit (.int .i64 tabZ[k].2)] := by
        have h1 : (xs.map (·.1))[k]? = (tabZ.map fun x => (DataW.agg [.lit (.string x.1), .lit (.int .i64 x.2)] : DataW Unit))[k]? := by rw [hx.1]
        simpa [List.getElem?_eq_getElem hkx, List.getElem?_eq_getElem hk] using h1
      obtain ⟨y0, y1, n', e, hc, t0, t1⟩ := trod_struct2 Tryd.underlying134 hk1
      rw [e] at hxk
      simp only [DataW.agg.injEq, List.cons.injEq, and_true] at hxk
      obtain ⟨s, e0, rfl, -⟩ := DataW.trod_string Tryd.underlying9 t0
      obtain ⟨z, e1, rfl, -⟩ := DataW.trod_int Tryd.underlying3 t1
      simp only [DataW.lit.injEq, Lit.string.injEq, Lit.int.injEq, true_and] at hxk
      simp only [gcells1, gcells3, List.drop_zero] at e0 e1
      have hl46 : l.length = 46 := by simpa using hl
      have g0 := World.var?_cell gN hvar (k * 2)
      have g1 := World.var?_cell gN hvar (k * 2 + 1)
      have q0 : l[k * 2]? = some (.string s) := by
        have := congrArg (fun x : List Value => x[0]?) e0
        simpa [List.getElem?_take, List.getElem?_drop] using this
      have q1 : l[k * 2 + 1]? = some (.int .i64 z) := by
        have := congrArg (fun x : List Value => x[0]?) e1
        simpa [List.getElem?_take, List.getElem?_drop, Nat.add_comm] using this
      have hs : s = ⟨tabZ[k].1.toArray⟩ := by rw [← hxk.1]
      refine ⟨?_, ?_⟩
      · rw [g0]; simpa [← hs] using q0
      · rw [g1, ← hxk.2]; simpa using q1
    · cases hd

def cells46 : Array Value := (tabZ.flatMap fun x => [Value.string ⟨x.1.toArray⟩, Value.int .i64 x.2]).toArray

/-- A world that meets the row's condition: the settled one, the table laid. -/
noncomputable def laidWorld (os : Os) : World :=
  { World.holding Tryd.prog os ⟨#[], #[], []⟩ with heap := (World.holding Tryd.prog os ⟨#[], #[], []⟩).heap.modify 0 fun
      | .cells _ t frozen => .cells cells46 t frozen
      | o => o }

theorem laid_met (os : Os) (args : Array Value) : laidMet Tryd.prog [("armillary/note.sorts", Rows.laid_armillary_note_sorts)] ((laidWorld os).forCall (fun _ _ => 0) ⟨#[], args, []⟩).memory :=
  laidMet_of_run (ps := (List.range 46).map fun i => .cell 0 i) 8 (by kernel_rfl) (by kernel_rfl) (by kernel_rfl)

theorem laid_plain (W : World) : laidMetH Tryd.prog [("armillary/note.sorts", Rows.laid_armillary_note_sorts)] W = laidMet Tryd.prog [("armillary/note.sorts", Rows.laid_armillary_note_sorts)] W :=
  Go.MakeChecks.laidMetH_plain _ _ _ (by kernel_rfl)

end Go.Proofs.YtfmlhdikagogcaaDoor
