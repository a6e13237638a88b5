/-
  gather: the document's example.
  The document's Right, of vectors.
  A region that draws its order, its operations behind a name: each step's goal is small.
  gather: an ID is asked of its own shard alone: what the calls answer.
-/
import Derived.Test.YtfmlhdikagogcaaDoorJ46
import Derived.Test.YtfmlhdikagogcaaDoorJ05
import Derived.Test.YtfmlhdikagogcaaDoorJ12
import Derived.Test.YtfmlhdikagogcaaDoorJ31
import Derived.ArgAppend
namespace Go.Proofs.YtfmlhdikagogcaaDoor
open Go.RowKit
set_option maxRecDepth 20000

def nAsk : Nt := ⟨8, 0, 0, 0, 0, 0, 7, 0, 3, 0, 0, 0, [], [], [0], []⟩
def nLook : Nt := ⟨9, 0, 0, 4, 0, 0, 1, 0, 3, 0, 0, 0, [], [], [0], []⟩
def nOne : Nt := ⟨10, 0, 0, 0, 0, 0, 1, 0, 0, 0, 0, 0, [], [], [], [⟨1, 9, [3]⟩]⟩
def nTwo : Nt := ⟨10, 0, 0, 0, 0, 0, 1, 0, 0, 0, 0, 0, [], [], [], [⟨2, 4, [2]⟩]⟩
def gAsk : Gz := ⟨2, 1, 1, [⟨nLook, 5, 7, [1, 2], []⟩]⟩
def gOne : Gz := ⟨2, 1, 1, [⟨nLook, 5, 7, [1, 2], [(1, [⟨1, 9, [3]⟩])]⟩]⟩

theorem awk_ask : askZ ⟨2, 1, 0, []⟩ 5 nAsk 4 0 = ([(1, nLook), (2, nLook)], gAsk) := by rfl
theorem awk_one : hearZ gAsk 1 nOne = ([], gOne) := by rfl
theorem awk_two : hearZ gOne 2 nTwo = ([(5, resN 4 7 0 [⟨2, 4, [2]⟩, ⟨1, 9, [3]⟩])], ⟨2, 1, 1, []⟩) := by rfl

theorem ok_new (shards dim base : Int) (h : 1 ≤ shards ∧ shards ≤ 4) : GOk ⟨shards, dim, base, []⟩ := ⟨by simp, h, fun q h => absurd h (by simp)⟩
theorem ok_ask : GOk gAsk := ⟨by decide, by decide, fun q h => by simp only [gAsk, List.mem_singleton] at h; subst h; decide⟩
theorem ok_one : GOk gOne := ⟨by decide, by decide, fun q h => by simp only [gOne, List.mem_singleton] at h; subst h; decide⟩

theorem num_one (w : World) (x : Int) : Nums (w.alloc (.cells #[.int .i32 x] 21)) .i32 (.slice (some ⟨w.heap.size, 0, none⟩) 1 1) [x] := Nums.of_own (own_fresh w 21 1 1 #[.int .i32 x] rfl (by decide))

theorem hit_one (w : World) (id dist x : Int) (F : Nat → Prop) (h1 : F w.heap.size) (h2 : F (w.heap.size + 1)) : HitsF ((w.alloc (.cells #[.int .i32 x] 21)).alloc (.cells #[.int .u64 id, .int .u64 dist, .slice (some ⟨w.heap.size, 0, none⟩) 1 1] 40)) F (.slice (some ⟨w.heap.size + 1, 0, none⟩) 1 1) [⟨id, dist, [x]⟩] := by
  have ho := own_fresh (w.alloc (.cells #[.int .i32 x] 21)) 40 3 1 #[.int .u64 id, .int .u64 dist, .slice (some ⟨w.heap.size, 0, none⟩) 1 1] rfl (by decide)
  rw [World.size_alloc] at ho
  refine HitsF.of_own (rs := [⟨id, dist, .slice (some ⟨w.heap.size, 0, none⟩) 1 1⟩]) ho (fun b e => ?_) (Rows3.single (h := ⟨id, dist, [x]⟩) ((num_one w x).below ((Below.refl _ _).alloc (Nat.le_refl _) _)) (fun _ b e => ?_))
  · have : w.heap.size + 1 = b := by simpa [Value.ownBlock] using e
    exact this ▸ h2
  · have : w.heap.size = b := by simpa [Value.ownBlock] using e
    exact this ▸ h1

set_option maxHeartbeats 4000000 in
theorem awake (w : World) (hT : Tab w) :
    Calls Tryd.prog 9 #[] w fun e w' => e = .returned (.bool true) ∧ Below w.heap.size w w' := by
  have TT := Lib.hid hT
  clear hT
  go_enter Tryd.func9, Tryd.ntmps9
  go_wp2_with fail
  refine (newS 2 1 0 w (by omega)).mono ?_
  rintro e w1 ⟨c, rfl, hG1, hb1⟩
  have b2 := (Below.refl w1.heap.size w1).alloc (Nat.le_refl _) (.cells #[.int .i32 0] 21)
  have A : Hid (Calls Tryd.prog 11 #[.pointer (some ⟨c, 0, none⟩), .int .i64 5, .agg #[.int .u8 8, .int .u64 0, .int .u64 0, .int .u64 0, .int .u64 0, .int .u64 0, .int .u64 7, .int .u64 0, .int .i64 3, .int .i64 0, .int .i64 0, .int .i64 0, .slice none 0 0, .slice none 0 0, .slice (some ⟨w1.heap.size, 0, none⟩) 1 1, .slice none 0 0], .int .u64 4, .int .u64 0] (w1.alloc (.cells #[.int .i32 0] 21)) (GSays (w1.alloc (.cells #[.int .i32 0] 21)) w.heap.size c [(1, nLook), (2, nLook)] gAsk)) := Lib.hid (askS w.heap.size c ⟨2, 1, 0, []⟩ nAsk (.slice none 0 0) (.slice none 0 0) (.slice (some ⟨w1.heap.size, 0, none⟩) 1 1) (.slice none 0 0) (fun _ => False) 5 4 0 _ (TT.out.below (hb1.trans (b2.mono hb1.size))) (hG1.below b2) (by have := hb1.size; simp; omega) (ok_new 2 1 0 (by decide)) ⟨Nums.nil _ _, RecsF.nil _ _, num_one w1 0, HitsF.nil _ _⟩ (by decide) (by decide) awk_ask)
  have B2 := Lib.hid (hb1.trans (b2.mono hb1.size))
  clear hb1 hG1 b2
  go_wp2_with fail
  refine A.out.mono ?_
  rintro e w3 ⟨v3, rs3, G3, rfl, ho3, hs3, -, -, hG3, hb3⟩
  obtain ⟨a1, a2, a3, a4, rs4, rfl, hs4⟩ := says_cons hs3
  obtain ⟨d1, d2, d3, d4, rs5, rfl, hs5⟩ := says_cons hs4
  obtain rfl := says_nil hs5
  obtain ⟨p, m, cp, rfl⟩ := own_form ho3
  obtain ⟨b, rfl, rfl, -, -, hc⟩ := mails_at ho3 (by simp)
  have c0 : w3.cell? ⟨b, 0, none⟩ = some (.int .i64 1) := hc 0 0 _ (by simp) rfl
  have c1 : w3.cell? ⟨b, 18, none⟩ = some (.int .u8 9) := hc 1 1 _ (by simp) rfl
  have c2 : w3.cell? ⟨b, 21, none⟩ = some (.int .u64 4) := hc 1 4 _ (by simp) rfl
  have c3 : w3.cell? ⟨b, 7, none⟩ = some (.int .u64 1) := hc 0 7 _ (by simp) rfl
  have B3 := Lib.hid (B2.out.trans hb3)
  have G3 := Lib.hid hG3
  clear hs3 hs4 ho3 hc hb3 hG3 A B2
  have HBX := Lib.hid (((Below.refl w3.heap.size w3).alloc (Nat.le_refl _) (.cells #[.int .i32 3] 21)).alloc (by simp) (.cells #[.int .u64 1, .int .u64 9, .slice (some ⟨w3.heap.size, 0, none⟩) 1 1] 40))
  have A : Hid (Calls Tryd.prog 13 #[.pointer (some ⟨c, 0, none⟩), .int .i64 1, .agg #[.int .u8 10, .int .u64 0, .int .u64 0, .int .u64 0, .int .u64 0, .int .u64 0, .int .u64 1, .int .u64 0, .int .i64 0, .int .i64 0, .int .i64 0, .int .i64 0, .slice none 0 0, .slice none 0 0, .slice none 0 0, .slice (some ⟨w3.heap.size + 1, 0, none⟩) 1 1]] ((w3.alloc (.cells #[.int .i32 3] 21)).alloc (.cells #[.int .u64 1, .int .u64 9, .slice (some ⟨w3.heap.size, 0, none⟩) 1 1] 40)) (GSays ((w3.alloc (.cells #[.int .i32 3] 21)).alloc (.cells #[.int .u64 1, .int .u64 9, .slice (some ⟨w3.heap.size, 0, none⟩) 1 1] 40)) w.heap.size c [] gOne)) := Lib.hid (hearS w.heap.size c gAsk nOne (.slice none 0 0) (.slice none 0 0) (.slice none 0 0) (.slice (some ⟨w3.heap.size + 1, 0, none⟩) 1 1) 1 w3 _ (TT.out.below (B3.out.trans (HBX.out.mono B3.out.size))) G3.out HBX.out B3.out.size ok_ask ⟨Nums.nil _ _, RecsF.nil _ _, Nums.nil _ _, hit_one w3 1 9 3 _ ⟨by omega, by simp only [World.size_alloc]; omega⟩ ⟨by omega, by simp only [World.size_alloc]; omega⟩⟩ (by decide) (by decide) awk_one)
  go_wp2_with fail
  refine A.out.mono ?_
  rintro e w6 ⟨v6, rs6, G6', rfl, ho6, hs6, -, -, hG6, hb6⟩
  obtain rfl := says_nil hs6
  obtain ⟨p6, m6, cp6, rfl⟩ := own_form ho6
  obtain rfl : m6 = 0 := own_len ho6
  have B6 := Lib.hid ((B3.out.trans (HBX.out.mono B3.out.size)).trans hb6)
  have G6 := Lib.hid hG6
  clear hs6 ho6 hb6 hG6 A G3 c0 c1 c2 c3 HBX
  have HBX := Lib.hid (((Below.refl w6.heap.size w6).alloc (Nat.le_refl _) (.cells #[.int .i32 2] 21)).alloc (by simp) (.cells #[.int .u64 2, .int .u64 4, .slice (some ⟨w6.heap.size, 0, none⟩) 1 1] 40))
  have A : Hid (Calls Tryd.prog 13 #[.pointer (some ⟨c, 0, none⟩), .int .i64 2, .agg #[.int .u8 10, .int .u64 0, .int .u64 0, .int .u64 0, .int .u64 0, .int .u64 0, .int .u64 1, .int .u64 0, .int .i64 0, .int .i64 0, .int .i64 0, .int .i64 0, .slice none 0 0, .slice none 0 0, .slice none 0 0, .slice (some ⟨w6.heap.size + 1, 0, none⟩) 1 1]] ((w6.alloc (.cells #[.int .i32 2] 21)).alloc (.cells #[.int .u64 2, .int .u64 4, .slice (some ⟨w6.heap.size, 0, none⟩) 1 1] 40)) (GSays ((w6.alloc (.cells #[.int .i32 2] 21)).alloc (.cells #[.int .u64 2, .int .u64 4, .slice (some ⟨w6.heap.size, 0, none⟩) 1 1] 40)) w.heap.size c [(5, resN 4 7 0 [⟨2, 4, [2]⟩, ⟨1, 9, [3]⟩])] ⟨2, 1, 1, []⟩)) := Lib.hid (hearS w.heap.size c gOne nTwo (.slice none 0 0) (.slice none 0 0) (.slice none 0 0) (.slice (some ⟨w6.heap.size + 1, 0, none⟩) 1 1) 2 w6 _ (TT.out.below (B6.out.trans (HBX.out.mono B6.out.size))) G6.out HBX.out B6.out.size ok_one ⟨Nums.nil _ _, RecsF.nil _ _, Nums.nil _ _, hit_one w6 2 4 2 _ ⟨by omega, by simp only [World.size_alloc]; omega⟩ ⟨by omega, by simp only [World.size_alloc]; omega⟩⟩ (by decide) (by decide) awk_two)
  go_wp2_with fail
  refine A.out.mono ?_
  rintro e w7 ⟨v7, rs7, G7, rfl, ho7, hs7, hm7, -, -, hb7⟩
  obtain ⟨f1, f2, f3, f4, rs8, rfl, hs8⟩ := says_cons hs7
  obtain rfl := says_nil hs8
  obtain ⟨q, mm, cq, rfl⟩ := own_form ho7
  obtain ⟨b7, rfl, rfl, -, -, hc⟩ := mails_at ho7 (by simp)
  have hh : HitsF w7 G7 f4 [⟨2, 4, [2]⟩, ⟨1, 9, [3]⟩] := (hm7 _ (List.mem_singleton.2 rfl)).read.hits
  obtain ⟨hp, hcp, rfl, -, -, -, hel⟩ := hh
  obtain ⟨bh, oh, uh, rfl, -, e0, -⟩ := hel 0 (by decide)
  have c0 : w7.cell? ⟨b7, 0, none⟩ = some (.int .i64 5) := hc 0 0 _ (by simp) rfl
  have c1 : w7.cell? ⟨b7, 7, none⟩ = some (.int .u64 7) := hc 0 7 _ (by simp) rfl
  have c2 : w7.cell? ⟨b7, 16, none⟩ = some (.slice (some ⟨bh, oh, none⟩) 2 hcp) := hc 0 16 _ (by simp) rfl
  have c3 : w7.cell? ⟨bh, oh, none⟩ = some (.int .u64 2) := e0
  have B7 := Lib.hid ((B6.out.trans (HBX.out.mono B6.out.size)).trans hb7)
  clear hs7 hs8 ho7 hc hb7 A G6 HBX hel e0 hm7
  go_wp2_with fail
  go_ret
  exact ⟨rfl, B7.out⟩

end Go.Proofs.YtfmlhdikagogcaaDoor

namespace Go.Proofs.YtfmlhdikagogcaaDoor
open Go.RowKit
set_option maxRecDepth 20000

theorem refRight (xs : List Int) (v : Value) (w : World) (h : Nums w .i32 v xs) :
    Calls Tryd.prog 18 #[v] w fun e w' => e = .returned (.bool (rightB xs)) ∧ w = w' := by
  obtain ⟨p, cap, rfl, hcap, hbig, -, hc⟩ := h.slice
  have hl : xs.length ≤ 9223372036854775807 := by omega
  clear hcap hbig
  have H := Lib.hid h
  clear h hc
  go_enter Tryd.func18, Tryd.ntmps18
  go_wp2
  go_loop [4, 7] (fun _ i => ∃ k : Nat, k ≤ xs.length ∧ i = .int .i64 k ∧ ∀ j (h : j < xs.length), j < k → outR xs[j] = false) (fun _ i => xs.length - (intOf i).toNat)
  case atStart => exact ⟨0, by omega, rfl, by omega⟩
  case round =>
    obtain ⟨k, hk, rfl, hall⟩ := hrel
    have A := Lib.hid hall
    clear hall
    by_cases hlt : k < xs.length
    · obtain ⟨b, off, rfl, hcell⟩ := H.out.elem hlt
      by_cases h1 : 268435456 < xs[k]
      · go_wp2
        go_ret
        exact ⟨ret_bool (by have : xs.any outR = true := by rw [List.any_eq_true]; exact ⟨_, List.getElem_mem hlt, by simp [outR, h1]⟩
                            simp [rightB, this]), rfl⟩
      · by_cases h2 : xs[k] < -268435456
        · go_wp2
          go_ret
          exact ⟨ret_bool (by have : xs.any outR = true := by rw [List.any_eq_true]; exact ⟨_, List.getElem_mem hlt, by simp [outR, h2]⟩
                              simp [rightB, this]), rfl⟩
        · go_wp2
          go_round
          case rel => exact ⟨k + 1, by omega, by go_num, fun j h hj => by
            by_cases e : j = k
            · subst e; simp [outR]; omega
            · exact A.out j h (by omega)⟩
          case measure => simp [intOf]; omega
    · have hany : xs.any outR = false := by
        simp only [List.any_eq_false]
        intro x hx
        obtain ⟨i, hi, rfl⟩ := List.mem_iff_getElem.1 hx
        simp [A.out i hi (by omega)]
      have Y := Lib.hid hany
      clear hany
      by_cases h1 : 1 ≤ xs.length
      · go_wp2
        go_ret
        exact ⟨ret_bool (by have h0 : 0 < xs.length := by omega
                            simp [rightB, Y.out, h0]; omega), rfl⟩
      · go_wp2
        go_ret
        exact ⟨ret_bool (by simp [rightB]; omega), rfl⟩

end Go.Proofs.YtfmlhdikagogcaaDoor

namespace Go.Proofs.YtfmlhdikagogcaaDoor
open Go.RowKit
set_option maxRecDepth 20000

section
variable {P : Program} {ops O : Array Oper} {Q : Exit → Act → World → Prop} {md : Region.Mode} {S : World → Prop}

/-- an equation that no tactic opens -/
structure OpsAre (O ops : Array Oper) : Prop where
  eq : O = ops

theorem tkNH (i : Nat) {oi : Oper} {fuel : Nat} {listed : Array Bool} {a : Act} {w : World} (hO : OpsAre O ops) (hS : S w) (hi : ops.toList[i]? = some oi) (hQ : ∀ c a w, Q (.panic c) (a.put oi.dst undef) w → Q (.panic c) a w)
    (hc : canTake md ops listed i = true) (hw : Region.wanted oi (yielded ops a.tmps) = false)
    (h : wpAnyH P md O Q S fuel (listed.setIfInBounds i true) (a.put oi.dst undef) w) : wpAnyH P md O Q S (fuel + 1) listed a w := by
  obtain ⟨rfl⟩ := hO
  exact tkN i hS hi hQ hc hw h

theorem tkYH (i : Nat) {oi : Oper} {v : Value} {fuel : Nat} {listed : Array Bool} {a : Act} {w : World} (hO : OpsAre O ops) (hS : S w) (hi : ops.toList[i]? = some oi) (hQ : ∀ c a w, Q (.panic c) (a.put oi.dst v) w → Q (.panic c) a w)
    (hc : canTake md ops listed i = true) (hw : Region.wanted oi (yielded ops a.tmps) = true) (hy : ∀ w, S w → (execOp a.eval oi).run P w = .ok (.value v) w)
    (h : wpAnyH P md O Q S fuel (listed.setIfInBounds i true) (a.put oi.dst v) w) : wpAnyH P md O Q S (fuel + 1) listed a w := by
  obtain ⟨rfl⟩ := hO
  exact tkY i hS hi hQ hc hw hy h

theorem spkH (i : Nat) {oi : Oper} {fuel : Nat} {listed : Array Bool} {a : Act} {w : World} (hO : OpsAre O ops) (hi : ops.toList[i]? = some oi)
    (hr : Region.ready md ops listed = [i]) (hw : Region.wanted oi (yielded ops a.tmps) = true)
    (h : ∀ K' : Act → World → Prop, Shut (∀ a w, S w → (S w → wpAnyH P md O Q S fuel (listed.setIfInBounds i true) a w) → K' a w) → oi.wp P a w K' Q) : wpAnyH P md O Q S (fuel + 1) listed a w := by
  obtain ⟨rfl⟩ := hO
  exact spk i hi hr hw h

theorem spBH (i j : Nat) {oi oj : Oper} {fuel : Nat} {listed : Array Bool} {a : Act} {w : World} (hO : OpsAre O ops) (hi : ops.toList[i]? = some oi) (hj : ops.toList[j]? = some oj)
    (hr : Region.ready md ops listed = [i, j]) (hwi : Region.wanted oi (yielded ops a.tmps) = true) (hwj : Region.wanted oj (yielded ops a.tmps) = true)
    (h : ∀ K' : Act → World → Prop, Shut (∀ a w, S w → (S w → wpAnyH P md O Q S fuel (listed.setIfInBounds i true) a w) → K' a w) → oi.wp P a w K' Q)
    (h' : ∀ K' : Act → World → Prop, Shut (∀ a w, S w → (S w → wpAnyH P md O Q S fuel (listed.setIfInBounds j true) a w) → K' a w) → oj.wp P a w K' Q) : wpAnyH P md O Q S (fuel + 1) listed a w := by
  obtain ⟨rfl⟩ := hO
  exact spB i j hi hj hr hwi hwj h h'

theorem doneH {fuel : Nat} {listed : Array Bool} {a : Act} {w : World} (hO : OpsAre O ops) (hr : Region.ready md ops listed = []) (h : Q .normal a w) : wpAnyH P md O Q S fuel listed a w := by
  obtain ⟨rfl⟩ := hO
  exact wpAnyH_done hr h _

theorem region_goH {id : Nat} {a : Act} {w : World} (S : World → Prop) (n : Nat) (hm : P.follows .mixedOrders = true) (hn : ops.size = n) (hS : S w.drew)
    (h : ∀ O, OpsAre O ops → S w.drew → wpAnyH P .any O Q S n (Array.replicate n false) a w.drew) : (Code.region id ops true).wp P Q a w := by
  subst hn
  exact region_go S hm hS (h ops ⟨rfl⟩)
end

end Go.Proofs.YtfmlhdikagogcaaDoor

namespace Go.Proofs.YtfmlhdikagogcaaDoor
open Go.RowKit
set_option maxRecDepth 20000

def nG (id : Int) : Nt := ⟨8, 0, 0, 0, 0, 0, 3, id, 0, 0, 0, 0, [], [], [], []⟩
def nGL (id : Int) : Nt := ⟨9, 0, 0, 7, 0, 2, 1, id, 0, 0, 0, 0, [], [], [], []⟩
def nGS (code : Int) (hits : List Hz) : Nt := ⟨10, 0, 0, 0, 0, 0, 1, 0, 0, 0, code, 0, [], [], [], hits⟩
def gG (n id : Int) : Gz := ⟨n, 2, 1, [⟨nGL id, 5, 3, [1 + homeZ id n], []⟩]⟩

theorem right_get (id : Int) (h : 0 ≤ id ∧ id ≤ 1099511627776) : rightN (nG id) = true := by
  have h1 : fitsB (nG id) = true := by
    unfold fitsB
    have : (nG id).flags = [false, false, false, false, false, true, decide (0 < id), false, false, false, false, false, false, false, false] := rfl
    rw [this]
    rw [show (nG id).kind = 8 from rfl]
    cases decide (0 < id) <;> decide +kernel
  have h2 : boundedB (nG id) = true := by
    unfold boundedB numsB lensB partsB bareB
    simp [nG, h.2]
  unfold rightN
  rw [h1, h2]
  rfl

theorem right_told (code : Int) (hits : List Hz) (hc : 0 ≤ code ∧ code ≤ 13) (hl : hits.length ≤ 16) (hh : ∀ h ∈ hits, badHit h = false) : rightN (nGS code hits) = true := by
  have h1 : fitsB (nGS code hits) = true := by
    unfold fitsB
    have : (nGS code hits).flags = [false, false, false, false, false, true, false, false, false, code != 0, false, false, false, false, decide (0 < hits.length)] := rfl
    rw [this]
    rw [show (nGS code hits).kind = 10 from rfl]
    cases (code != 0) <;> cases decide (0 < hits.length) <;> decide +kernel
  have h2 : boundedB (nGS code hits) = true := by
    have h3 : hits.any badHit = false := by rw [List.any_eq_false]; intro x hx; rw [hh x hx]; simp
    unfold boundedB
    rw [show (nGS code hits).hits = hits from rfl, h3]
    unfold numsB lensB partsB bareB
    simp [nGS, hc.1, hc.2, hl]
  unfold rightN
  rw [h1, h2]
  rfl

theorem get_ask (n id : Int) (h : 0 ≤ id ∧ id ≤ 1099511627776) : askZ ⟨n, 2, 0, []⟩ 5 (nG id) 7 2 = ([(1 + homeZ id n, nGL id)], gG n id) := by
  have ho : oddB 5 (nG id) 8 = false := by unfold oddB; rw [right_get id h]; rfl
  unfold askZ
  rw [ho]
  rfl

theorem get_hear (n id code : Int) (hits : List Hz) (hn : 1 ≤ n ∧ n ≤ 4) (hc : 0 ≤ code ∧ code ≤ 13) (hl : hits.length ≤ 16) (hh : ∀ h ∈ hits, badHit h = false) (hz : code ≠ 0 → hits = []) : hearZ (gG n id) (1 + homeZ id n) (nGS code hits) = ([(5, resN 7 3 code hits)], ⟨n, 2, 1, []⟩) := by
  have hr := home_range id n hn.1
  have ho : oddB (1 + homeZ id n) (nGS code hits) 10 = false := by
    unfold oddB
    rw [right_told code hits hc hl hh, decide_eq_false (show ¬ 1 + homeZ id n < 0 by omega), decide_eq_false (show ¬ 16 ≤ 1 + homeZ id n by omega)]
    rfl
  have h0 : hearZ (gG n id) (1 + homeZ id n) (nGS code hits) = hearAt (gG n id) 0 ⟨nGL id, 5, 3, [1 + homeZ id n], []⟩ (1 + homeZ id n) (nGS code hits) := by
    unfold hearZ
    rw [ho]
    rfl
  rw [h0]
  unfold hearAt
  have h1 : (hasTold ([] : List (Int × List Hz)) (1 + homeZ id n) || !([1 + homeZ id n].any fun y => decide (1 + homeZ id n = y))) = false := by simp [hasTold]
  simp only [h1]
  by_cases h2 : code = 0
  · subst h2
    simp [nGS, nGL, dropZ, gG, answerZ, toldOf, resN]
  · rw [hz h2]
    simp [nGS, nGL, dropZ, gG, h2]

theorem ok_get (n id : Int) (hn : 1 ≤ n ∧ n ≤ 4) (h : 0 ≤ id ∧ id ≤ 1099511627776) : GOk (gG n id) := by
  have := askZ_ok (ok_new n 2 0 hn) 5 (nG id) 7 2
  rwa [get_ask n id h] at this

theorem askT (B c : Nat) (F R : Nat → Prop) (g : Gz) (n : Nt) (vp vo vv vh : Value) (E : Nat → Prop) (frm stamp mark : Int) (w : World) (hT : Tab w) (hG : GAt w B c F R g) (hB : B ≤ w.heap.size) (hok : GOk g) (hv : NoteV w E n vp vo vv vh) (hkd : 0 ≤ n.kind ∧ n.kind ≤ 255) (hlen : n.parts.length ≤ 1000000 ∧ n.ops.length ≤ 1000000 ∧ n.vec.length ≤ 1000000 ∧ n.hits.length ≤ 1000000) {l : List (Int × Nt)} {g' : Gz} (hz : askZ g frm n stamp mark = (l, g')) :
    Calls Tryd.prog 11 #[.pointer (some ⟨c, 0, none⟩), .int .i64 frm, .agg (n.cells vp vo vv vh), .int .u64 stamp, .int .u64 mark] w (GTold w B c F R (fun _ => False) l g') := by
  have := ask B c F R E g n vp vo vv vh frm stamp mark w hT hG hB hok hv hkd hlen
  rw [hz] at this
  exact this

theorem hearT (B c : Nat) (F R E : Nat → Prop) (g : Gz) (n : Nt) (vp vo vv vh : Value) (frm : Int) (w : World) (hT : Tab w) (hG : GAt w B c F R g) (hB : B ≤ w.heap.size) (hok : GOk g) (hv : NoteV w E n vp vo vv vh) (hkd : 0 ≤ n.kind ∧ n.kind ≤ 255) (hlen : n.parts.length ≤ 1000000 ∧ n.ops.length ≤ 1000000 ∧ n.vec.length ≤ 1000000 ∧ n.hits.length ≤ 1000000) (hE : ∀ k, E k → k < w.heap.size ∧ ¬ F k) {l : List (Int × Nt)} {g' : Gz} (hz : hearZ g frm n = (l, g')) :
    Calls Tryd.prog 13 #[.pointer (some ⟨c, 0, none⟩), .int .i64 frm, .agg (n.cells vp vo vv vh)] w (GTold w B c F R E l g') := by
  have := hear B c F R E g n vp vo vv vh frm w hT hG hB hok hv hkd hlen hE
  rw [hz] at this
  exact this

theorem rowI32 : RowTy Tryd.prog 32 21 1 4 (.int .i32 0) := ⟨Tryd.underlying32, infoI32, rfl, by decide⟩

/-- two more behind a slice that has no room -/
theorem run_two {w : World} {xs : List Int} {vp : Option Addr} {vc mm : Nat} (h : Nums w .i32 (.slice vp xs.length vc) xs) (hm : mm ≤ xs.length) (hs : mm ≤ 2) :
    ∃ g c w', (∀ ty, (Builtin.append_ #[32, 32] ty #[.slice vp mm mm, .slice (some ⟨w.heap.size, 0, none⟩) 2 2]).run Tryd.prog (w.alloc (.cells #[.int .i32 0, .int .i32 0] 21)) = .ok (.slice (some ⟨g, 0, none⟩) (mm + 2) c) w') ∧
      w'.ownsRow w.heap.size 21 1 (.slice (some ⟨g, 0, none⟩) (mm + 2) c) (mm + 2) ((xs.take mm ++ [0, 0]).map (Value.int .i32)) ∧ Below w.heap.size w w' := by
  have hsrc := own_fresh w 21 1 2 #[.int .i32 0, .int .i32 0] rfl (by decide)
  have hb := (Below.refl w.heap.size w).alloc (Nat.le_refl _) (.cells #[.int .i32 0, .int .i32 0] 21)
  cases vp with
  | none =>
    obtain ⟨p', c', hv, h1, -, h3, -⟩ := h.slice
    obtain ⟨rfl, -, rfl⟩ := Value.slice.inj hv
    have hx : xs.length = 0 := by have := h3 rfl; omega
    obtain rfl : mm = 0 := by omega
    obtain ⟨q, k, c, w', hr, ho, hg, -⟩ := run_app rowI32 (World.ownsRow_nil (w.alloc (.cells #[.int .i32 0, .int .i32 0] 21)) w.heap.size 21 1) (by simp) (SrcAt.of_own hsrc) (by simp [Value.oneCell']) (by simp [maxLen]) (by decide)
    obtain ⟨g, cap, hv, -, -⟩ := ho.form (by omega)
    obtain ⟨rfl, rfl, rfl⟩ := Value.slice.inj hv
    exact ⟨g, _, w', hr, by simpa using ho, hb.grown hg (by simp) (fun b e => by cases e)⟩
  | some a =>
    obtain ⟨i0, hi, hz0, hz1, hz2⟩ := info_parts infoI32
    have hcell : ∀ j u, ((xs.take mm).map (Value.int .i32))[j]? = some u → (w.alloc (.cells #[.int .i32 0, .int .i32 0] 21)).cell? (a.add j) = some u := by
      intro j u hj
      rw [List.getElem?_map, Option.map_eq_some_iff] at hj
      obtain ⟨x, hx, rfl⟩ := hj
      have hj1 : j < xs.length := by
        have := (List.getElem?_eq_some_iff.1 hx).1
        simp at this
        omega
      obtain ⟨b, off, e, hc⟩ := h.elem hj1
      cases e
      have e2 : x = xs[j] := by
        have := (List.getElem?_eq_some_iff.1 hx).2
        rw [← this, List.getElem_take]
      rw [e2, Addr.add_lit]
      exact below_cells hb hc
    obtain ⟨v', w', hr, ho, hg⟩ := run_append_arg_grows (P := Tryd.prog) (w.alloc (.cells #[.int .i32 0, .int .i32 0] 21)) 32 0 21 i0 (.int .i32 0) 1 4 Tryd.underlying32 hi hz0 hz1 hz2 rfl (by decide) a mm mm ((xs.take mm).map (Value.int .i32)) (by simp; omega) hcell ⟨w.heap.size, 0, none⟩ 2 2 [.int .i32 0, .int .i32 0] rfl
      (World.news_of_block (cs := #[.int .i32 0, .int .i32 0]) (t := 21) (fr := (0, 0)) (heap_alloc_new w _)) (by omega) (by simp [maxLen]; omega) (by omega)
    obtain ⟨q, k, c, rfl⟩ := own_form ho
    obtain ⟨g, cap, hv, -, -⟩ := ho.form (by omega)
    obtain ⟨rfl, rfl, rfl⟩ := Value.slice.inj hv
    exact ⟨g, _, w', fun ty => hr, own_mono (by simpa using ho) (by simp), hb.grown hg (by simp) (fun b e => by cases e)⟩

end Go.Proofs.YtfmlhdikagogcaaDoor
