/-
  gather: GatherMerges: the walk.
  An argument that is a slice of slices of hits.
-/
import Derived.Test.YtfmlhdikagogcaaDoorJ46
import Derived.Test.YtfmlhdikagogcaaDoorJ47
import Derived.Deep.DeepCutAuto
import Derived.Test.YtfmlhdikagogcaaDoorJ02
import Derived.Test.YtfmlhdikagogcaaDoorJ28
namespace Go.Proofs.YtfmlhdikagogcaaDoor
open Go.RowKit
set_option maxRecDepth 20000

theorem min2m (a b : Int) (w : World) : (Builtin.min_ #[3, 3] 3 #[.int .i64 a, .int .i64 b]).run Tryd.prog w = .ok (.int .i64 (min a b)) w := by
  simp [Builtin.min_, Builtin.min2]
  by_cases h : b < a
  · simp [h]; omega
  · simp [h]; omega

theorem num_two (w : World) : Nums (w.alloc (.cells #[.int .i32 0, .int .i32 0] 21)) .i32 (.slice (some ⟨w.heap.size, 0, none⟩) 2 2) [0, 0] := Nums.of_own (own_fresh w 21 1 2 #[.int .i32 0, .int .i32 0] rfl (by decide))

theorem ListsF.downto {w w' : World} {E : Nat → Prop} {v : Value} {ls : List (List Hz)} (h : ListsF w E v ls) (hb : Below w.heap.size w w') : ListsF w' E v ls := by
  obtain ⟨p, cap, hv, h1, h2, h3, h4⟩ := h
  refine ⟨p, cap, hv, h1, h2, h3, fun i hi => ?_⟩
  obtain ⟨b, off, u, hp, hf, c0, hn⟩ := h4 i hi
  exact ⟨b, off, u, hp, hf, below_cells hb c0, hn.below hb⟩

theorem allM_length (ls : List (List Hz)) (p : Nat) : (allM ls p).length ≤ 16 * p := by
  induction p with
  | zero => simp [allM]
  | succ p ih => rw [allM, List.length_append, mineZ_length]; omega

/-- whom to hear, in turn -/
def TodoAt (w6 wr : World) (ts : List Int) : Prop := ts.Perm [0, 1, 2] ∧ wr.ownsRow w6.heap.size 3 1 (.slice (some ⟨w6.heap.size, 0, none⟩) 3 3) 3 (ts.map (Value.int .i64)) ∧ Below w6.heap.size w6 wr

theorem TodoAt.start (w6 : World) : TodoAt w6 (w6.alloc (.cells #[.int .i64 0, .int .i64 1, .int .i64 2] 3)) [0, 1, 2] :=
  ⟨List.Perm.refl _, own_fresh w6 3 1 3 #[.int .i64 0, .int .i64 1, .int .i64 2] rfl (by decide), (Below.refl _ _).alloc (Nat.le_refl _) _⟩

theorem TodoAt.swap {w6 wr w' : World} {ts : List Int} (h : TodoAt w6 wr ts) (hb : Below wr.heap.size wr w') {i j : Nat} (hi : i < ts.length) (hj : j < ts.length) :
    TodoAt w6 ((w'.setCell ⟨w6.heap.size, i, none⟩ (.int .i64 ts[j])).setCell ⟨w6.heap.size, j, none⟩ (.int .i64 ts[i])) ((ts.set i ts[j]).set j ts[i]) := by
  obtain ⟨h1, h2, h3⟩ := h
  have hl : ts.length = 3 := h1.length_eq
  refine ⟨(List.set_set_perm hi hj).trans h1, ?_, ((h3.trans (hb.mono h3.size)).setCell (by simp) _).setCell (by simp) _⟩
  have o1 := own_setCell (own_below h2 hb) rfl (o := i) (by omega) (.int .i64 ts[j])
  have o2 := own_setCell o1 rfl (o := j) (by omega) (.int .i64 ts[i])
  rw [List.map_set, List.map_set]
  exact o2

theorem TodoAt.cell {w6 wr : World} {ts : List Int} (h : TodoAt w6 wr ts) {i : Nat} (hi : i < ts.length) : wr.cell? ⟨w6.heap.size, i, none⟩ = some (.int .i64 ts[i]) ∧ wr.frozen? ⟨w6.heap.size, i, none⟩ = false := by
  obtain ⟨h1, h2, h3⟩ := h
  obtain ⟨_, _, cur, hh, _⟩ := own_cap h2
  refine ⟨?_, by simp [World.frozen?, hh]⟩
  have := own_rangeAt h2 rfl 0 (ts.map (Value.int .i64)) (fun j u h => by simpa using h) i (.int .i64 ts[i]) (by simp [List.getElem?_eq_getElem hi])
  simpa using this

/-- a gather while parts tell -/
def HState (B c : Nat) (F3 : Nat → Prop) (wz : World) (g : Gz) (wr : World) : Prop := ∃ F R : Nat → Prop, GAt wr B c F R g ∧ (∀ j, F j → F3 j ∨ wz.heap.size ≤ j) ∧ Mod F3 wz wr

theorem HState.below {B c : Nat} {F3 : Nat → Prop} {wz wr w' : World} {g : Gz} (h : HState B c F3 wz g wr) (hb : Below wr.heap.size wr w') : HState B c F3 wz g w' := by
  obtain ⟨F, R, hG, hF, hm⟩ := h
  exact ⟨F, R, hG.below hb, hF, hm.andBelow hb⟩

/-- what a part tells -/
def toldM (ls : List (List Hz)) (n : Nat) (p : Int) : List Hz := (allZ (mineZ p.toNat (ls.getD p.toNat []))).take n

theorem toldM_len (ls : List (List Hz)) (n : Nat) (p : Int) : (toldM ls n p).length ≤ 16 := by
  unfold toldM
  have h1 := (allZ_perm (mineZ p.toNat (ls.getD p.toNat []))).length_eq
  have h2 := mineZ_length p.toNat (ls.getD p.toNat [])
  rw [List.length_take]
  omega

theorem toldM_vec (ls : List (List Hz)) (n : Nat) (p : Int) : ∀ h ∈ toldM ls n p, h.vec.length ≤ 8 := by
  intro h hh
  obtain ⟨i, hi, rfl⟩ := List.mem_iff_getElem.1 (first_sub _ n h hh)
  obtain ⟨d, e, -⟩ := mineZ_get _ _ i hi
  rw [e]
  simp

theorem toldM_good (ls : List (List Hz)) (n p : Nat) (hp : p < 3) : ∀ h ∈ toldM ls n p, badHit h = false := fun h hh =>
  (mineZ_good p hp _ h (first_sub _ n h hh)).1

theorem merge_all {n : Nat} (hn : 1 ≤ n) (ls : List (List Hz)) : mergeZ n [toldM ls n 0, toldM ls n 1, toldM ls n 2] = (allZ (allM ls 3)).take n :=
  merge_parts hn (by have := (allM_from ls 3 (by omega)).1; rwa [allM_three] at this)

theorem sameHits_selfM (F G : Nat → Prop) (l : List Hz) (v u : Value) (w : World) (h : HitsF w F v l) (g : HitsF w G u l) :
    Calls Tryd.prog 14 #[v, u] w fun e w' => e = .returned (.bool true) ∧ Drawn w w' :=
  (sameHits F G l l v u w h g).mono fun e w' hh => ⟨hh.1.trans (by rw [decide_eq_true (Eq.refl l)]), hh.2⟩

/-- the first loop begins -/
theorem TState.start (W3 : World) (n : Nat) (ls : List (List Hz)) : TState W3 n ls (W3.alloc (.cells #[.slice none 0 0, .slice none 0 0, .slice none 0 0] 38)) W3.heap.size 0 (.slice none 0 0) (fun _ => .slice none 0 0) :=
  ⟨(Below.refl _ _).alloc (Nat.le_refl _) _, ⟨Nat.le_refl _, by simp⟩, heap_alloc_new _ _, ⟨[], fun _ => False, World.ownsRow_nil _ _ _ _, Rows3.nil _ _, fun _ h => h.elim⟩, fun j hj => absurd hj (by omega), fun _ _ => rfl, by simp [Value.ownBlock]⟩

/-- a part's hits, while they are put -/
def MineAt (wo wi : World) (p : Nat) (hs : List Hz) (out : Value) : Prop :=
  ∃ rs, ∃ G : Nat → Prop, wi.ownsRow wo.heap.size 40 3 out rs.length (flat3 rs) ∧ Rows3 wi G rs (mineZ p hs) ∧ (∀ k, G k → wo.heap.size ≤ k ∧ k < wi.heap.size ∧ out.ownBlock ≠ some k) ∧ Below wo.heap.size wo wi

theorem MineAt.start (wo : World) (p : Nat) : MineAt wo wo p [] (.slice none 0 0) := ⟨[], fun _ => False, World.ownsRow_nil _ _ _ _, Rows3.nil _ _, fun _ h => h.elim, Below.refl _ _⟩

theorem MineAt.on {wo wr w' : World} {p : Nat} {hs hs' : List Hz} {out : Value} (h : MineAt wo wr p hs out) (hb : Below wr.heap.size wr w') (he : mineZ p hs' = mineZ p hs) : MineAt wo w' p hs' out := by
  obtain ⟨rs, G, h1, h2, h3, h4⟩ := h
  exact ⟨rs, G, own_below h1 hb, by rw [he]; exact h2.below hb, fun k hk => ⟨(h3 k hk).1, Nat.lt_of_lt_of_le (h3 k hk).2.1 hb.size, (h3 k hk).2.2⟩, h4.trans (hb.mono h4.size)⟩

theorem MineAt.push {wo wr w5 : World} {p g5 c5 : Nat} {hs hs' : List Hz} {out : Value} {rs : List Hv} {G : Nat → Prop} {x d : Int} {o o' : Obj}
    (ho : wr.ownsRow wo.heap.size 40 3 out rs.length (flat3 rs)) (hr : Rows3 wr G rs (mineZ p hs)) (hG : ∀ k, G k → wo.heap.size ≤ k ∧ k < wr.heap.size ∧ out.ownBlock ≠ some k) (hb : Below wo.heap.size wo wr)
    (ho5 : w5.ownsRow wo.heap.size 40 3 (.slice (some ⟨g5, 0, none⟩) (rs.length + 1) c5) (rs.length + 1) (flat3 rs ++ (#[.int .u64 x, .int .u64 d, .slice (some ⟨wr.heap.size + 1, 0, none⟩) 2 2] : Array Value).toList))
    (hg5 : (((wr.alloc o).alloc (.cells #[.int .i32 1, .int .i32 1] 21)).alloc o').grownBy w5 out.ownBlock) (hgg : out.ownBlock = some g5 ∨ g5 = wr.heap.size + 1 + 1 + 1)
    (he : mineZ p hs' = mineZ p hs ++ [⟨x, d, [1, 1]⟩]) : MineAt wo w5 p hs' (.slice (some ⟨g5, 0, none⟩) (rs.length + 1) c5) := by
  have s1 := hb.size
  have s5 := hg5.size
  simp only [World.size_alloc] at s5
  have hol : ∀ k, out.ownBlock = some k → wo.heap.size ≤ k ∧ k < wr.heap.size := fun k e => ho.lt k e
  have hbw : Below wo.heap.size wo w5 := (((hb.alloc s1 o).alloc (by simp; omega) _).alloc (by simp; omega) o').grown hg5 (by simp; omega) (fun k e => (hol k e).1)
  have old : ∀ k, k < wr.heap.size → out.ownBlock ≠ some k → w5.heap[k]? = wr.heap[k]? := fun k hk hne => by
    rw [hg5.block k (by simp; omega) (fun e => hne e.symm), Below.heap_alloc _ _ k (by simp; omega), Below.heap_alloc _ _ k (by simp; omega), Below.heap_alloc _ _ k hk]
  have hv : w5.heap[wr.heap.size + 1]? = some (.cells #[.int .i32 1, .int .i32 1] 21 (0, 0)) := by
    rw [hg5.block _ (by simp) (fun e => by have := (hol _ e.symm).2; omega), Below.heap_alloc _ _ _ (by simp)]
    have := heap_alloc_new (wr.alloc o) (.cells #[.int .i32 1, .int .i32 1] 21)
    rw [World.size_alloc] at this
    exact this
  have hnum : Nums w5 .i32 (.slice (some ⟨wr.heap.size + 1, 0, none⟩) 2 2) [1, 1] := Nums.mk (xs := [1, 1]) (by simp) (by simp) (by simp) fun i hi => by
    refine ⟨_, 0, rfl, ?_⟩
    have : i = 0 ∨ i = 1 := by simp at hi; omega
    rcases this with rfl | rfl <;> simp [World.cell?, hv]
  refine ⟨rs ++ [⟨x, d, .slice (some ⟨wr.heap.size + 1, 0, none⟩) 2 2⟩], fun k => G k ∨ k = wr.heap.size + 1, ?_, ?_, ?_, hbw⟩
  · rw [flat3_snoc, List.length_append]
    exact ho5
  · rw [he]
    refine ((hr.agree (fun k hk => old k (hG k hk).2.1 (hG k hk).2.2)).mono fun _ => .inl).append (Rows3.single (h := ⟨x, d, [1, 1]⟩) hnum (fun _ k e => .inr ?_))
    have : wr.heap.size + 1 = k := by simpa [Value.ownBlock] using e
    exact this.symm
  · rintro k (hk | rfl)
    · obtain ⟨a, b, c⟩ := hG k hk
      refine ⟨a, by omega, fun e => ?_⟩
      have e2 : g5 = k := by simpa [Value.ownBlock] using e
      rcases hgg with e3 | e3
      · exact c (e2 ▸ e3)
      · omega
    · refine ⟨by omega, by omega, fun e => ?_⟩
      have e2 : g5 = wr.heap.size + 1 := by simpa [Value.ownBlock] using e
      rcases hgg with e3 | e3
      · have := (hol _ e3).2; omega
      · omega

set_option maxHeartbeats 40000000 in
theorem gatherMerges (ls : List (List Hz)) (a : Int) (ords : List Int) (v u : Value) (w : World) (hv : ListsF w (fun _ => True) v ls) (ha : 0 ≤ a ∧ a ≤ 255) (hu : Nums w .u8 u ords) (hord : ∀ x ∈ ords, 0 ≤ x ∧ x ≤ 255) (hT : Tab w) :
    Calls Tryd.prog 3 #[v, .int .u8 a, u] w fun e w' => e = .returned (.bool true) ∧ Below w.heap.size w w' := by
  have TT := Lib.hid hT
  have AW := Lib.hid (awake w hT)
  obtain ⟨n, hn, hn1⟩ : ∃ n : Nat, (n : Int) = 1 + a % 16 ∧ 1 ≤ n ∧ n ≤ 16 := ⟨(1 + a % 16).toNat, by omega, by omega, by omega⟩
  obtain ⟨vp, vc, rfl, hvcap, hvbig, -, -⟩ := id hv
  obtain ⟨up, uc, rfl, hucap, hubig, -, -⟩ := hu.slice
  have hl1 : ls.length ≤ 9223372036854775807 := by omega
  have hl2 : ords.length ≤ 9223372036854775807 := by omega
  have HV := Lib.hid (And.intro hv (And.intro hu hord))
  clear hT hv hu hord hvcap hvbig hucap hubig
  go_enter Tryd.func3, Tryd.ntmps3
  go_wp2_with fail
  with_reducible refine AW.out.mono ?_
  rintro e w0 ⟨rfl, hb0⟩
  go_wp2_with fail
  with_reducible refine (newS 3 2 0 w0 (by omega)).mono ?_
  rintro e w1 ⟨c, rfl, hG1, hb1⟩
  have B1 := Lib.hid (hb0.trans (hb1.mono hb0.size))
  obtain ⟨F1, R1, hG1⟩ := hG1.mono hb0.size
  have b2 := (Below.refl w1.heap.size w1).alloc (Nat.le_refl _) (.cells #[.int .i32 0, .int .i32 0] 21)
  have B2 := Lib.hid (B1.out.trans (b2.mono B1.out.size))
  have A := Lib.hid (show Calls Tryd.prog 11 #[.pointer (some ⟨c, 0, none⟩), .int .i64 4, .agg #[.int .u8 8, .int .u64 0, .int .u64 0, .int .u64 0, .int .u64 0, .int .u64 0, .int .u64 1, .int .u64 0, .int .i64 n, .int .i64 0, .int .i64 0, .int .i64 0, .slice none 0 0, .slice none 0 0, .slice (some ⟨w1.heap.size, 0, none⟩) 2 2, .slice none 0 0], .int .u64 1, .int .u64 0] (w1.alloc (.cells #[.int .i32 0, .int .i32 0] 21)) _ from askT w.heap.size c F1 R1 ⟨3, 2, 0, []⟩ (nM n) (.slice none 0 0) (.slice none 0 0) (.slice (some ⟨w1.heap.size, 0, none⟩) 2 2) (.slice none 0 0) (fun _ => False) 4 1 0 _ (TT.out.below B2.out) (hG1.below b2) B2.out.size (ok_new 3 2 0 (by decide)) ⟨Nums.nil _ _, RecsF.nil _ _, num_two w1, HitsF.nil _ _⟩ (by simp [nM]) (by simp [nM]) (merge_ask n (by omega)))
  have L1 := Lib.hid (fun k h => ((hG1.below b2).low k h).1)
  have HN := Lib.hid hn
  rw [hn] at A
  clear hb0 hb1 hG1 AW b2 hn
  go_wp2_with fail
  with_reducible refine A.out.mono ?_
  rintro e w3 ⟨v3, rs3, G3, F3, R3, rfl, ho3, hs3, -, -, hnF, hG3, hmd3, -, -⟩
  have hb3 := hmd3.below (B := w.heap.size) B2.out.size L1.out
  obtain ⟨a1, a2, a3, a4, rs4, rfl, hs4⟩ := says_cons hs3
  obtain ⟨b1, b2, b3, b4, rs5, rfl, hs5⟩ := says_cons hs4
  obtain ⟨d1, d2, d3, d4, rs6, rfl, hs6⟩ := says_cons hs5
  obtain rfl := says_nil hs6
  obtain ⟨p, m, cp, rfl⟩ := own_form ho3
  obtain ⟨b, rfl, rfl, -, hbl, hc⟩ := mails_at ho3 (by simp)
  have c7 : w3.cell? ⟨b, 7, none⟩ = some (.int .u64 1) := hc 0 7 _ (by simp) rfl
  have C7 := Lib.hid c7
  have B3 := Lib.hid (B2.out.trans hb3)
  have G3 := Lib.hid hG3
  have NF := Lib.hid (hnF b rfl)
  clear hs3 hs4 hs5 ho3 hc hb3 hG3 A hnF hmd3 c7
  go_wp2_with fail
  have TS := Lib.hid (TState.start w3 n ls)
  obtain ⟨t3, ht3⟩ : ∃ t3, t3 = w3.heap.size := ⟨_, rfl⟩
  go_loopg [11, 42] 3 (fun q av i wr => ∃ (p : Nat) (us : Nat → Value), q = 3 - p ∧ p ≤ 3 ∧ i = .int .i64 p ∧ TState w3 n ls wr w3.heap.size p av us)
  case atStart => exact ⟨0, _, rfl, by omega, rfl, TS.out⟩
  case round =>
    obtain ⟨p, us, rfl, hp3, rfl, hS⟩ := hrel
    by_cases hlt : p < 3
    · have ST := Lib.hid hS
      obtain ⟨rs0, G0, hao, har, hag⟩ := hS.all
      obtain ⟨qa, na, ca, rfl⟩ := own_form hao
      have AO := Lib.hid (And.intro hao (And.intro har hag))
      have hs3 := hS.below.size
      have hl0 : rs0.length ≤ 16 * p := by have := har.len; have := allM_length ls p; omega
      obtain rfl : na = rs0.length := own_len hao
      clear hS hao har hag TS
      obtain ⟨wo, rfl⟩ : ∃ wo : World, wo = wr := ⟨_, rfl⟩
      have HP := Lib.hid (HV.out.1.downto (B3.out.trans (ST.out.below.mono B3.out.size)))
      go_upto_if 48 with fail
      go_cut [14] (fun s14 wc => MineAt wo wc p (ls.getD p []) s14)
      case first =>
        by_cases hpl : p < ls.length
        · obtain ⟨pb, po, pq, pqc, rfl, pcell, phit⟩ := HP.out.elem hpl
          have hD : ls.getD p [] = ls[p] := by simp [List.getD, List.getElem?_eq_getElem hpl]
          have HD := Lib.hid hD
          have PH := Lib.hid phit
          have hlh : ls[p].length ≤ 9223372036854775807 := by obtain ⟨_, _, hv, h1, h2, -, -⟩ := phit; cases hv; omega
          have M0 := Lib.hid (MineAt.start wo p)
          clear phit hD
          go_wp2_with fail
          have d3 : decide ((p : Int) < 3) = true := decide_eq_true (by omega)
          have d4 : decide ((p : Int) < (ls.length : Int)) = true := decide_eq_true (by omega)
          have d5 : decide (p < ls.length) = true := decide_eq_true hpl
          have d6 : decide (p < 3) = true := decide_eq_true hlt
          simp only [d3, d4, d5, d6]
          go_loopg [14, 54] ls[p].length (fun q out i wr => ∃ k : Nat, q = ls[p].length - k ∧ k ≤ ls[p].length ∧ i = .int .i64 k ∧ MineAt wo wr p (ls[p].take k) out)
          case atStart => exact ⟨0, rfl, by omega, rfl, M0.out⟩
          case round =>
            obtain ⟨k, rfl, hk, rfl, hM⟩ := hrel
            by_cases hlk : k < ls[p].length
            · have MM := Lib.hid hM
              obtain ⟨rs, G, ho, hr, hG, hb⟩ := hM
              obtain ⟨oq, on, oc, rfl⟩ := own_form ho
              obtain rfl : on = rs.length := own_len ho
              obtain ⟨_, _, hv', -, -, -, hel⟩ := PH.out.below hb
              obtain ⟨rfl, -, rfl⟩ := Value.slice.inj hv'
              obtain ⟨hb', off, u', rfl, -, d0, d1, d2, hun, -⟩ := hel k hlk
              obtain ⟨uq, uc', rfl, -, -, -, -⟩ := hun.slice
              have hrl : rs.length ≤ 16 := by have := hr.len; rw [mineZ_length] at this; omega
              by_cases h16 : k < 16
              · obtain ⟨g5, c5, w5, hrun, hown5, hg5, hat5, hlt5⟩ := run_push rowHit (w := (wr.alloc (.cells #[.int .u64 ls[p][k].id, .int .u64 ls[p][k].dist, .slice uq ls[p][k].vec.length uc'] 40)).alloc (.cells #[.int .i32 1, .int .i32 1] 21)) ((ho.alloc _).alloc _) (by have := hb.size; simp; omega) #[.int .u64 (3 * (k : Int) + (p : Int)), .int .u64 ls[p][k].dist, .slice (some ⟨wr.heap.size + 1, 0, none⟩) 2 2] rfl (by simp [Value.oneCell']) (by simp [maxLen]; omega) (by omega)
                simp only [World.size_alloc] at hrun hat5
                have NX := Lib.hid (MineAt.push (hs' := ls[p].take (k + 1)) ho hr hG hb hown5 hg5 hat5 (by rw [mineZ_lo p ls[p] k hlk h16]; simp))
                clear ho hr hG hb hv' hel hun hown5 hg5 hat5 hlt5
                go_wp2_with (with_reducible refine wpList_append_eq hrun rfl _ _ rfl rfl rfl ?_)
                go_roundg (ls[p].length - (k + 1))
                case measure => omega
                case rel => exact ⟨k + 1, rfl, by omega, by go_num, NX.out⟩
              · have NX := Lib.hid (MM.out.on (hs' := ls[p].take (k + 1)) ((Below.refl wr.heap.size wr).alloc (Nat.le_refl _) (.cells #[.int .u64 ls[p][k].id, .int .u64 ls[p][k].dist, .slice uq ls[p][k].vec.length uc'] 40)) (mineZ_hi p ls[p] k (by omega)))
                clear ho hr hG hb hv' hel hun
                go_wp2_with fail
                go_roundg (ls[p].length - (k + 1))
                case measure => omega
                case rel => exact ⟨k + 1, rfl, by omega, by go_num, NX.out⟩
            · obtain rfl : k = ls[p].length := by omega
              rw [List.take_length] at hM
              have HM := Lib.hid hM
              clear hM
              go_wp2_with fail
              go_meet
              rw [HD.out]
              exact HM.out
        · go_wp2_with fail
          go_meet
          rw [show ls.getD p [] = [] by simp [List.getD, List.getElem?_eq_none (show ls.length ≤ p by omega)]]
          exact MineAt.start _ p
      case rest =>
      obtain ⟨rs, G, hmo, hmr, hG, hbc⟩ := hcut
      obtain ⟨mq, mn, mc, rfl⟩ := own_form hmo
      obtain rfl : mn = rs.length := own_len hmo
      have hrl : rs.length ≤ 16 := by have := hmr.len; rw [mineZ_length] at this; omega
      obtain ⟨q5, n5, c5, w5, hrun, hown5, hg5, hat5⟩ := run_app rowHit (own_below AO.out.1 hbc) (by have := hbc.size; omega) (SrcAt.of_own hmo) (flat3_one hmr.one) (by simp [maxLen]; omega) (by omega)
      have hne5 : (Value.slice mq rs.length mc).ownBlock = none ∨ (Value.slice mq rs.length mc).ownBlock ≠ (Value.slice qa rs0.length ca).ownBlock := by
        cases hq : (Value.slice mq rs.length mc).ownBlock with
        | none => exact .inl rfl
        | some k => exact .inr (fun e => by have h1 := (hmo.lt k hq).1; have h2 := (AO.out.1.lt k e.symm).2; omega)
      have hm5 := hmo.kept hg5 hne5
      have ag5 : ∀ k, G k → w5.heap[k]? = wc.heap[k]? := fun k hk => hg5.block k (hG k hk).2.1 (fun e => by have h1 := (hG k hk).1; have h2 := (AO.out.1.lt k e.symm).2; omega)
      have hh5 : HitsF w5 (fun k => G k ∨ (Value.slice mq rs.length mc).ownBlock = some k) (.slice mq rs.length mc) (mineZ p (ls.getD p [])) := HitsF.of_own hm5 (fun k e => .inr e) ((hmr.agree ag5).mono fun _ => .inl)
      have SO := Lib.hid (sort _ _ (all_sorted (mineZ_ids p (ls.getD p []))) (mineZ_ids p (ls.getD p [])) (allZ_perm _) (by rw [mineZ_length]; omega) _ _ w5 hh5)
      have FM := Lib.hid (And.intro hmo (And.intro hmr (And.intro hG (And.intro hbc (And.intro hown5 (And.intro hg5 hat5))))))
      have s5 := hg5.size
      have sc := hbc.size
      clear hmo hmr hG hbc hown5 hg5 hat5 hm5 ag5 hh5 hne5
      go_wp2_with (with_reducible refine wpList_append_eq hrun rfl _ _ rfl rfl rfl ?_)
      with_reducible refine SO.out.mono ?_
      rintro e w6 ⟨v6, rfl, hh6, hb6⟩
      obtain ⟨q6, c6, rfl, hc6, hc6', -, -⟩ := id hh6
      obtain ⟨ln, hln⟩ : ∃ ln, ln = (allZ (mineZ p (ls.getD p []))).length := ⟨_, rfl⟩
      rw [← hln] at hc6 hh6 ⊢
      obtain ⟨mm, hmm, hm1, hm2⟩ : ∃ mm : Nat, (mm : Int) = min (ln : Int) (1 + a % 16) ∧ mm ≤ ln ∧ mm = min n ln := ⟨min n ln, by rw [← HN.out]; omega, by omega, rfl⟩
      have hmin := min2m (ln : Int) (1 + a % 16) w6
      rw [← hmm] at hmin
      have hmc6 : mm ≤ c6 := by omega
      have ht6 : w6.heap[w3.heap.size]? = wo.heap[w3.heap.size]? := by
        have h1 := ST.out.hi.2
        rw [hb6.block _ (by omega), FM.out.2.2.2.2.2.1.block _ (by omega) (fun e => ST.out.tav e.symm), FM.out.2.2.2.1.block _ h1]
      obtain ⟨u9, hu9⟩ : ∃ u9, w6.cell? ⟨w3.heap.size, p, none⟩ = some u9 := by
        have h1 := cells_get (ht6.trans ST.out.blk) p
        have : p = 0 ∨ p = 1 ∨ p = 2 := by omega
        rcases this with rfl | rfl | rfl <;> exact ⟨_, h1⟩
      have hf9 : w6.frozen? ⟨w3.heap.size, p, none⟩ = false := thawed (ht6.trans ST.out.blk) p
      have hh6' : HitsF w6 (Plus (fun k => G k ∨ (Value.slice mq rs.length mc).ownBlock = some k) w5 w6) (.slice q6 mm c6) ((allZ (mineZ p (ls.getD p []))).take n) := by
        rw [hln] at hh6 hm1 hm2
        have h1 := HitsF.first hh6 hm1
        rw [hm2] at h1 ⊢
        rw [List.take_eq_take_min]
        exact h1
      have NX := Lib.hid (ST.out.next hlt FM.out.1 FM.out.2.1 FM.out.2.2.1 FM.out.2.2.2.1 AO.out.1 AO.out.2.1 AO.out.2.2 FM.out.2.2.2.2.1 FM.out.2.2.2.2.2.1 FM.out.2.2.2.2.2.2 hh6' (fun k hk => by
        have s6 := hb6.size
        rcases hk with (hk | hk) | hk
        · have := FM.out.2.2.1 k hk; omega
        · have := FM.out.1.lt k hk; omega
        · have h1 := hk.1; have h2 := hk.2; omega) hb6)
      clear hh6 hh6' hb6 ht6 hmm hm1 hm2 hln
      go_wp2_with fail
      go_roundg (3 - (p + 1))
      case measure => omega
      case rel => exact ⟨p + 1, _, rfl, by omega, by go_num, NX.out⟩
    · obtain rfl : p = 3 := by omega
      obtain ⟨wt, rfl⟩ : ∃ wt : World, wt = wr := ⟨_, rfl⟩
      have ST := Lib.hid hS
      obtain ⟨rs0, G0, hao, har, hag⟩ := hS.all
      obtain ⟨qa, na, ca, rfl⟩ := own_form hao
      obtain rfl : na = rs0.length := own_len hao
      have hl0 : (allM ls 3).length ≤ 48 := by have := allM_length ls 3; omega
      have IDS := Lib.hid (allM_from ls 3 (by omega)).1
      have hh0 : HitsF wt (fun k => G0 k ∨ (Value.slice qa rs0.length ca).ownBlock = some k) (.slice qa rs0.length ca) (allM ls 3) := HitsF.of_own hao (fun k e => .inr e) (har.mono fun _ => .inl)
      have SO := Lib.hid (sort _ _ (all_sorted IDS.out) IDS.out (allZ_perm _) (by omega) _ _ wt hh0)
      have HH0 := Lib.hid (show ∀ k, (G0 k ∨ (Value.slice qa rs0.length ca).ownBlock = some k) → w3.heap.size ≤ k ∧ k < wt.heap.size from fun k hk => hk.elim (fun h => ⟨(hag k h).1, (hag k h).2.1⟩) (fun e => hao.lt k e))
      clear hS hao har hag hh0 TS hl0
      go_wp2_with fail
      with_reducible refine SO.out.mono ?_
      rintro e w6 ⟨v6, rfl, hh6, hb6⟩
      obtain ⟨q6, c6, rfl, hc6, hc6', -, -⟩ := id hh6
      obtain ⟨ln, hln⟩ : ∃ ln, ln = (allZ (allM ls 3)).length := ⟨_, rfl⟩
      rw [← hln] at hc6 hh6 ⊢
      obtain ⟨mm, hmm, hm1, hm2⟩ : ∃ mm : Nat, (mm : Int) = min (ln : Int) (1 + a % 16) ∧ mm ≤ ln ∧ mm = min n ln := ⟨min n ln, by rw [← HN.out]; omega, by omega, rfl⟩
      have hmin := min2m (ln : Int) (1 + a % 16) w6
      rw [← hmm] at hmin
      have hmc6 : mm ≤ c6 := by omega
      have WANT := Lib.hid (show HitsF w6 (Plus (fun k => G0 k ∨ (Value.slice qa rs0.length ca).ownBlock = some k) wt w6) (.slice q6 mm c6) ((allZ (allM ls 3)).take n) by
        rw [hln] at hh6 hm1 hm2
        have h1 := HitsF.first hh6 hm1
        rw [hm2] at h1 ⊢
        rw [List.take_eq_take_min]
        exact h1)
      have B6 := Lib.hid hb6
      have B36 := Lib.hid (ST.out.below.trans (hb6.mono ST.out.below.size))
      clear hh6 hb6 hmm hm1 hm2 hln SO
      go_wp2_with fail
      have TD := Lib.hid (TodoAt.start w6)
      go_loopg [99] 3 (fun q i wr => ∃ (k : Nat) (ts : List Int), q = 3 - k ∧ k ≤ 3 ∧ i = .int .i64 k ∧ TodoAt w6 wr ts)
      case atStart => exact ⟨0, _, rfl, by omega, rfl, TD.out⟩
      case round =>
        obtain ⟨k, ts, rfl, hk, rfl, hT⟩ := hrel
        have hl3 : ts.length = 3 := hT.1.length_eq
        by_cases hlk : k < 3
        · by_cases hko : k < ords.length
          · have hbw := (B3.out.trans (B36.out.mono B3.out.size)).trans (hT.2.2.mono (Nat.le_trans B3.out.size B36.out.size))
            obtain ⟨ob, oo, rfl, ocell⟩ := (HV.out.2.1.below hbw).elem hko
            have hox := HV.out.2.2 _ (List.getElem_mem hko)
            obtain ⟨j, hj, hj3⟩ : ∃ j : Nat, (j : Int) = ords[k] % 3 ∧ j < 3 := ⟨(ords[k] % 3).toNat, by omega, by omega⟩
            have TT2 := Lib.hid hT
            have hxj : ords[k] % 3 = (j : Int) := hj.symm
            clear hT hbw hj
            go_wp2_with fail
            try rw [hxj]
            have hj3' : (j : Int) < 3 := by omega
            have hk3' : (k : Int) < 3 := by omega
            have hj0' : (0 : Int) ≤ (j : Int) := by omega
            obtain ⟨W1, hW1⟩ : ∃ W1, W1 = wr.drew := ⟨_, rfl⟩
            have b1 : Below wr.heap.size wr W1 := by rw [hW1]; exact (Below.refl _ _).drew
            have T1 : TodoAt w6 W1 ts := ⟨TT2.out.1, own_below TT2.out.2.1 b1, TT2.out.2.2.trans (b1.mono TT2.out.2.2.size)⟩
            have hkl : k < ts.length := by omega
            have hjl : j < ts.length := by omega
            obtain ⟨ck, fk⟩ := T1.cell hkl
            obtain ⟨cj, fj⟩ := T1.cell hjl
            obtain ⟨W2, hW2⟩ : ∃ W2, W2 = W1.setCell ⟨w6.heap.size, k, none⟩ (.int .i64 ts[j]) := ⟨_, rfl⟩
            have o2 : W2.ownsRow w6.heap.size 3 1 (.slice (some ⟨w6.heap.size, 0, none⟩) 3 3) 3 ((ts.map (Value.int .i64)).set k (.int .i64 ts[j])) := by rw [hW2]; exact own_setCell T1.2.1 rfl (by omega) _
            obtain ⟨_, _, cur2, hh2, hcs2⟩ := own_cap o2
            have f2 : W2.frozen? ⟨w6.heap.size, j, none⟩ = false := by simp [World.frozen?, hh2]
            obtain ⟨u2, hu2⟩ : ∃ u2, W2.cell? ⟨w6.heap.size, j, none⟩ = some u2 := by
              have hlt : j < cur2.size := by omega
              exact ⟨cur2[j], by simp [World.cell?, hh2, hlt]⟩
            have NX := Lib.hid (TT2.out.swap b1 hkl hjl)
            rw [← hW2] at NX
            have HW1 := Lib.hid hW1
            have HW2 := Lib.hid hW2
            clear hW1 hW2 b1 T1 o2 hh2 hcs2
            refine region_go (fun _ => True) (by kernel_rfl) ?hS0 (fun hH => ?_)
            case hS0 =>
              trivial
            rw [← HW1.out]
            refine tkY (v := ?_) 0 hH rfl (fun _ _ _ h => h) ?hc ?hw ?hy ?_
            case hc => decide +kernel
            case hw => rfl
            case hy => (intro w hS; (try dsimp only at hS); go_simp; try with_reducible rfl)
            (try simp only [Act.put]); (repeat (first | simp only [List.setIfInBounds_toArray] | simp only [List.set_cons_zero] | simp only [List.set_cons_succ]))
            refine tkY (v := ?_) 1 hH rfl (fun _ _ _ h => h) ?hc ?hw ?hy ?_
            case hc => decide +kernel
            case hw => rfl
            case hy => (intro w hS; (try dsimp only at hS); go_simp; try with_reducible rfl)
            (try simp only [Act.put]); (repeat (first | simp only [List.setIfInBounds_toArray] | simp only [List.set_cons_zero] | simp only [List.set_cons_succ]))
            refine tkY (v := ?_) 2 hH rfl (fun _ _ _ h => h) ?hc ?hw ?hy ?_
            case hc => decide +kernel
            case hw => rfl
            case hy => (intro w hS; (try dsimp only at hS); go_simp; try with_reducible rfl)
            (try simp only [Act.put]); (repeat (first | simp only [List.setIfInBounds_toArray] | simp only [List.set_cons_zero] | simp only [List.set_cons_succ]))
            refine tkY (v := ?_) 3 hH rfl (fun _ _ _ h => h) ?hc ?hw ?hy ?_
            case hc => decide +kernel
            case hw => rfl
            case hy => (intro w hS; (try dsimp only at hS); go_simp; try with_reducible rfl)
            (try simp only [Act.put]); (repeat (first | simp only [List.setIfInBounds_toArray] | simp only [List.set_cons_zero] | simp only [List.set_cons_succ]))
            refine tkY (v := ?_) 4 hH rfl (fun _ _ _ h => h) ?hc ?hw ?hy ?_
            case hc => decide +kernel
            case hw => rfl
            case hy => (intro w hS; (try dsimp only at hS); go_simp; try with_reducible rfl)
            (try simp only [Act.put]); (repeat (first | simp only [List.setIfInBounds_toArray] | simp only [List.set_cons_zero] | simp only [List.set_cons_succ]))
            refine tkY (v := ?_) 5 hH rfl (fun _ _ _ h => h) ?hc ?hw ?hy ?_
            case hc => decide +kernel
            case hw => rfl
            case hy => (intro w hS; (try dsimp only at hS); go_simp; try with_reducible rfl)
            (try simp only [Act.put]); (repeat (first | simp only [List.setIfInBounds_toArray] | simp only [List.set_cons_zero] | simp only [List.set_cons_succ]))
            refine tkY (v := ?_) 6 hH rfl (fun _ _ _ h => h) ?hc ?hw ?hy ?_
            case hc => decide +kernel
            case hw => rfl
            case hy => (intro w hS; (try dsimp only at hS); go_simp; try with_reducible rfl)
            (try simp only [Act.put]); (repeat (first | simp only [List.setIfInBounds_toArray] | simp only [List.set_cons_zero] | simp only [List.set_cons_succ]))
            refine tkY (v := ?_) 8 hH rfl (fun _ _ _ h => h) ?hc ?hw ?hy ?_
            case hc => decide +kernel
            case hw => rfl
            case hy => (intro w hS; (try dsimp only at hS); go_simp; try with_reducible rfl)
            (try simp only [Act.put]); (repeat (first | simp only [List.setIfInBounds_toArray] | simp only [List.set_cons_zero] | simp only [List.set_cons_succ]))
            refine tkY (v := ?_) 9 hH rfl (fun _ _ _ h => h) ?hc ?hw ?hy ?_
            case hc => decide +kernel
            case hw => rfl
            case hy => (intro w hS; (try dsimp only at hS); go_simp; try with_reducible rfl)
            (try simp only [Act.put]); (repeat (first | simp only [List.setIfInBounds_toArray] | simp only [List.set_cons_zero] | simp only [List.set_cons_succ]))
            refine tkY (v := ?_) 10 hH rfl (fun _ _ _ h => h) ?hc ?hw ?hy ?_
            case hc => decide +kernel
            case hw => rfl
            case hy => (intro w hS; (try dsimp only at hS); go_simp; try with_reducible rfl)
            (try simp only [Act.put]); (repeat (first | simp only [List.setIfInBounds_toArray] | simp only [List.set_cons_zero] | simp only [List.set_cons_succ]))
            refine spB 7 11 rfl rfl ?hr ?hw ?hv (fun K' hK => ?b1_1) (fun K' hK => ?b2_1)
            case hr => decide +kernel
            case hw => rfl
            case hv => rfl
            case b1_1 =>
              go_simp
              try dsimp only
              refine hK.out _ _ ?hS (fun hH' => ?_)
              case hS =>
                trivial
              clear hK K' hH; have hH := hH'; clear hH'; (try simp only [Act.put]); (repeat (first | simp only [List.setIfInBounds_toArray] | simp only [List.set_cons_zero] | simp only [List.set_cons_succ]))
              refine spk 11 rfl ?hr ?hw (fun K' hK => ?_)
              case hr => decide +kernel
              case hw => rfl
              go_simp
              try dsimp only
              refine hK.out _ _ ?hS (fun hH' => ?_)
              case hS =>
                trivial
              clear hK K' hH; have hH := hH'; clear hH'; (try simp only [Act.put]); (repeat (first | simp only [List.setIfInBounds_toArray] | simp only [List.set_cons_zero] | simp only [List.set_cons_succ]))
              refine tkY (v := ?_) 12 hH rfl (fun _ _ _ h => h) ?hc ?hw ?hy ?_
              case hc => decide +kernel
              case hw => rfl
              case hy => (intro w hS; (try dsimp only at hS); go_simp; try with_reducible rfl)
              (try simp only [Act.put]); (repeat (first | simp only [List.setIfInBounds_toArray] | simp only [List.set_cons_zero] | simp only [List.set_cons_succ]))
              refine spk 13 rfl ?hr ?hw (fun K' hK => ?_)
              case hr => decide +kernel
              case hw => rfl
              go_simp
              rw [← HW2.out]
              try dsimp only
              refine hK.out _ _ ?hS (fun hH' => ?_)
              case hS =>
                trivial
              clear hK K' hH; have hH := hH'; clear hH'; (try simp only [Act.put]); (repeat (first | simp only [List.setIfInBounds_toArray] | simp only [List.set_cons_zero] | simp only [List.set_cons_succ]))
              refine tkY (v := ?_) 14 hH rfl (fun _ _ _ h => h) ?hc ?hw ?hy ?_
              case hc => decide +kernel
              case hw => rfl
              case hy => (intro w hS; (try dsimp only at hS); go_simp; try with_reducible rfl)
              (try simp only [Act.put]); (repeat (first | simp only [List.setIfInBounds_toArray] | simp only [List.set_cons_zero] | simp only [List.set_cons_succ]))
              refine spk 15 rfl ?hr ?hw (fun K' hK => ?_)
              case hr => decide +kernel
              case hw => rfl
              go_simp
              try dsimp only
              refine hK.out _ _ ?hS (fun hH' => ?_)
              case hS =>
                trivial
              clear hK K' hH; have hH := hH'; clear hH'; (try simp only [Act.put]); (repeat (first | simp only [List.setIfInBounds_toArray] | simp only [List.set_cons_zero] | simp only [List.set_cons_succ]))
              refine wpAnyH_done (by decide +kernel) ?_ _
              go_wp2_with fail
              go_roundg (3 - (k + 1))
              case measure => omega
              case rel => exact ⟨k + 1, _, rfl, by omega, by go_num, NX.out⟩
            case b2_1 =>
              go_simp
              try dsimp only
              refine hK.out _ _ ?hS (fun hH' => ?_)
              case hS =>
                trivial
              clear hK K' hH; have hH := hH'; clear hH'; (try simp only [Act.put]); (repeat (first | simp only [List.setIfInBounds_toArray] | simp only [List.set_cons_zero] | simp only [List.set_cons_succ]))
              refine spk 7 rfl ?hr ?hw (fun K' hK => ?_)
              case hr => decide +kernel
              case hw => rfl
              go_simp
              try dsimp only
              refine hK.out _ _ ?hS (fun hH' => ?_)
              case hS =>
                trivial
              clear hK K' hH; have hH := hH'; clear hH'; (try simp only [Act.put]); (repeat (first | simp only [List.setIfInBounds_toArray] | simp only [List.set_cons_zero] | simp only [List.set_cons_succ]))
              refine tkY (v := ?_) 12 hH rfl (fun _ _ _ h => h) ?hc ?hw ?hy ?_
              case hc => decide +kernel
              case hw => rfl
              case hy => (intro w hS; (try dsimp only at hS); go_simp; try with_reducible rfl)
              (try simp only [Act.put]); (repeat (first | simp only [List.setIfInBounds_toArray] | simp only [List.set_cons_zero] | simp only [List.set_cons_succ]))
              refine spk 13 rfl ?hr ?hw (fun K' hK => ?_)
              case hr => decide +kernel
              case hw => rfl
              go_simp
              rw [← HW2.out]
              try dsimp only
              refine hK.out _ _ ?hS (fun hH' => ?_)
              case hS =>
                trivial
              clear hK K' hH; have hH := hH'; clear hH'; (try simp only [Act.put]); (repeat (first | simp only [List.setIfInBounds_toArray] | simp only [List.set_cons_zero] | simp only [List.set_cons_succ]))
              refine tkY (v := ?_) 14 hH rfl (fun _ _ _ h => h) ?hc ?hw ?hy ?_
              case hc => decide +kernel
              case hw => rfl
              case hy => (intro w hS; (try dsimp only at hS); go_simp; try with_reducible rfl)
              (try simp only [Act.put]); (repeat (first | simp only [List.setIfInBounds_toArray] | simp only [List.set_cons_zero] | simp only [List.set_cons_succ]))
              refine spk 15 rfl ?hr ?hw (fun K' hK => ?_)
              case hr => decide +kernel
              case hw => rfl
              go_simp
              try dsimp only
              refine hK.out _ _ ?hS (fun hH' => ?_)
              case hS =>
                trivial
              clear hK K' hH; have hH := hH'; clear hH'; (try simp only [Act.put]); (repeat (first | simp only [List.setIfInBounds_toArray] | simp only [List.set_cons_zero] | simp only [List.set_cons_succ]))
              refine wpAnyH_done (by decide +kernel) ?_ _
              go_wp2_with fail
              go_roundg (3 - (k + 1))
              case measure => omega
              case rel => exact ⟨k + 1, _, rfl, by omega, by go_num, NX.out⟩
          · have TT2 := Lib.hid hT
            clear hT
            go_wp2_with fail
            go_roundg (3 - (k + 1))
            case measure => omega
            case rel => exact ⟨k + 1, ts, rfl, by omega, by go_num, TT2.out⟩
        · obtain rfl : k = 3 := by omega
          obtain ⟨wz, rfl⟩ : ∃ wz : World, wz = wr := ⟨_, rfl⟩
          have TZ := Lib.hid hT
          have B6z := Lib.hid hT.2.2
          have B3z := Lib.hid (B36.out.trans (hT.2.2.mono B36.out.size))
          have H0 : Hid (HState w.heap.size c F3 wz (gMK n (toldM ls n) ts 0) wz) := Lib.hid ⟨F3, R3, by have := G3.out.below B3z.out; rw [← HN.out] at this; exact this, fun j hj => .inl hj, Mod.refl _ _⟩
          clear hT
          go_wp2_with fail
          go_loopg [129] 3 (fun q i wr => ∃ k : Nat, q = 3 - k ∧ k ≤ 3 ∧ i = .int .i64 k ∧ HState w.heap.size c F3 wz (gMK n (toldM ls n) ts k) wr)
          case atStart => exact ⟨0, rfl, by omega, rfl, H0.out⟩
          case round =>
            obtain ⟨k, rfl, hk, rfl, hH⟩ := hrel
            by_cases hlk : k < 3
            · obtain ⟨F, R, hG, hFz, hm⟩ := hH
              have hl3 : ts.length = 3 := TZ.out.1.length_eq
              have hkl : k < ts.length := by omega
              have l3z := B3z.out.size
              have l36 := B36.out.size
              have l6z := B6z.out.size
              have ltw := ST.out.below.size
              have lt6 := B6.out.size
              have hold : ∀ j, w3.heap.size ≤ j → j < wz.heap.size → wr.heap[j]? = wz.heap[j]? := fun j h1 h2 => hm.block j h2 (fun hf => by have := (G3.out.low j hf).2; omega)
              obtain ⟨pn, hpn, hpn3⟩ : ∃ pn : Nat, ts[k] = (pn : Int) ∧ pn < 3 := by
                rcases todo_range TZ.out.1 ts[k] (List.getElem_mem hkl) with h | h | h
                · exact ⟨0, h, by omega⟩
                · exact ⟨1, h, by omega⟩
                · exact ⟨2, h, by omega⟩
              have tcell : wr.cell? ⟨w6.heap.size, k, none⟩ = some (.int .i64 pn) := by
                rw [World.cell?_of_block (hold w6.heap.size (by omega) (lt_of_cell (TZ.out.cell hkl).1)), (TZ.out.cell hkl).1, hpn]
              have bcell : wr.cell? ⟨b, 7, none⟩ = some (.int .u64 1) := by
                rw [World.cell?_of_block (hm.block b (lt_of_cell (below_cells B3z.out C7.out)) NF.out)]
                exact below_cells B3z.out C7.out
              obtain ⟨tq, tc, htq, -, -, -, -⟩ := id (ST.out.told pn hpn3)
              have blk3 : wr.heap[w3.heap.size]? = wt.heap[w3.heap.size]? := by
                have h1 := ST.out.hi.2
                rw [hold _ (Nat.le_refl _) (by omega), B6z.out.block _ (by omega), B6.out.block _ h1]
              have acell : wr.cell? ⟨w3.heap.size, pn, none⟩ = some (.slice tq ((allZ (mineZ pn (ls.getD pn []))).take n).length tc) := by
                rw [← htq, cells_get (blk3.trans ST.out.blk) pn]
                have : pn = 0 ∨ pn = 1 ∨ pn = 2 := by omega
                rcases this with rfl | rfl | rfl <;> rfl
              have hTM : toldM ls n ts[k] = (allZ (mineZ pn (ls.getD pn []))).take n := by rw [hpn]; rfl
              have hh := ST.out.told pn hpn3
              rw [htq, ← hTM] at hh
              rw [← hTM] at acell
              have hhr : HitsF wr (fun k => w3.heap.size ≤ k ∧ k < wt.heap.size) (.slice tq (toldM ls n ts[k]).length tc) (toldM ls n ts[k]) := (hh.agree (fun j hj => by rw [hold j hj.1 (by omega), B6z.out.block j (by omega), B6.out.block j hj.2.1])).mono fun j hj => ⟨hj.1, hj.2.1⟩
              have BR := Lib.hid (show Below w.heap.size w wr from (B3.out.trans (B3z.out.mono B3.out.size)).trans (hm.below (Nat.le_trans B3.out.size B3z.out.size) (fun j hj => (G3.out.low j hj).1)))
              have hlr := hm.size
              obtain ⟨W1, hW1⟩ : ∃ W1, W1 = wr.drew := ⟨_, rfl⟩
              have b1 : Below wr.heap.size wr W1 := by rw [hW1]; exact (Below.refl _ _).drew
              have HC0 := hearT w.heap.size c F R (fun k => w3.heap.size ≤ k ∧ k < wt.heap.size) (gMK n (toldM ls n) ts k) (nMS (toldM ls n ts[k])) (.slice none 0 0) (.slice none 0 0) (.slice none 0 0) (.slice tq (toldM ls n ts[k]).length tc) (ts[k] + 1) W1 (TT.out.below (BR.out.trans (b1.mono BR.out.size))) (hG.below b1) (Nat.le_trans BR.out.size b1.size) (gMK_ok n hn1 (toldM ls n) (fun p => ⟨toldM_len ls n p, toldM_vec ls n p⟩) ts k) ⟨Nums.nil _ _, RecsF.nil _ _, Nums.nil _ _, hhr.agree (fun j hj => b1.block j (by omega))⟩ (by simp [nMS]) ⟨by simp [nMS], by simp [nMS], by simp [nMS], show (toldM ls n ts[k]).length ≤ 1000000 by have := toldM_len ls n ts[k]; omega⟩ (fun j hj => ⟨by have := b1.size; omega, fun hf => (hFz j hf).elim (fun h => by have := (G3.out.low j h).2; omega) (fun h => by omega)⟩) (merge_next n hn1 (toldM ls n) (fun p => toldM_len ls n p) TZ.out.1 hkl (by rw [hpn]; exact toldM_good ls n pn hpn3))
              obtain ⟨tl, htl⟩ : ∃ tl, tl = (toldM ls n ts[k]).length := ⟨_, rfl⟩
              obtain ⟨mz, hmz⟩ : ∃ mz : List (Int × Nt), mz = (if k < 2 then [] else [(4, resN 1 1 0 (mergeZ n [toldM ls n 0, toldM ls n 1, toldM ls n 2]))]) := ⟨_, rfl⟩
              rw [← hmz] at HC0
              rw [← htl] at acell
              have hh3 : Hid (Calls Tryd.prog 13 #[.pointer (some ⟨c, 0, none⟩), .int .i64 ((pn : Int) + 1), .agg #[.int .u8 10, .int .u64 0, .int .u64 0, .int .u64 0, .int .u64 0, .int .u64 0, .int .u64 1, .int .u64 0, .int .i64 0, .int .i64 0, .int .i64 0, .int .i64 0, .slice none 0 0, .slice none 0 0, .slice none 0 0, .slice tq tl tc]] W1 (GTold W1 w.heap.size c F R (fun k => w3.heap.size ≤ k ∧ k < wt.heap.size) mz (gMK n (toldM ls n) ts (k + 1)))) := Lib.hid (by rw [htl, ← hpn]; exact HC0)
              have MZ := Lib.hid hmz
              have MF := Lib.hid (And.intro hFz (And.intro hm hG))
              have NB : ¬ F b := fun hf => by
                rcases hFz b hf with h | h
                · exact NF.out h
                · have := hbl; omega
              have N3 : ¬ F w3.heap.size := fun hf => by
                have h0 := ST.out.hi.2
                rcases hFz _ hf with h | h
                · have := (G3.out.low _ h).2; omega
                · omega
              have hwh : IntKind.i64.wrap ((pn : Int) + 1) = (pn : Int) + 1 := by simp only [IntKind.wrap, IntKind.bits, IntKind.signed]; simp; omega
              have hp0 : (0 : Int) ≤ (pn : Int) := by omega
              have hp3' : (pn : Int) < 3 := by omega
              have tf : wr.frozen? ⟨w6.heap.size, k, none⟩ = false := by
                have := (TZ.out.cell hkl).2
                simp only [World.frozen?] at this ⊢
                rw [hold w6.heap.size (by omega) (lt_of_cell (TZ.out.cell hkl).1)]
                exact this
              have b17 := below_cells b1 bcell
              have a17 := below_cells b1 acell
              have lbr : b < W1.heap.size := lt_of_cell b17
              have l3r : w3.heap.size < W1.heap.size := lt_of_cell a17
              have HW1 := Lib.hid hW1
              have B1r := Lib.hid b1
              have hk3' : (k : Int) < 3 := by omega
              clear HC0 hmz htl hm hG hFz hW1 b1 hold htq hh hhr hTM blk3 bcell acell
              go_wp2_with fail
              refine region_goH (fun w' => w'.cell? ⟨b, 7, none⟩ = some (.int .u64 1) ∧ w'.cell? ⟨w3.heap.size, pn, none⟩ = some (.slice tq tl tc)) 14 (by kernel_rfl) rfl ?hS0 (fun O hO hH => ?_)
              case hS0 =>
                rw [← HW1.out]; exact ⟨b17, a17⟩
              rw [← HW1.out] at hH ⊢
              refine tkYH (v := ?_) 0 hO hH rfl (fun _ _ _ h => h) ?hc ?hw ?hy ?_
              case hc => decide +kernel
              case hw => rfl
              case hy => (intro w hS; (try dsimp only at hS); go_simp; try with_reducible rfl)
              (try simp only [Act.put]); (repeat (first | simp only [List.setIfInBounds_toArray] | simp only [List.set_cons_zero] | simp only [List.set_cons_succ]))
              refine tkYH (v := ?_) 1 hO hH rfl (fun _ _ _ h => h) ?hc ?hw ?hy ?_
              case hc => decide +kernel
              case hw => rfl
              case hy => (intro w hS; (try dsimp only at hS); go_simp; try with_reducible rfl)
              (try simp only [Act.put]); (repeat (first | simp only [List.setIfInBounds_toArray] | simp only [List.set_cons_zero] | simp only [List.set_cons_succ]))
              refine tkYH (v := ?_) 2 hO hH rfl (fun _ _ _ h => h) ?hc ?hw ?hy ?_
              case hc => decide +kernel
              case hw => rfl
              case hy => (intro w hS; (try dsimp only at hS); go_simp; try with_reducible rfl)
              (try simp only [Act.put]); (repeat (first | simp only [List.setIfInBounds_toArray] | simp only [List.set_cons_zero] | simp only [List.set_cons_succ]))
              refine tkYH (v := ?_) 3 hO hH rfl (fun _ _ _ h => h) ?hc ?hw ?hy ?_
              case hc => decide +kernel
              case hw => rfl
              case hy => (intro w hS; (try dsimp only at hS); go_simp; try with_reducible rfl)
              (try simp only [Act.put]); (repeat (first | simp only [List.setIfInBounds_toArray] | simp only [List.set_cons_zero] | simp only [List.set_cons_succ]))
              refine tkYH (v := ?_) 4 hO hH rfl (fun _ _ _ h => h) ?hc ?hw ?hy ?_
              case hc => decide +kernel
              case hw => rfl
              case hy => (intro w hS; (try dsimp only at hS); go_simp; try with_reducible rfl)
              (try simp only [Act.put]); (repeat (first | simp only [List.setIfInBounds_toArray] | simp only [List.set_cons_zero] | simp only [List.set_cons_succ]))
              refine tkYH (v := ?_) 5 hO hH rfl (fun _ _ _ h => h) ?hc ?hw ?hy ?_
              case hc => decide +kernel
              case hw => rfl
              case hy => (intro w hS; (try dsimp only at hS); go_simp; try with_reducible rfl)
              (try simp only [Act.put]); (repeat (first | simp only [List.setIfInBounds_toArray] | simp only [List.set_cons_zero] | simp only [List.set_cons_succ]))
              refine tkYH (v := ?_) 6 hO hH rfl (fun _ _ _ h => h) ?hc ?hw ?hy ?_
              case hc => decide +kernel
              case hw => rfl
              case hy => (intro w hS; (try dsimp only at hS); go_simp; try with_reducible rfl)
              (try simp only [Act.put]); (repeat (first | simp only [List.setIfInBounds_toArray] | simp only [List.set_cons_zero] | simp only [List.set_cons_succ]))
              refine tkYH (v := ?_) 7 hO hH rfl (fun _ _ _ h => h) ?hc ?hw ?hy ?_
              case hc => decide +kernel
              case hw => rfl
              case hy => (intro w hS; (try dsimp only at hS); go_simp; try with_reducible rfl)
              (try simp only [Act.put]); (repeat (first | simp only [List.setIfInBounds_toArray] | simp only [List.set_cons_zero] | simp only [List.set_cons_succ]))
              refine tkYH (v := ?_) 8 hO hH rfl (fun _ _ _ h => h) ?hc ?hw ?hy ?_
              case hc => decide +kernel
              case hw => rfl
              case hy => (intro w hS; (try dsimp only at hS); go_simp; try with_reducible rfl)
              (try simp only [Act.put]); (repeat (first | simp only [List.setIfInBounds_toArray] | simp only [List.set_cons_zero] | simp only [List.set_cons_succ]))
              refine tkYH (v := ?_) 9 hO hH rfl (fun _ _ _ h => h) ?hc ?hw ?hy ?_
              case hc => decide +kernel
              case hw => rfl
              case hy => (intro w hS; (try dsimp only at hS); go_simp; try with_reducible rfl)
              (try simp only [Act.put]); (repeat (first | simp only [List.setIfInBounds_toArray] | simp only [List.set_cons_zero] | simp only [List.set_cons_succ]))
              refine tkYH (v := ?_) 10 hO hH rfl (fun _ _ _ h => h) ?hc ?hw ?hy ?_
              case hc => decide +kernel
              case hw => rfl
              case hy => (intro w hS; (try dsimp only at hS); go_simp; try with_reducible rfl)
              (try simp only [Act.put]); (repeat (first | simp only [List.setIfInBounds_toArray] | simp only [List.set_cons_zero] | simp only [List.set_cons_succ]))
              refine tkYH (v := ?_) 11 hO hH rfl (fun _ _ _ h => h) ?hc ?hw ?hy ?_
              case hc => decide +kernel
              case hw => rfl
              case hy => (intro w hS; (try dsimp only at hS); go_simp; try with_reducible rfl)
              (try simp only [Act.put]); (repeat (first | simp only [List.setIfInBounds_toArray] | simp only [List.set_cons_zero] | simp only [List.set_cons_succ]))
              refine spkH 12 hO rfl ?hr ?hw (fun K' hK => ?_)
              case hr => decide +kernel
              case hw => rfl
              go_simp
              with_reducible refine hh3.out.mono ?_
              rintro e w9 ⟨v9, rs9, G9, F9, R9, rfl, ho9, hs9, hm9, hlt9, -, hG9, hmd9, hF9, -⟩
              have S9 := Lib.hid (show w9.cell? ⟨b, 7, none⟩ = some (.int .u64 1) ∧ w9.cell? ⟨w3.heap.size, pn, none⟩ = some (.slice tq tl tc) from ⟨(World.cell?_of_block (hmd9.block b lbr NB)).trans b17, (World.cell?_of_block (hmd9.block _ l3r N3)).trans a17⟩)
              have M9 := Lib.hid (And.intro ho9 (And.intro hs9 (And.intro hm9 (And.intro hlt9 (And.intro hG9 (And.intro hmd9 hF9))))))
              clear ho9 hs9 hm9 hlt9 hG9 hmd9 hF9
              try dsimp only
              refine hK.out _ _ ?hS (fun hH' => ?_)
              case hS =>
                exact S9.out
              clear hK K' hH; have hH := hH'; clear hH'; (try simp only [Act.put]); (repeat (first | simp only [List.setIfInBounds_toArray] | simp only [List.set_cons_zero] | simp only [List.set_cons_succ]))
              refine tkYH (v := ?_) 13 hO hH rfl (fun _ _ _ h => h) ?hc ?hw ?hy ?_
              case hc => decide +kernel
              case hw => rfl
              case hy => (intro w hS; (try dsimp only at hS); go_simp; try with_reducible rfl)
              (try simp only [Act.put]); (repeat (first | simp only [List.setIfInBounds_toArray] | simp only [List.set_cons_zero] | simp only [List.set_cons_succ]))
              refine doneH hO (by decide +kernel) ?_
              clear hO
              clear hH
              have Mz := Lib.hid (show Mod F3 wz w9 from (MF.out.2.1.andBelow B1r.out).trans M9.out.2.2.2.2.2.1 (fun j hj hf => (MF.out.1 j hf).elim id (fun h => absurd hj (by omega))))
              have NX := Lib.hid (show HState w.heap.size c F3 wz (gMK n (toldM ls n) ts (k + 1)) w9 from ⟨F9, R9, M9.out.2.2.2.2.1, fun j hj => (M9.out.2.2.2.2.2.2 j hj).elim (MF.out.1 j) (fun h => .inr (by have := B1r.out.size; omega)), Mz.out⟩)
              obtain ⟨q9, m9, c9, rfl⟩ := own_form M9.out.1
              obtain rfl : m9 = rs9.length := own_len M9.out.1
              by_cases h2 : k < 2
              · obtain rfl : rs9 = [] := says_nil (by rw [M9.out.2.1, MZ.out, if_pos h2])
                have d1 : decide ((k : Int) < 2) = true := decide_eq_true (by omega)
                have d2 : (k : Int) < 2 := by omega
                have d3 : ¬ (k : Int) = 2 := by omega
                have d4 : decide ((k : Int) = 2) = false := decide_eq_false d3
                have d5 : ¬ k = 2 := by omega
                clear S9
                go_wp2_with fail
                go_roundg (3 - (k + 1))
                case measure => omega
                case rel => exact ⟨k + 1, rfl, by omega, by go_num, NX.out⟩
              · obtain ⟨f1, f2, f3, f4, rs10, rfl, hs10⟩ := says_cons (show rs9.map Mv.says = (4, resN 1 1 0 (mergeZ n [toldM ls n 0, toldM ls n 1, toldM ls n 2])) :: [] by rw [M9.out.2.1, MZ.out, if_neg h2])
                obtain rfl := says_nil hs10
                obtain ⟨b9, rfl, -, -, -, hc9⟩ := mails_at M9.out.1 (by simp)
                have hm9' : HitsF w9 G9 f4 ((allZ (allM ls 3)).take n) := by
                  have := (M9.out.2.2.1 _ (List.mem_singleton.2 rfl)).read.hits
                  rwa [show (resN 1 1 0 (mergeZ n [toldM ls n 0, toldM ls n 1, toldM ls n 2])).hits = (allZ (allM ls 3)).take n from merge_all hn1.1 ls] at this
                obtain ⟨hp9, hc9', rfl, -⟩ := id hm9'
                have d16 : w9.cell? ⟨b9, 16, none⟩ = some (.slice hp9 ((allZ (allM ls 3)).take n).length hc9') := hc9 0 16 _ (by simp) rfl
                have WW : HitsF w9 (Plus (fun k => G0 k ∨ (Value.slice qa rs0.length ca).ownBlock = some k) wt w6) (.slice q6 mm c6) ((allZ (allM ls 3)).take n) := WANT.out.agree (fun j hj => by
                  have hj2 : w3.heap.size ≤ j ∧ j < w6.heap.size := by
                    rcases hj with hj | hj
                    · have := HH0.out j hj; omega
                    · have h1 := hj.1; have h2 := hj.2; omega
                  rw [Mz.out.block j (by omega) (fun hf => by have := (G3.out.low j hf).2; omega), B6z.out.block j hj2.2])
                have SH := Lib.hid (sameHits_selfM _ _ _ _ _ w9 hm9' WW)
                obtain ⟨sl, hsl⟩ : ∃ sl, sl = ((allZ (allM ls 3)).take n).length := ⟨_, rfl⟩
                rw [← hsl] at SH d16
                have d1 : decide ((k : Int) < 2) = false := decide_eq_false (by omega)
                have d2 : ¬ (k : Int) < 2 := by omega
                have d3 : (k : Int) = 2 := by omega
                have d4 : decide ((k : Int) = 2) = true := decide_eq_true d3
                have d5 : k = 2 := by omega
                clear S9 hs10 hc9 hm9' hsl WW
                go_wp2_with fail
                with_reducible refine SH.out.mono ?_
                rintro e w11 ⟨rfl, hd⟩
                have NY := Lib.hid (NX.out.below hd.below)
                clear hd
                go_wp2_with fail
                go_roundg (3 - (k + 1))
                case measure => omega
                case rel => exact ⟨k + 1, rfl, by omega, by go_num, NY.out⟩
            · obtain rfl : k = 3 := by omega
              obtain ⟨F, R, -, -, hm⟩ := hH
              have BF := Lib.hid (show Below w.heap.size w wr from (B3.out.trans (B3z.out.mono B3.out.size)).trans (hm.below (Nat.le_trans B3.out.size B3z.out.size) (fun j hj => (G3.out.low j hj).1)))
              clear hm
              go_wp2_with fail
              go_ret
              exact ⟨rfl, BF.out⟩

end Go.Proofs.YtfmlhdikagogcaaDoor

namespace Go.Proofs.YtfmlhdikagogcaaDoor
open Go.ChangeShapes Go.WideShapes Go.ChangeAt Go.RowKit Go.Deep
set_option maxRecDepth 20000

section
variable {H : Type} {enc : TypeId × Value → H} {W : World}

theorem cells_one {a : Addr} {cs : List Value} (h : W.cells? 0 a 1 = some cs) : ∃ c0, cs = [c0] ∧ W.cell? (a.add 0) = some c0 := by
  unfold World.cells? at h
  simp only [Nat.zero_le, if_true, List.range_succ, List.range_zero, List.nil_append, List.mapM_cons, List.mapM_nil] at h
  cases h0 : W.cell? (a.add 0) with
  | none => rw [h0] at h; simp at h
  | some c0 =>
    rw [h0] at h
    simp at h
    exact ⟨c0, h.symm, rfl⟩

/-- an argument that is a slice of slices of hits -/
theorem open_lists {base : Nat} {v : Value} {d : DataW H} {ps : List MemPlace}
    (hok : Value.okWide Tryd.prog W .any base 22 v) (h : DataW.Trod enc Tryd.prog W 0 (fun _ => true) true 22 v d ps) :
    ∃ ls, ListsF W (fun _ => True) v ls ∧ ∀ ms ∈ ls, ∀ r ∈ ms, r.Fits := by
  obtain ⟨a0, len0, cap0, rfl⟩ := okWide_slice Tryd.underlying22 hok
  obtain ⟨fuel, hf⟩ := h
  have hce : Tryd.prog.cellsOf 35 = 1 := by kernel_rfl
  rcases open_slice Tryd.underlying22 hf with ⟨hcs, _⟩ | ⟨a, len, cap, m, n, D, Pl, hcs, _, hl, hm, hmm, _, hel⟩
  · simp [Value.cells] at hcs
    obtain ⟨rfl, rfl, rfl⟩ := hcs
    exact ⟨[], ⟨none, 0, rfl, by simp, by simp, by simp, fun i hi => absurd hi (by simp)⟩, by simp⟩
  · simp only [if_true] at hmm
    subst hmm
    rw [hce] at hel
    have each : ∀ i, i < len → ∃ l : List Hz, ∃ u, W.cell? (a.add (i * 1)) = some u ∧ HitsF W (fun _ => True) u l ∧ ∀ r ∈ l, r.Fits := by
      intro i hi
      obtain ⟨cs', hcs', htr⟩ := hel i (by omega)
      obtain ⟨c0, rfl, g0⟩ := cells_one hcs'
      obtain ⟨v, l, hc, hr⟩ := hits_of_trod Tryd.underlying35 Tryd.underlying40 (by kernel_rfl) ⟨rfl, rfl⟩ Tryd.underlying29 (by kernel_rfl) ⟨rfl, rfl⟩ Tryd.underlying29 (by kernel_rfl) ⟨rfl, rfl⟩ Tryd.underlying32 (by kernel_rfl) Tryd.underlying21 (by kernel_rfl) htr
      simp at hc
      subst hc
      rw [add_add] at g0
      exact ⟨l, _, by simpa using g0, hr.1, hr.2⟩
    obtain ⟨ls, hll, hp⟩ := exists_list len each
    simp [Value.cells] at hcs
    obtain ⟨rfl, rfl, rfl⟩ := hcs
    refine ⟨ls, ⟨some a, cap0, by rw [hll], by omega, by simpa [maxLen] using hm, by simp, fun i hi => ?_⟩, fun ms hms => ?_⟩
    · obtain ⟨u, g0, hr, _⟩ := hp i hi
      have h00 := (hp 0 (by omega)).choose_spec.1
      obtain ⟨b, off, spot⟩ := a
      obtain rfl : spot = none := by
        simpa [Addr.add] using World.cell?_spot h00
      rw [Addr.add_lit, Nat.mul_one] at g0
      exact ⟨b, off, u, rfl, trivial, g0, hr⟩
    · obtain ⟨i, hi, rfl⟩ := List.mem_iff_getElem.1 hms
      exact (hp i hi).choose_spec.2.2

end

end Go.Proofs.YtfmlhdikagogcaaDoor
