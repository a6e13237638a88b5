/-
  graph: Soft.
  graph's document: how it lies; is a number in a list.
-/
import Derived.Test.YtdbeekdnehojnaaJ24
import Derived.Test.YtdbeekdnehojnaaJ20
import Derived.Test.YtdbeekdnehojnaaJ23
import Derived.Test.YtdbeekdnehojnaaJ04
namespace Go.Proofs.Ytdbeekdnehojnaa
open Go.RowKit Go.ChangeMaps Go.Shelf Go.Sort Go.Lib

def softZ (Q : Gr) (k : Int) : List Int := ((Q.find? fun q => decide (q.1 = k)).map fun q => (sortZ (q.2.2.map (·.1))).filter fun x => !needB q.2.2 x).getD []

theorem softZ_eq {Q : Gr} {k : Int} {q : Int × Nat × List (Int × Bool)} (hf : Q.find? (fun q => decide (q.1 = k)) = some q) : softZ Q k = (nearZ Q k).filter fun x => !needB q.2.2 x := by
  unfold softZ nearZ
  rw [hf]; rfl

theorem softZ_none {Q : Gr} {k : Int} (hb : hasB Q k = false) : softZ Q k = [] ∧ nearZ Q k = [] := by
  unfold softZ nearZ
  rw [List.find?_eq_none.2]
  · exact ⟨rfl, rfl⟩
  · intro q hq
    simp only [hasB, List.any_eq_false] at hb
    exact hb q hq

/-- DeleteFunc on a row of the call's own, by the closure of Soft -/
theorem del_own (w0 w : World) (Bg Bk p m : Nat) (Q : Gr) (q : Int × Nat × List (Int × Bool)) (hq : q ∈ Q) (v : Value) (l : List Int) (hG : GrAt w0 p m Q) (h1 : w0.cell? ⟨Bg, 0, none⟩ = some (.pointer (some ⟨p, 0, none⟩))) (h2 : w0.cell? ⟨Bk, 0, none⟩ = some (.int .u64 q.1))
    (hv : w.ownsRow w0.heap.size 31 1 v l.length (l.map (Value.int .u64))) (hb : Below w0.heap.size w0 w) (hl : l.length ≤ 1000000) :
    Calls Try.prog 38 #[v, .func (.func 39) #[] #[.pointer (some ⟨Bg, 0, none⟩), .pointer (some ⟨Bk, 0, none⟩)]] w fun e w' =>
      ∃ u, e = .returned u ∧ w'.ownsRow w0.heap.size 31 1 u (l.filter fun x => !needB q.2.2 x).length ((l.filter fun x => !needB q.2.2 x).map (Value.int .u64)) ∧ Below w0.heap.size w0 w' := by
  by_cases hn : v = .slice none 0 0
  · subst hn
    have hl0 : l = [] := by
      have := hv.2
      rcases this with ⟨-, h0⟩ | ⟨g, cap, cur, he, -⟩
      · exact List.eq_nil_of_length_eq_zero h0
      · cases he
    subst hl0
    refine (del_nil w _ _).mono ?_
    rintro e w' ⟨rfl, rfl⟩
    exact ⟨_, rfl, hv, hb⟩
  · obtain ⟨g, cap, rfl, hg, hgl, hcap, hmax, -, hH⟩ := holds_of_ownsRow (enc := Value.int .u64) hv hn
    have hGp : ∀ W, Below w0.heap.size w0 W → ∀ x, SoftS Bg Bk p m q x W := fun W hW x =>
      SoftS.of (hG.kept fun k hk => hW.block k hk) hq (below_cells hW h1) (below_cells hW h2) x
    have eg : ∀ args w, (callFunc 39 args).run Try.prog w = .ok (.enter 39 args) w := enters_of Try.func39 (by kernel_rfl) rfl
    have hp : PredAt Try.prog 39 #[.pointer (some ⟨Bg, 0, none⟩), .pointer (some ⟨Bk, 0, none⟩)] (Value.int .u64) (fun x => needB q.2.2 x) w := fun W x hW =>
      soft1 Bg Bk p m q x W (hGp _ ((hb.trans (hW.mono hb.size)).drew) x)
    have hpo : PredOver Try.prog 39 #[.pointer (some ⟨Bg, 0, none⟩), .pointer (some ⟨Bk, 0, none⟩)] (Value.int .u64) (fun x => needB q.2.2 x) g 0 l.toArray.size w := fun n os dk x _ =>
      soft1 Bg Bk p m q x _ (hGp _ (Below.drew (hb.grown (grownBy_sortedU (n := n) (os := os) dk) hb.size (fun b e => by cases e; exact hg))) x)
    have hc := AnyE.slices_DeleteFunc layDel (Value.int .u64) (fun _ => rfl) (fun x => needB q.2.2 x) 39 #[.pointer (some ⟨Bg, 0, none⟩), .pointer (some ⟨Bk, 0, none⟩)] eg 0 Try.zeroValue31 g 0 cap l.toArray w hp hpo hH (by simp; omega) (by simpa using hcap)
    change Calls Try.prog 38 _ _ _ at hc
    simp only [List.size_toArray] at hc
    refine hc.mono ?_
    rintro e w' ⟨rfl, n, rfl⟩
    have hle : (l.filter fun x => !needB q.2.2 x).length ≤ l.length := List.length_filter_le _ _
    have := ownsRow_putRow (q := n) (k := (l.filter fun x => !needB q.2.2 x).length) (ys := (l.filter fun x => !needB q.2.2 x) ++ List.replicate (l.length - (l.filter fun x => !needB q.2.2 x).length) 0) hv (by simp; omega) hle
    rw [List.take_left'  rfl] at this
    exact ⟨_, rfl, this, below_putRow hb hg⟩

theorem near_none (w : World) (p m : Nat) (Q : Gr) (k : Int) (h : GrAt w p m Q) (hb : hasB Q k = false) :
    Calls Try.prog 21 #[.pointer (some ⟨p, 0, none⟩), .int .u64 k] w fun e w' => e = .returned (.slice none 0 0) ∧ Below w.heap.size w w' := by
  have hc := h.get
  have hl := run_look KO64 Try.underlying55 h.outer (zeroM w) k false
  rw [getK_outer_none hb] at hl
  simp only [Option.getD_none, Bool.false_eq_true, if_false] at hl
  have cK := keysA none w
  have cS := sortedKeysA_nil w.heap.size (w.alloc (.cells #[.map none] 45)) (by simp) (by simp)
  clear h
  go_enter Try.func21, Try.ntmps21
  go_wp2_with (first
    | (go_at_call 35; refine cK.mono ?_; rintro e w' ⟨rfl, rfl⟩)
    | (go_at_call 34; refine cS.mono ?_; rintro e w2 ⟨rfl, hbl⟩; have HB := Lib.hid hbl; clear hbl))
  go_ret
  exact ⟨rfl, ((Below.refl _ w).alloc (Nat.le_refl _) _).trans (HB.out.mono (by simp))⟩

set_option maxRecDepth 100000 in
set_option maxHeartbeats 4000000 in
theorem gSoft (w : World) (p m : Nat) (Q : Gr) (k : Int) (h : GrAt w p m Q) (hQ : ∀ q ∈ Q, q.2.2.length ≤ 1000000) :
    Calls Try.prog 22 #[.pointer (some ⟨p, 0, none⟩), .int .u64 k] w (NewNums w (softZ Q k)) := by
  obtain ⟨W1, hW1⟩ : ∃ W1, W1 = (w.alloc (.cells #[.pointer (some ⟨p, 0, none⟩)] 24)).alloc (.cells #[.int .u64 k] 31) := ⟨_, rfl⟩
  have hb1 : Below w.heap.size w W1 := by rw [hW1]; exact ((Below.refl _ w).alloc (Nat.le_refl _) _).alloc (by simp) _
  have hs1 : W1.heap.size = w.heap.size + 2 := by rw [hW1]; simp
  have hG1 : GrAt W1 p m Q := h.kept fun j hj => hb1.block j hj
  have c1 : W1.cell? ⟨w.heap.size, 0, none⟩ = some (.pointer (some ⟨p, 0, none⟩)) := by
    rw [hW1]
    simp
  have c2 : W1.cell? ⟨w.heap.size + 1, 0, none⟩ = some (.int .u64 k) := by
    rw [hW1]
    have := World.alloc_heap_new (w.alloc (.cells #[.pointer (some ⟨p, 0, none⟩)] 24)) (.cells #[.int .u64 k] 31)
    rw [World.size_alloc] at this
    rw [World.cell?, this]
    rfl
  have HW := Lib.hid hW1
  cases hbk : hasB Q k with
  | true =>
    obtain ⟨q, hq, rfl, hf, -⟩ := getK_outer_some hbk
    have hlen : (nearZ Q q.1).length ≤ 1000000 := by
      have := hQ q hq
      unfold nearZ
      rw [hf]
      simpa [sortZ] using this
    have cN := gNear W1 p m Q q.1 hG1 hQ
    have cD : ∀ (v : Value) (w2 : World), w2.ownsRow W1.heap.size 31 1 v (nearZ Q q.1).length ((nearZ Q q.1).map (Value.int .u64)) → Below W1.heap.size W1 w2 →
        Calls Try.prog 38 #[v, .func (.func 39) #[] #[.pointer (some ⟨w.heap.size, 0, none⟩), .pointer (some ⟨w.heap.size + 1, 0, none⟩)]] w2 fun e w' => NewNums w (softZ Q q.1) e w' := by
      intro v w2 hv hb
      refine (del_own W1 w2 w.heap.size (w.heap.size + 1) p m Q q hq v (nearZ Q q.1) hG1 c1 c2 hv hb hlen).mono ?_
      rintro e w' ⟨u, rfl, hu, hbu⟩
      rw [softZ_eq hf]
      exact ⟨u, rfl, own_mono hu (by omega), hb1.trans (hbu.mono (by omega))⟩
    clear hW1 hG1 c1 c2 h hb1 hs1 hlen hf
    go_enter Try.func22, Try.ntmps22
    go_wp2_with (first
      | (go_at_call 21; rw [← HW.out]; refine cN.mono ?_; rintro e w' ⟨v, rfl, hr, hbl⟩; have HD := cD v w' hr hbl; clear hr hbl)
      | (go_at_call 38; refine HD.mono ?_; rintro e w2 ⟨u, rfl, hr, hbl⟩; have HR := Lib.hid hr; have HB2 := Lib.hid hbl; clear hr hbl))
    go_ret
    exact ⟨u, rfl, HR.out, HB2.out⟩
  | false =>
    have cN := near_none W1 p m Q k hG1 hbk
    have cD : ∀ w2, _ := fun w2 => del_nil w2 #[.pointer (some ⟨w.heap.size, 0, none⟩), .pointer (some ⟨w.heap.size + 1, 0, none⟩)] 39
    rw [(softZ_none hbk).1]
    have HB := Lib.hid (And.intro hb1 hs1)
    clear hW1 hG1 c1 c2 h hb1 hs1
    go_enter Try.func22, Try.ntmps22
    go_wp2_with (first
      | (go_at_call 21; rw [← HW.out]; refine cN.mono ?_; rintro e w' ⟨rfl, hbl⟩; have HB2 := Lib.hid hbl; clear hbl)
      | (go_at_call 38; refine (cD _).mono ?_; rintro e w2 ⟨rfl, rfl⟩))
    go_ret
    exact ⟨.slice none 0 0, rfl, ⟨rfl, .inl ⟨rfl, rfl⟩⟩, HB.out.1.trans (HB2.out.mono (by have := HB.out.2; omega))⟩

end Go.Proofs.Ytdbeekdnehojnaa

namespace Go.Proofs.Ytdbeekdnehojnaa
open Go.RowKit

abbrev Eg := List (Int × Int × Bool)

/-- the cells of edges -/
def flatE : Eg → List Value
  | [] => []
  | e :: E => .int .u64 e.1 :: .int .u64 e.2.1 :: .bool e.2.2 :: flatE E

theorem flatE_length (E : Eg) : (flatE E).length = E.length * 3 := by
  induction E with
  | nil => rfl
  | cons e E ih => simp [flatE, ih]; omega

theorem flatE_append (E F : Eg) : flatE (E ++ F) = flatE E ++ flatE F := by
  induction E with
  | nil => rfl
  | cons e E ih => simp [flatE, ih]

theorem flatE_get (E : Eg) (i : Nat) (hi : i < E.length) : (flatE E)[i * 3]? = some (.int .u64 E[i].1) ∧ (flatE E)[i * 3 + 1]? = some (.int .u64 E[i].2.1) ∧ (flatE E)[i * 3 + 2]? = some (.bool E[i].2.2) := by
  induction E generalizing i with
  | nil => simp at hi
  | cons e E ih =>
    cases i with
    | zero => simp [flatE]
    | succ i =>
      have := ih i (by simpa using hi)
      have e1 : (i + 1) * 3 = i * 3 + 1 + 1 + 1 := by omega
      have e2 : (i + 1) * 3 + 1 = (i * 3 + 1) + 1 + 1 + 1 := by omega
      have e3 : (i + 1) * 3 + 2 = (i * 3 + 2) + 1 + 1 + 1 := by omega
      rw [e3, e2, e1]
      simpa [flatE, List.getElem?_cons_succ] using this

theorem flatE_one (E : Eg) : ∀ u ∈ flatE E, u.oneCell' = true := by
  induction E with
  | nil => intro u hu; cases hu
  | cons e E ih =>
    intro u hu
    simp only [flatE, List.mem_cons] at hu
    rcases hu with rfl | rfl | rfl | hu
    · rfl
    · rfl
    · rfl
    · exact ih u hu

/-- the document's graph: its nodes N, its edges E -/
structure DGr (w : World) (B c : Nat) (N : List Int) (E : Eg) (vn ve : Value) : Prop where
  cell : w.heap[c]? = some (.cells #[vn, ve] 30 (0, 0))
  nodes : w.ownsRow B 31 1 vn N.length (N.map (Value.int .u64))
  edges : w.ownsRow B 50 3 ve E.length (flatE E)
  low : B ≤ c

theorem DGr.lt {w : World} {B c : Nat} {N : List Int} {E : Eg} {vn ve : Value} (h : DGr w B c N E vn ve) : c < w.heap.size := lt_block h.cell

theorem DGr.get0 {w : World} {B c : Nat} {N : List Int} {E : Eg} {vn ve : Value} (h : DGr w B c N E vn ve) : w.cell? ⟨c, 0, none⟩ = some vn := by simp [World.cell?, h.cell]
theorem DGr.get1 {w : World} {B c : Nat} {N : List Int} {E : Eg} {vn ve : Value} (h : DGr w B c N E vn ve) : w.cell? ⟨c, 1, none⟩ = some ve := by simp [World.cell?, h.cell]

/-- block j holds cells of the type T -/
def OfType (w : World) (T : TypeId) (j : Nat) : Prop := ∃ cs fr, w.heap[j]? = some (.cells cs T fr)

theorem own_type {w : World} {B e s n : Nat} {v : Value} {xs : List Value} (h : w.ownsRow B e s v n xs) {b : Nat} (hb : v.ownBlock = some b) : OfType w e b := by
  rcases h.2 with ⟨hv, -⟩ | ⟨g, cap, cur, hv, -, hg, -⟩
  · rw [hv] at hb; cases hb
  · rw [hv] at hb
    obtain rfl : g = b := by simpa [Value.ownBlock] using hb
    exact ⟨_, _, hg⟩

theorem OfType.ne {w : World} {T U : TypeId} {j : Nat} (h : OfType w T j) (g : OfType w U j) : T = U := by
  obtain ⟨cs, fr, h⟩ := h
  obtain ⟨ds, gr, g⟩ := g
  rw [h] at g
  cases g; rfl

theorem DGr.kept {w w' : World} {B c : Nat} {N : List Int} {E : Eg} {vn ve : Value} (h : DGr w B c N E vn ve) {F : Nat → Prop} (hm : Mod F w w') (h1 : ∀ j, B ≤ j → OfType w 30 j → ¬ F j) (h2 : ∀ j, B ≤ j → OfType w 31 j → ¬ F j) (h3 : ∀ j, B ≤ j → OfType w 50 j → ¬ F j) : DGr w' B c N E vn ve := by
  have own : ∀ {e s n : Nat} {v : Value} {xs : List Value}, w.ownsRow B e s v n xs → (∀ j, B ≤ j → OfType w e j → ¬ F j) → w'.ownsRow B e s v n xs := by
    intro e s n v xs ho hF
    obtain ⟨q1, q2 | ⟨g, cap, cur, hv, hb, hg, r⟩⟩ := ho
    · exact ⟨q1, .inl q2⟩
    · exact ⟨q1, .inr ⟨g, cap, cur, hv, hb, (hm.block g (lt_block hg) (hF g hb ⟨_, _, hg⟩)).trans hg, r⟩⟩
  exact ⟨(hm.block c h.lt (h1 c h.low ⟨_, _, h.cell⟩)).trans h.cell, own h.nodes h2, own h.edges h3, h.low⟩

theorem DGr.below {w w' : World} {B c : Nat} {N : List Int} {E : Eg} {vn ve : Value} (h : DGr w B c N E vn ve) (hb : Below w.heap.size w w') : DGr w' B c N E vn ve :=
  h.kept (F := fun _ => False) (Mod.of_below hb) (fun _ _ _ => id) (fun _ _ _ => id) (fun _ _ _ => id)

set_option maxHeartbeats 2000000 in
theorem dIs (w : World) (v : Value) (l : List Int) (k : Int) (h : Nums w .u64 v l) :
    Calls Try.prog 32 #[v, .int .u64 k] w fun e w' => e = .returned (.bool (decide (k ∈ l))) ∧ w = w' := by
  obtain ⟨p, cap, rfl, hcap, hbig, -, hc⟩ := h.slice
  have hl : l.length ≤ 9223372036854775807 := by omega
  have HC := Lib.hid hc
  clear hcap hbig h hc
  go_enter Try.func32, Try.ntmps32
  go_wp2_with fail
  go_loopg [9] l.length (fun q i wr => ∃ j : Nat, q = l.length - j ∧ j ≤ l.length ∧ i = .int .i64 j ∧ (∀ x ∈ l.take j, x ≠ k) ∧ wr = w)
  case atStart => exact ⟨0, rfl, by omega, rfl, by simp, rfl⟩
  case round =>
    obtain ⟨j, rfl, hj, rfl, hall, rfl⟩ := hrel
    have HA := Lib.hid hall
    clear hall
    by_cases hlt : j < l.length
    · obtain ⟨b, off, rfl, hcell⟩ := HC.out j hlt
      by_cases hx : l[j] = k
      · go_wp2_with fail
        go_ret
        exact ⟨ret_bool (by rw [decide_eq_true]; rw [← hx]; exact List.getElem_mem hlt), rfl⟩
      · have HX := Lib.hid hx
        go_wp2_with fail
        go_roundg (l.length - (j + 1))
        case measure => omega
        case rel => exact ⟨j + 1, rfl, by omega, by go_num, fun x hh => by
          rw [List.take_add_one, List.getElem?_eq_getElem hlt] at hh
          rcases List.mem_append.1 hh with h1 | h1
          · exact HA.out x h1
          · simp at h1; rw [h1]; exact HX.out, rfl⟩
    · go_wp2_with fail
      go_ret
      exact ⟨ret_bool (by
        have := HA.out
        rw [List.take_of_length_le (by omega)] at this
        rw [decide_eq_false]
        exact fun hm => this k hm rfl), rfl⟩

set_option maxHeartbeats 2000000 in
theorem dHas (w : World) (B c : Nat) (N : List Int) (E : Eg) (vn ve : Value) (k : Int) (h : DGr w B c N E vn ve) :
    Calls Try.prog 26 #[.pointer (some ⟨c, 0, none⟩), .int .u64 k] w fun e w' => e = .returned (.bool (decide (k ∈ N))) ∧ w = w' := by
  have hN : Nums w .u64 vn N := Nums.of_own h.nodes
  have c0 := h.get0
  obtain ⟨p, cap, rfl, hcap, hbig, -, hc⟩ := hN.slice
  have hl : N.length ≤ 9223372036854775807 := by omega
  have HC := Lib.hid hc
  clear hcap hbig h hc hN
  go_enter Try.func26, Try.ntmps26
  go_wp2_with fail
  go_loopg [14] N.length (fun q i wr => ∃ j : Nat, q = N.length - j ∧ j ≤ N.length ∧ i = .int .i64 j ∧ (∀ x ∈ N.take j, x ≠ k) ∧ wr = w)
  case atStart => exact ⟨0, rfl, by omega, rfl, by simp, rfl⟩
  case round =>
    obtain ⟨j, rfl, hj, rfl, hall, rfl⟩ := hrel
    have HA := Lib.hid hall
    clear hall
    by_cases hlt : j < N.length
    · obtain ⟨b, off, rfl, hcell⟩ := HC.out j hlt
      by_cases hx : N[j] = k
      · go_wp2_with fail
        go_ret
        exact ⟨ret_bool (by rw [decide_eq_true]; rw [← hx]; exact List.getElem_mem hlt), rfl⟩
      · have HX := Lib.hid hx
        go_wp2_with fail
        go_roundg (N.length - (j + 1))
        case measure => omega
        case rel => exact ⟨j + 1, rfl, by omega, by go_num, fun x hh => by
          rw [List.take_add_one, List.getElem?_eq_getElem hlt] at hh
          rcases List.mem_append.1 hh with h1 | h1
          · exact HA.out x h1
          · simp at h1; rw [h1]; exact HX.out, rfl⟩
    · go_wp2_with fail
      go_ret
      exact ⟨ret_bool (by
        have := HA.out
        rw [List.take_of_length_le (by omega)] at this
        rw [decide_eq_false]
        exact fun hm => this k hm rfl), rfl⟩

theorem dHas_nil (w : World) (k : Int) :
    Calls Try.prog 26 #[.pointer none, .int .u64 k] w fun e w' => e = .returned (.bool false) ∧ w = w' := by
  go_enter Try.func26, Try.ntmps26
  go_wp2_with fail
  go_ret
  exact ⟨rfl, rfl⟩

end Go.Proofs.Ytdbeekdnehojnaa
