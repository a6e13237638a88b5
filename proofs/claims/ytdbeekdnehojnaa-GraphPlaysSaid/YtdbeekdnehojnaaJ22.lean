/-
  slices.Sorted(maps.Keys(m)) at uint64, of a nil map.
  graph: Near, Keys.
  graph: Keys.
-/
import Derived.Test.YtdbeekdnehojnaaJ21
import Derived.Test.YtdbeekdnehojnaaJ08
namespace Go.Proofs.Ytdbeekdnehojnaa
open Go.RowKit Go.Maps Go.Sort Go.ChangeMaps

set_option maxRecDepth 100000 in
set_option maxHeartbeats 1000000 in
theorem keysA1_nil (F : Fence) (n : Nat) (h10 : F.fn 43) (hro : F.round = none) (l Bm : Nat) (J : List Int → World → Prop) (W : World) (hJ : AbidesFrom W.heap.size J)
    (hm : W.cell? ⟨Bm, 0, none⟩ = some (.map none)) (h0 : J [] W) :
    CallsIn F n Try.prog 43 #[.func (.yield l) #[] #[], .pointer (some ⟨Bm, 0, none⟩)] W fun e W' => (∃ v, e = .returned v) ∧ ∃ ss : List Int, ss = [] ∧ J ss W' := by
  refine callsIn_of_wp Try.func43 rfl h10 ?_ hro
  simp only [Try.ntmps43, List.size_toArray, List.length_cons, List.length_nil, Nat.reduceAdd, Nat.reduceSub, Array.replicate_succ, Array.replicate_zero, List.push_toArray, List.append_toArray, List.nil_append, List.cons_append]
  have hrg := run_range_nilMap (P := Try.prog) W 45 31 4 Try.underlying45
  have hnx : ∀ ty, (Instr.next (.pointer (some ⟨W.heap.size, 0, none⟩)) false ty).run Try.prog (W.alloc (.mapIter none 0 #[] 0)) = _ := fun ty => run_next_nilMap _ ty 0 0 #[]
  gi_wp2
  refine wpIn_loop_rounds 1 ?_
  rw [roundsIn_succ]
  gi_wp2
  go_end0
  exact ⟨⟨_, rfl⟩, [], rfl, hJ [] W _ none h0 (World.grownBy_alloc W _ none) (fun r e => by cases e)⟩

theorem keysA_gives_nil (F : Fence) (n : Nat) (h10 : F.fn 43) (hro : F.round = none) (Bm : Nat) (w : World) (hBm : Bm < w.heap.size) (hm : w.cell? ⟨Bm, 0, none⟩ = some (.map none)) :
    SeqGives F n Try.prog 43 #[.pointer (some ⟨Bm, 0, none⟩)] encU (fun ss : List Int => ss = []) 0 w := fun l J W hW hJ _ h0 =>
  keysA1_nil F n h10 hro l Bm J W hJ ((hW.cell (p := ⟨Bm, 0, none⟩) hBm).trans hm) h0

theorem sortedKeysA_nil (Bm : Nat) (w : World) (hBm : Bm < w.heap.size) (hm : w.cell? ⟨Bm, 0, none⟩ = some (.map none)) :
    Calls Try.prog 34 #[.func (.func 43) #[] #[.pointer (some ⟨Bm, 0, none⟩)]] w fun e w' => e = .returned (.slice none 0 0) ∧ Below w.heap.size w w' := by
  refine (callsIn_wide (n := 5)).1 ?_
  refine (sorted_in Fence.wide 5 trivial trivial trivial trivial rfl (by omega) (sortsU _) (enters_of Try.func42 (by kernel_rfl) rfl) 43 #[.pointer (some ⟨Bm, 0, none⟩)] trivial (enters_of Try.func43 (by kernel_rfl) rfl) _ 0 (Nat.zero_le _) (by omega) w (keysA_gives_nil Fence.wide _ trivial rfl Bm w hBm hm)).mono ?_
  rintro e w' ⟨v, ss, rfl, rfl, -, hn, hb⟩
  exact ⟨by rw [hn.2 rfl], hb⟩

end Go.Proofs.Ytdbeekdnehojnaa

namespace Go.Proofs.Ytdbeekdnehojnaa
open Go.RowKit Go.ChangeMaps

/-- rising -/
def sortZ (l : List Int) : List Int := l.mergeSort fun x y => decide (x ≤ y)

/-- a list of numbers of the call's own -/
def NewNums (w : World) (l : List Int) (e : Ending) (w' : World) : Prop :=
  ∃ v : Value, e = .returned v ∧ w'.ownsRow w.heap.size 31 1 v l.length (l.map (Value.int .u64)) ∧ Below w.heap.size w w'

def nearZ (Q : Gr) (k : Int) : List Int := ((Q.find? fun q => decide (q.1 = k)).map fun q => sortZ (q.2.2.map (·.1))).getD []

set_option maxRecDepth 100000 in
set_option maxHeartbeats 4000000 in
theorem gNear (w : World) (p m : Nat) (Q : Gr) (k : Int) (h : GrAt w p m Q) (hQ : ∀ q ∈ Q, q.2.2.length ≤ 1000000) :
    Calls Try.prog 21 #[.pointer (some ⟨p, 0, none⟩), .int .u64 k] w (NewNums w (nearZ Q k)) := by
  have hc := h.get
  cases hb : hasB Q k with
  | true =>
    obtain ⟨q, hq, rfl, hf, -⟩ := getK_outer_some hb
    have hl := h.look hq
    have cK := keysA (some q.2.1) w
    have hi := h.inner q hq
    have hi' : MapAt (w.alloc (.cells #[.map (some q.2.1)] 45)) (Value.int .u64) q.2.1 (innerL q.2.2) := hi.kept (heap_alloc_old _ _ hi.lt)
    have cS := sortedKeysA w.heap.size q.2.1 (innerL q.2.2) (w.alloc (.cells #[.map (some q.2.1)] 45)) (by simp) (by simp) hi' (by simpa [innerL] using hQ q hq)
    have hz : nearZ Q q.1 = sortZ (q.2.2.map (·.1)) := by unfold nearZ; rw [hf]; rfl
    have hn : (innerL q.2.2).map (·.1) = q.2.2.map (·.1) := by simp [innerL, Function.comp_def]
    rw [hz]
    rw [hn] at cS
    have hlen : (innerL q.2.2).length = (sortZ (q.2.2.map (·.1))).length := by simp [innerL, sortZ]
    rw [hlen] at cS
    clear h hi hi' hz hn hlen
    go_enter Try.func21, Try.ntmps21
    go_wp2_with (first
      | (go_at_call 35; refine cK.mono ?_; rintro e w' ⟨rfl, rfl⟩)
      | (go_at_call 34; refine cS.mono ?_; rintro e w2 ⟨v, rfl, hr, hbl⟩; have HR := Lib.hid hr; have HB := Lib.hid hbl; clear hr hbl))
    go_ret
    exact ⟨v, rfl, own_mono HR.out (by simp), ((Below.refl _ w).alloc (Nat.le_refl _) _).trans (HB.out.mono (by simp))⟩
  | false =>
    have hl := run_look KO64 Try.underlying55 h.outer (zeroM w) k false
    rw [getK_outer_none hb] at hl
    simp only [Option.getD_none, Bool.false_eq_true, if_false] at hl
    have cK := keysA none w
    have cS := sortedKeysA_nil w.heap.size (w.alloc (.cells #[.map none] 45)) (by simp) (by simp)
    have hz : nearZ Q k = [] := by
      unfold nearZ
      rw [List.find?_eq_none.2]
      · rfl
      · intro q hq
        simp only [hasB, List.any_eq_false] at hb
        exact hb q hq
    rw [hz]
    clear h
    go_enter Try.func21, Try.ntmps21
    go_wp2_with (first
      | (go_at_call 35; refine cK.mono ?_; rintro e w' ⟨rfl, rfl⟩)
      | (go_at_call 34; refine cS.mono ?_; rintro e w2 ⟨rfl, hbl⟩; have HB := Lib.hid hbl; clear hbl))
    go_ret
    exact ⟨.slice none 0 0, rfl, ⟨rfl, .inl ⟨rfl, rfl⟩⟩, ((Below.refl _ w).alloc (Nat.le_refl _) _).trans (HB.out.mono (by simp))⟩

end Go.Proofs.Ytdbeekdnehojnaa

namespace Go.Proofs.Ytdbeekdnehojnaa
open Go.RowKit Go.ChangeMaps

set_option maxRecDepth 100000 in
set_option maxHeartbeats 4000000 in
theorem gKeys (w : World) (p m : Nat) (Q : Gr) (h : GrAt w p m Q) (hQ : Q.length ≤ 1000000) :
    Calls Try.prog 17 #[.pointer (some ⟨p, 0, none⟩)] w (NewNums w (sortZ (Q.map (·.1)))) := by
  have hc := h.get
  have cK := keysB (some m) w
  have hi := h.outer
  have hi' : MapAt (w.alloc (.cells #[.map (some m)] 55)) (Value.int .u64) m (outerL Q) := hi.kept (heap_alloc_old _ _ hi.lt)
  have cS := sortedKeysB w.heap.size m (outerL Q) (w.alloc (.cells #[.map (some m)] 55)) (by simp) (by simp) hi' (by simpa [outerL] using hQ)
  have hn : (outerL Q).map (·.1) = Q.map (·.1) := by simp [outerL, Function.comp_def]
  rw [hn] at cS
  have hlen : (outerL Q).length = (sortZ (Q.map (·.1))).length := by simp [outerL, sortZ]
  rw [hlen] at cS
  clear h hi hi' hn hlen
  go_enter Try.func17, Try.ntmps17
  go_wp2_with (first
    | (go_at_call 37; refine cK.mono ?_; rintro e w' ⟨rfl, rfl⟩)
    | (go_at_call 34; refine cS.mono ?_; rintro e w2 ⟨v, rfl, hr, hbl⟩; have HR := Lib.hid hr; have HB := Lib.hid hbl; clear hr hbl))
  go_ret
  exact ⟨v, rfl, own_mono HR.out (by simp), ((Below.refl _ w).alloc (Nat.le_refl _) _).trans (HB.out.mono (by simp))⟩

end Go.Proofs.Ytdbeekdnehojnaa
