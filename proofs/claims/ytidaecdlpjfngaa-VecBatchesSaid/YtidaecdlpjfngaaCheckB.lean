import Derived.Test.YtidaecdlpjfngaaCheckA
import Derived.Test.YtidaecdlpjfngaaMapsB
namespace Go.Proofs.Ytidaecdlpjfngaa
open Go.RowKit

theorem check_arg (dim : Int) (l : List (Int × List Int)) (v : Value) (w : World) (_h : Recs w v l) (hd : dim < 1 ∨ 8 < dim) :
    Calls Try.prog 23 #[.int .i64 dim, v] w fun e w' => e = .returned (.int .i64 1) ∧ Below w.heap.size w w' := by
  clear _h
  by_cases h1 : dim < 1
  · clear hd
    go_enter Try.func23, Try.ntmps23
    go_wp2_with fail
    go_ret
    exact ⟨rfl, Below.refl _ _⟩
  · have h2 : 8 < dim := by omega
    clear hd
    go_enter Try.func23, Try.ntmps23
    go_wp2_with fail
    go_ret
    exact ⟨rfl, Below.refl _ _⟩

theorem check_len (dim : Int) (l : List (Int × List Int)) (v : Value) (w : World) (h : Recs w v l) (h1 : 1 ≤ dim) (h2 : dim ≤ 8) (hl : l.length = 0 ∨ 16 < l.length) :
    Calls Try.prog 23 #[.int .i64 dim, v] w fun e w' => e = .returned (.int .i64 (if l.length = 0 then 2 else 3)) ∧ Below w.heap.size w w' := by
  obtain ⟨p, cap, rfl, hcap, hbig, -, -⟩ := id h
  clear h
  by_cases h0 : l.length = 0
  · clear hl
    have L : ((l.length : Int) == 0) = true := by rw [beq_iff_eq]; omega
    rw [if_pos h0]
    clear h0
    go_enter Try.func23, Try.ntmps23
    go_wp2_with fail
    go_ret
    exact ⟨rfl, Below.refl _ _⟩
  · have L : 16 < (l.length : Int) := by omega
    have L0 : ((l.length : Int) == 0) = false := by rw [beq_eq_false_iff_ne]; omega
    rw [if_neg h0]
    clear hl h0
    go_enter Try.func23, Try.ntmps23
    go_wp2_with fail
    go_ret
    exact ⟨rfl, Below.refl _ _⟩

theorem zeroBool (w : World) : (zeroValue 4).run Try.prog w = .ok (.bool false) w := by kernel_rfl

/-- the IDs of the first k -/
def idsTo (l : List (Int × List Int)) (k : Nat) : List Int := (l.take k).map (·.1)

theorem idsTo_snoc (l : List (Int × List Int)) (k : Nat) (hk : k < l.length) : idsTo l (k + 1) = idsTo l k ++ [l[k].1] := by
  unfold idsTo
  rw [List.take_succ_eq_append_getElem hk, List.map_append]; rfl

/-- what 'seen' holds behind the first k -/
def SeenIs (L : List (Int × Value)) (ids : List Int) : Prop := ∀ x, getK L x = if x ∈ ids then some (.bool true) else none

theorem SeenIs.put {L : List (Int × Value)} {ids : List Int} (h : SeenIs L ids) (a : Int) : SeenIs (putK L a (.bool true)) (ids ++ [a]) := by
  intro x
  rw [getK_put, h x]
  by_cases hx : x = a
  · simp [hx]
  · simp [hx]

theorem nodup_snoc {ids : List Int} {a : Int} : (ids ++ [a]).Nodup ↔ ids.Nodup ∧ a ∉ ids := by
  rw [List.nodup_append]
  constructor
  · rintro ⟨h1, _, h3⟩
    exact ⟨h1, fun ha => h3 a ha a (by simp) rfl⟩
  · rintro ⟨h1, h2⟩
    refine ⟨h1, by simp, fun x hx y hy => ?_⟩
    simp only [List.mem_singleton] at hy
    subst hy
    rintro rfl
    exact h2 hx

set_option maxHeartbeats 1000000 in
theorem check_body (dim : Int) (l : List (Int × List Int)) (v : Value) (w : World) (h : Recs w v l) (h1 : 1 ≤ dim) (h2 : dim ≤ 8) (hl1 : 1 ≤ l.length) (hl2 : l.length ≤ 16) :
    Calls Try.prog 23 #[.int .i64 dim, v] w (AnsInt (bodyZ dim l) w) := by
  obtain ⟨p, cap, rfl, hcap, hbig, -, -⟩ := id h
  have H := Lib.hid h
  have e1 : decide (dim < 1) = false := by simp; omega
  have e2 : decide (8 < dim) = false := by simp; omega
  have e3 : ((l.length : Int) == 0) = false := by rw [beq_eq_false_iff_ne]; omega
  have e4 : decide (16 < (l.length : Int)) = false := by simp; omega
  have hmm := @run_makeMap Try.prog
  have KO : KeyOf Try.prog 25 (Value.int .u64) := int_keyOf Try.underlying25
  clear h
  go_enter Try.func23, Try.ntmps23
  go_wp2_with fail
  have M0 := Lib.hid (MapAt.made (mk := Value.int .u64) w)
  go_loopg [6, 27] l.length (fun q tw i wr => ∃ (k : Nat) (L : List (Int × Value)), q = l.length - k ∧ k ≤ l.length ∧ i = .int .i64 k ∧ tw = .bool (decide (¬ (idsTo l k).Nodup)) ∧ MapAt wr (Value.int .u64) w.heap.size L ∧ SeenIs L (idsTo l k) ∧
    (∀ j (hj : j < l.length), j < k → opBad dim l[j] = false) ∧ Below w.heap.size w wr)
  case atStart => exact ⟨0, [], rfl, by omega, rfl, by simp [idsTo], M0.out, fun x => by simp [idsTo, getK], by omega, (Below.refl _ _).alloc (Nat.le_refl _) _⟩
  case round =>
    obtain ⟨k, L, rfl, hk, rfl, rfl, hmap, hseen, hall, hb⟩ := hrel
    by_cases hlt : k < l.length
    · obtain ⟨b, off, u, rfl, c0, c1, hu⟩ := (H.out.below hb).elem hlt
      have hsz := hb.size
      obtain ⟨up, ucap, rfl, -, -, -, -⟩ := id hu.slice
      have U := Lib.hid (hu.below ((Below.refl wr.heap.size wr).alloc (Nat.le_refl _) (Obj.cells #[Value.int IntKind.u64 l[k].fst, Value.slice up l[k].snd.length ucap] 51)))
      have hmW : MapAt (wr.alloc (Obj.cells #[Value.int IntKind.u64 l[k].fst, Value.slice up l[k].snd.length ucap] 51)) (Value.int .u64) w.heap.size L := hmap.kept (heap_alloc_old _ _ hmap.lt)
      have hbW := hb.alloc hsz (Obj.cells #[Value.int IntKind.u64 l[k].fst, Value.slice up l[k].snd.length ucap] 51)
      have hlook := run_look KO Try.underlying59 hmW (zeroBool _) l[k].1 false
      rw [hseen l[k].1] at hlook
      simp only [Bool.false_eq_true, if_false] at hlook
      obtain ⟨w2, hput, hm2, hg2, -⟩ := run_put KO Try.underlying59 hmW l[k].1 (.bool true)
      have F := Lib.hid (show Below w.heap.size w (wr.alloc (Obj.cells #[Value.int IntKind.u64 l[k].fst, Value.slice up l[k].snd.length ucap] 51)) from hbW)
      have G := Lib.hid (show MapAt w2 (Value.int .u64) w.heap.size (putK L l[k].1 (.bool true)) ∧ SeenIs (putK L l[k].1 (.bool true)) (idsTo l (k + 1)) ∧ Below w.heap.size w w2 from
        ⟨hm2, by rw [idsTo_snoc l k hlt]; exact hseen.put _, hbW.grown hg2 (by simp; omega) (by rintro j ⟨⟩; exact Nat.le_refl _)⟩)
      have A := Lib.hid hall
      have hnd : (decide (¬ (idsTo l (k + 1)).Nodup)) = (decide (¬ (idsTo l k).Nodup) || decide (l[k].1 ∈ idsTo l k)) := by
        rw [idsTo_snoc l k hlt]
        rw [Bool.eq_iff_iff]
        simp only [decide_eq_true_eq, Bool.or_eq_true, nodup_snoc]
        by_cases hn : (idsTo l k).Nodup <;> simp [hn]
      have ND := Lib.hid hnd
      have hlv : (if l[k].1 ∈ idsTo l k then some (Value.bool true) else none).getD (.bool false) = .bool (decide (l[k].1 ∈ idsTo l k)) := by
        by_cases hi : l[k].1 ∈ idsTo l k <;> simp [hi]
      rw [hlv] at hlook
      clear hall hb hu hmap hseen hmW hbW hm2 hg2 hnd hlv
      generalize decide (¬ (idsTo l k).Nodup) = tw at *
      generalize decide (l[k].1 ∈ idsTo l k) = inn at *
      rcases opBad_cases dim l[k] with ⟨c, d1⟩ | ⟨c, d1, d2⟩ | ⟨c, d1, d2, d3⟩ | ⟨c, d1, d2, d3, d4⟩ | ⟨c, d1, d2, d3, d4⟩
      · have C := Lib.hid c
        clear c hlook hput
        go_wp2_with fail
        go_ret
        exact ⟨ret_int (bodyZ_bad hlt C.out).symm, F.out⟩
      · have C := Lib.hid c
        clear c
        cases tw
        all_goals
          go_wp2_with fail
          go_roundg (l.length - (k + 1))
          case measure => omega
          case rel => exact ⟨k + 1, _, rfl, by omega, by go_num, by rw [ND.out]; simp, G.out.1, G.out.2.1, fun j hj hjk => by
            by_cases e : j = k
            · subst e; exact C.out
            · exact A.out j hj (by omega), G.out.2.2⟩
      · have C := Lib.hid c
        clear c hlook hput
        have R := right l[k].2 _ _ U.out
        rw [d3] at R
        clear d3
        have RR := Lib.hid R
        clear R
        go_wp2_with (go_at_call 15; refine RR.out.mono ?_; rintro e w' ⟨rfl, rfl⟩)
        go_ret
        exact ⟨ret_int (bodyZ_bad hlt C.out).symm, F.out⟩
      · have C := Lib.hid c
        clear c hlook hput
        have R := right l[k].2 _ _ U.out
        rw [d3] at R
        clear d3
        have RR := Lib.hid R
        clear R
        go_wp2_with (go_at_call 15; refine RR.out.mono ?_; rintro e w' ⟨rfl, rfl⟩)
        go_ret
        exact ⟨ret_int (bodyZ_bad hlt C.out).symm, F.out⟩
      · have C := Lib.hid c
        clear c
        have R := right l[k].2 _ _ U.out
        rw [d3] at R
        clear d3
        have RR := Lib.hid R
        clear R
        cases tw
        all_goals
          go_wp2_with (go_at_call 15; refine RR.out.mono ?_; rintro e w' ⟨rfl, rfl⟩)
          go_roundg (l.length - (k + 1))
          case measure => omega
          case rel => exact ⟨k + 1, _, rfl, by omega, by go_num, by rw [ND.out]; simp, G.out.1, G.out.2.1, fun j hj hjk => by
            by_cases e : j = k
            · subst e; exact C.out
            · exact A.out j hj (by omega), G.out.2.2⟩
    · obtain rfl : k = l.length := by omega
      have F := Lib.hid (And.intro (fun j (hj : j < l.length) => hall j hj hj) hb)
      have e5 : idsTo l l.length = l.map (·.1) := by unfold idsTo; rw [List.take_length]
      rw [e5]
      clear hall hb hmap hseen e5
      by_cases hn : (l.map (·.1)).Nodup
      · have hd : decide (¬ (l.map (·.1)).Nodup) = false := by simp [hn]
        rw [hd]
        have N := Lib.hid hn
        clear hn hd
        go_wp2_with fail
        go_ret
        exact ⟨ret_int (by rw [bodyZ_fine F.out.1, if_pos N.out]), F.out.2⟩
      · have hd : decide (¬ (l.map (·.1)).Nodup) = true := by simp [hn]
        rw [hd]
        have N := Lib.hid hn
        clear hn hd
        go_wp2_with fail
        go_ret
        exact ⟨ret_int (by rw [bodyZ_fine F.out.1, if_neg N.out]), F.out.2⟩

end Go.Proofs.Ytidaecdlpjfngaa
