/-
  An argument that is a script of calls on a disk.
  disk: Read.
-/
import Derived.Test.YtdcgooleiefljaaJ17
import Derived.Test.YtdcgooleiefljaaJ05
import Derived.Test.YtdcgooleiefljaaJ02
import Derived.Deep.Strs
import Derived.Test.YtdcgooleiefljaaJ11
namespace Go.Proofs.Ytdcgooleiefljaa
open Go.ChangeShapes Go.WideShapes Go.ChangeAt Go.RowKit Go.Deep Go.ChangeMaps

/-- one call of a script -/
structure Od where
  act : Int
  name : List UInt8
  nto : List UInt8
  names : List (List UInt8)
  parts : List (List Int)
  n : Int
  keep : List Int

def Od.cells (o : Od) (vn vp vk : Value) : List Value := [.int .u8 o.act, strV o.name, strV o.nto, vn, vp, .int .i64 o.n, vk]

structure Od.Fits (o : Od) : Prop where
  act : 0 ≤ o.act ∧ o.act ≤ 255
  names : o.name.length ≤ 9223372036854775807 ∧ o.nto.length ≤ 9223372036854775807 ∧ ∀ x ∈ o.names, x.length ≤ 9223372036854775807
  parts : ∀ p ∈ o.parts, ∀ x ∈ p, 0 ≤ x ∧ x ≤ 255
  n : -9223372036854775808 ≤ o.n ∧ o.n ≤ 9223372036854775807
  keep : ∀ x ∈ o.keep, -9223372036854775808 ≤ x ∧ x ≤ 9223372036854775807

/-- slices of bytes -/
def PartsN (w : World) (v : Value) (ls : List (List Int)) : Prop :=
  ∃ vs, Reads w v 1 ls.length vs ∧ ∀ (i : Nat) u l, vs[i]? = some u → ls[i]? = some l → Nums w .u8 u l

structure OdV (w : World) (o : Od) (vn vp vk : Value) : Prop where
  names : Reads w vn 1 o.names.length (o.names.map strV)
  parts : PartsN w vp o.parts
  keep : Nums w .i64 vk o.keep

theorem PartsN.below {w w' : World} {v : Value} {ls : List (List Int)} (h : PartsN w v ls) (hb : Below w.heap.size w w') : PartsN w' v ls := by
  obtain ⟨vs, h1, h2⟩ := h
  exact ⟨vs, h1.below hb, fun i u l hu hl => (h2 i u l hu hl).below hb⟩

theorem OdV.below {w w' : World} {o : Od} {vn vp vk : Value} (h : OdV w o vn vp vk) (hb : Below w.heap.size w w') : OdV w' o vn vp vk := ⟨h.names.below hb, h.parts.below hb, h.keep.below hb⟩

/-- a slice of calls reads so -/
def ScriptD (w : World) (v : Value) (l : List Od) : Prop :=
  ∃ p cap, v = .slice p l.length cap ∧ l.length ≤ cap ∧ cap ≤ 9223372036854775807 ∧
    ∀ i (hi : i < l.length), ∃ b off vn vp vk, p = some ⟨b, off, none⟩ ∧ (∀ j u, (l[i].cells vn vp vk)[j]? = some u → w.cell? ⟨b, off + i * 7 + j, none⟩ = some u) ∧ OdV w l[i] vn vp vk

theorem ScriptD.below {w w' : World} {v : Value} {l : List Od} (h : ScriptD w v l) (hb : Below w.heap.size w w') : ScriptD w' v l := by
  obtain ⟨p, cap, hv, h1, h2, h4⟩ := h
  refine ⟨p, cap, hv, h1, h2, fun i hi => ?_⟩
  obtain ⟨b, off, vn, vp, vk, hp, hc, hn⟩ := h4 i hi
  exact ⟨b, off, vn, vp, vk, hp, fun j u hj => below_cells hb (hc j u hj), hn.below hb⟩

section
variable {H : Type} {enc : TypeId × Value → H} {W : World}

theorem cells_allD {a : Addr} {n : Nat} {cs : List Value} (h : W.cells? 0 a n = some cs) : cs.length = n ∧ ∀ j, j < n → W.cell? (a.add j) = cs[j]? := by
  unfold World.cells? at h
  simp only [Nat.zero_le, if_true] at h
  exact ⟨by simpa using mapM_some_length h, fun j hj => mapM_some_get h j j (by simp [hj])⟩

theorem cells_oneD {a : Addr} {cs : List Value} (h : W.cells? 0 a 1 = some cs) : ∃ c0, cs = [c0] ∧ W.cell? (a.add 0) = some c0 := by
  obtain ⟨h1, h2⟩ := cells_allD h
  match cs, h1 with
  | [c0], _ => exact ⟨c0, rfl, h2 0 (by omega)⟩

theorem list7 {cs : List Value} (h : cs.length = 7) : ∃ a0 a1 a2 a3 a4 a5 a6, cs = [a0, a1, a2, a3, a4, a5, a6] := by
  match cs, h with
  | [a0, a1, a2, a3, a4, a5, a6], _ => exact ⟨a0, a1, a2, a3, a4, a5, a6, rfl⟩

theorem str_strV (s : ByteArray) : Value.string s = strV s.data.toList := by
  unfold strV
  rw [Array.toArray_toList]

theorem size_big {s : ByteArray} (h : s.size ≤ maxLen) : s.data.toList.length ≤ 9223372036854775807 := by
  have hm : maxLen = 9223372036854775807 := rfl
  rw [Array.length_toList]
  rw [hm] at h
  exact h

/-- a slice of strings -/
theorem strs_of_trod {t e : TypeId} {fuel : Nat} {cs : List Value} {x : DataW H × List MemPlace} (ht : Try.prog.underlying t = some (.slice e)) (he : Try.prog.underlying e = some .string) (hc : Try.prog.cellsOf e = 1)
    (h : DataW.trod enc Try.prog W 0 (fun _ => true) true fuel t cs = some x) : ∃ (v : Value) (ls : List (List UInt8)), cs = [v] ∧ Reads W v 1 ls.length (ls.map strV) ∧ ∀ l ∈ ls, l.length ≤ 9223372036854775807 := by
  rcases open_strs ht he hc h with ⟨rfl, -⟩ | ⟨a, len, cap, m, Sx, rfl, -, hl, hm, hmm, -, hS⟩
  · exact ⟨_, [], rfl, ⟨rfl, none, 0, rfl, by simp, by simp, by simp, by simp⟩, by simp⟩
  · simp only [if_true] at hmm
    subst hmm
    obtain ⟨ls, hll, hp⟩ := exists_list len (p := fun i l => W.cell? (a.add i) = some (strV l) ∧ l.length ≤ 9223372036854775807) fun i hi => ⟨(Sx i).data.toList, by rw [(hS i (by omega)).1, str_strV], size_big (hS i (by omega)).2⟩
    refine ⟨_, ls, rfl, ⟨by simp, some a, m, by rw [hll], by omega, by simpa [maxLen] using hm, by simp, fun j u hj => ?_⟩, fun l hl => ?_⟩
    · rw [List.getElem?_map, Option.map_eq_some_iff] at hj
      obtain ⟨x, hx, rfl⟩ := hj
      obtain ⟨hj', rfl⟩ := List.getElem?_eq_some_iff.1 hx
      have h1 := (hp j hj').1
      obtain ⟨b, off, spot⟩ := a
      obtain rfl : spot = none := by
        have := (hp 0 (by omega)).1
        simpa [Addr.add] using World.cell?_spot this
      exact ⟨b, off, rfl, by rw [Addr.add_lit] at h1; exact h1⟩
    · obtain ⟨i, hi, rfl⟩ := List.mem_iff_getElem.1 hl
      exact (hp i hi).2

/-- a slice of slices of bytes -/
theorem parts_of_trod {t e e1 : TypeId} {fuel : Nat} {cs : List Value} {x : DataW H × List MemPlace} (ht : Try.prog.underlying t = some (.slice e)) (he : Try.prog.underlying e = some (.slice e1)) (hc : Try.prog.cellsOf e = 1) (he1 : Try.prog.underlying e1 = some (.int .u8)) (hc1 : Try.prog.cellsOf e1 = 1)
    (hf : DataW.trod enc Try.prog W 0 (fun _ => true) true fuel t cs = some x) : ∃ (v : Value) (ls : List (List Int)), cs = [v] ∧ PartsN W v ls ∧ ∀ l ∈ ls, ∀ y ∈ l, 0 ≤ y ∧ y ≤ 255 := by
  rcases open_slice ht hf with ⟨rfl, -⟩ | ⟨a, len, cap, m, n, D, Pl, rfl, -, hl, hm, hmm, -, hel⟩
  · exact ⟨_, [], rfl, ⟨[], ⟨rfl, none, 0, rfl, by simp, by simp, by simp, by simp⟩, by simp⟩, by simp⟩
  · simp only [if_true] at hmm
    subst hmm
    rw [hc] at hel
    have each : ∀ i, i < len → ∃ r : Value × List Int, W.cell? (a.add i) = some r.1 ∧ Nums W .u8 r.1 r.2 ∧ ∀ y ∈ r.2, 0 ≤ y ∧ y ≤ 255 := by
      intro i hi
      obtain ⟨cs', hcs', htr⟩ := hel i (by omega)
      obtain ⟨c0, rfl, g0⟩ := cells_oneD hcs'
      obtain ⟨v, xs, hv, hn, hw⟩ := nums_of_trod he he1 hc1 htr
      simp only [List.cons.injEq, and_true] at hv
      subst hv
      rw [add_add, Nat.mul_one, Nat.add_zero] at g0
      exact ⟨(c0, xs), g0, hn, fun y hy => by have := hw y hy; simp [Lit.wf, IntKind.min, IntKind.max, IntKind.signed, IntKind.bits] at this; exact this⟩
    obtain ⟨ls, hll, hp⟩ := exists_list len each
    refine ⟨_, ls.map (·.2), rfl, ⟨ls.map (·.1), ⟨by simp, some a, m, by simp [hll], by simp; omega, by simpa [maxLen] using hm, by simp, fun j u hj => ?_⟩, fun i u l hu hl' => ?_⟩, fun l hl' => ?_⟩
    · rw [List.getElem?_map, Option.map_eq_some_iff] at hj
      obtain ⟨x, hx, rfl⟩ := hj
      obtain ⟨hj', rfl⟩ := List.getElem?_eq_some_iff.1 hx
      have h1 := (hp j hj').1
      obtain ⟨b, off, spot⟩ := a
      obtain rfl : spot = none := by
        have := (hp 0 (by omega)).1
        simpa [Addr.add] using World.cell?_spot this
      exact ⟨b, off, rfl, by rw [Addr.add_lit] at h1; exact h1⟩
    · rw [List.getElem?_map, Option.map_eq_some_iff] at hu hl'
      obtain ⟨x, hx, rfl⟩ := hu
      obtain ⟨y, hy, rfl⟩ := hl'
      obtain rfl : x = y := by rw [hx] at hy; exact Option.some.inj hy
      obtain ⟨hj', rfl⟩ := List.getElem?_eq_some_iff.1 hx
      exact (hp i hj').2.1
    · obtain ⟨y, hy, rfl⟩ := List.mem_map.1 hl'
      obtain ⟨i, hi, rfl⟩ := List.mem_iff_getElem.1 hy
      exact (hp i hi).2.2

theorem od_of_trod {fuel : Nat} {cs : List Value} {x : DataW H × List MemPlace} (hf : DataW.trod enc Try.prog W 0 (fun _ => true) true fuel 33 cs = some x) :
    ∃ o vn vp vk, cs = Od.cells o vn vp vk ∧ OdV W o vn vp vk ∧ o.Fits := by
  obtain ⟨xs, m, -, -, hl, hlen, hfs⟩ := DataW.trod_struct Try.underlying33 hf
  rw [show Try.prog.cellsOf 33 = 7 by kernel_rfl] at hl
  obtain ⟨a0, a1, a2, a3, a4, a5, a6, rfl⟩ := list7 hl
  have hx : xs.length = 7 := hlen
  have hin : ∀ i, i < 7 → ∃ y, xs[i]? = some y := fun i hi => ⟨xs[i], List.getElem?_eq_getElem (by omega)⟩
  obtain ⟨y0, hy0⟩ := hin 0 (by omega)
  have t0 := (hfs 0 _ rfl).trans hy0
  obtain ⟨y1, hy1⟩ := hin 1 (by omega)
  have t1 := (hfs 1 _ rfl).trans hy1
  obtain ⟨y2, hy2⟩ := hin 2 (by omega)
  have t2 := (hfs 2 _ rfl).trans hy2
  obtain ⟨y3, hy3⟩ := hin 3 (by omega)
  have t3 := (hfs 3 _ rfl).trans hy3
  obtain ⟨y4, hy4⟩ := hin 4 (by omega)
  have t4 := (hfs 4 _ rfl).trans hy4
  obtain ⟨y5, hy5⟩ := hin 5 (by omega)
  have t5 := (hfs 5 _ rfl).trans hy5
  obtain ⟨y6, hy6⟩ := hin 6 (by omega)
  have t6 := (hfs 6 _ rfl).trans hy6
  obtain ⟨z0, q0, _, w0⟩ := DataW.trod_int Try.underlying5 (by simpa [show Try.prog.cellsOf 5 = 1 by kernel_rfl] using t0)
  obtain ⟨s1, q1, _, w1⟩ := DataW.trod_string Try.underlying9 (by simpa [show Try.prog.cellsOf 9 = 1 by kernel_rfl] using t1)
  obtain ⟨s2, q2, _, w2⟩ := DataW.trod_string Try.underlying9 (by simpa [show Try.prog.cellsOf 9 = 1 by kernel_rfl] using t2)
  obtain ⟨v3, l3, q3, n3, w3⟩ := strs_of_trod Try.underlying29 Try.underlying9 (by kernel_rfl) (by simpa [show Try.prog.cellsOf 29 = 1 by kernel_rfl] using t3)
  obtain ⟨v4, l4, q4, n4, w4⟩ := parts_of_trod Try.underlying30 Try.underlying37 (by kernel_rfl) Try.underlying5 (by kernel_rfl) (by simpa [show Try.prog.cellsOf 30 = 1 by kernel_rfl] using t4)
  obtain ⟨z5, q5, _, w5⟩ := DataW.trod_int Try.underlying3 (by simpa [show Try.prog.cellsOf 3 = 1 by kernel_rfl] using t5)
  obtain ⟨v6, l6, q6, n6, w6⟩ := nums_of_trod Try.underlying31 Try.underlying3 (by kernel_rfl) (by simpa [show Try.prog.cellsOf 31 = 1 by kernel_rfl] using t6)
  simp only [List.cons.injEq, and_true] at q0 q1 q2 q3 q4 q5 q6
  subst q0 q1 q2 q3 q4 q5 q6
  simp [Lit.wf, IntKind.min, IntKind.max, IntKind.signed, IntKind.bits] at w0 w5
  refine ⟨⟨z0, s1.data.toList, s2.data.toList, l3, l4, z5, l6⟩, _, _, _, by simp [Od.cells, str_strV], ⟨n3, n4, n6⟩, ⟨w0, ⟨size_big w1, size_big w2, w3⟩, w4, w5, fun x hx => ?_⟩⟩
  have := w6 x hx
  simp [Lit.wf, IntKind.min, IntKind.max, IntKind.signed, IntKind.bits] at this
  exact this

/-- an argument that is a script -/
theorem open_scriptD {base : Nat} {v : Value} {d : DataW H} {ps : List MemPlace}
    (hok : Value.okWide Try.prog W .any base 23 v) (h : DataW.Trod enc Try.prog W 0 (fun _ => true) true 23 v d ps) :
    ∃ l, ScriptD W v l ∧ ∀ r ∈ l, r.Fits := by
  obtain ⟨a0, len0, cap0, rfl⟩ := okWide_slice Try.underlying23 hok
  obtain ⟨fuel, hf⟩ := h
  have hce : Try.prog.cellsOf 33 = 7 := by kernel_rfl
  rcases open_slice Try.underlying23 hf with ⟨hcs, _⟩ | ⟨a, len, cap, m, n, D, Pl, hcs, _, hl, hm, hmm, _, hel⟩
  · simp [Value.cells] at hcs
    obtain ⟨rfl, rfl, rfl⟩ := hcs
    exact ⟨[], ⟨none, 0, rfl, by simp, by simp, fun i hi => absurd hi (by simp)⟩, by simp⟩
  · simp only [if_true] at hmm
    subst hmm
    rw [hce] at hel
    have each : ∀ i, i < len → ∃ o : Od, ∃ vn vp vk, (∀ j u, (o.cells vn vp vk)[j]? = some u → W.cell? (a.add (i * 7 + j)) = some u) ∧ OdV W o vn vp vk ∧ o.Fits := by
      intro i hi
      obtain ⟨cs', hcs', htr⟩ := hel i (by omega)
      obtain ⟨hlen, hg⟩ := cells_allD hcs'
      obtain ⟨o, vn, vp, vk, rfl, hn, hfit⟩ := od_of_trod htr
      refine ⟨o, vn, vp, vk, fun j u hj => ?_, hn, hfit⟩
      have hj7 : j < 7 := by rw [← hlen]; exact (List.getElem?_eq_some_iff.1 hj).1
      rw [← hj, ← hg j hj7, add_add]
    obtain ⟨l, hll, hp⟩ := exists_list len each
    simp [Value.cells] at hcs
    obtain ⟨rfl, rfl, rfl⟩ := hcs
    refine ⟨l, ⟨some a, cap0, by rw [hll], by omega, by simpa [maxLen] using hm, fun i hi => ?_⟩, fun o ho => ?_⟩
    · obtain ⟨vn, vp, vk, hc, hn, _⟩ := hp i hi
      obtain ⟨_, _, _, h0, _⟩ := hp 0 (by omega)
      have h00 := h0 0 _ rfl
      obtain ⟨b, off, spot⟩ := a
      obtain rfl : spot = none := by
        simpa [Addr.add] using World.cell?_spot h00
      refine ⟨b, off, vn, vp, vk, rfl, fun j u hj => ?_, hn⟩
      have := hc j u hj
      rw [Addr.add_lit, ← Nat.add_assoc] at this
      exact this
    · obtain ⟨i, hi, rfl⟩ := List.mem_iff_getElem.1 ho
      obtain ⟨_, _, _, _, _, hfit⟩ := hp i hi
      exact hfit

end

end Go.Proofs.Ytdcgooleiefljaa

namespace Go.Proofs.Ytdcgooleiefljaa
open Go.RowKit Go.ChangeMaps Go.Shelf

theorem dkClone (w : World) (B : Nat) (v : Value) (l : List UInt8) (h : w.ownsRow B 5 1 v l.length (l.map encB)) (hl : l.length ≤ 1000000000) :
    Calls Try.prog 32 #[v] w fun e w' => ∃ u, e = .returned u ∧ w'.ownsRow w.heap.size 5 1 u l.length (l.map encB) ∧ Below w.heap.size w w' := by
  obtain ⟨q, n, c, rfl⟩ := own_form h
  obtain rfl : n = l.length := own_len h
  cases q with
  | none =>
    have hl0 : l = [] := by
      rcases h.2 with ⟨-, h0⟩ | ⟨g, cap, cur, he, -⟩
      · exact List.eq_nil_of_length_eq_zero h0
      · cases he
    subst hl0
    refine (show Calls Try.prog 32 _ _ _ from Any.bytes_Clone_nil layClone _ c w).mono ?_
    rintro e w' ⟨rfl, rfl⟩
    exact ⟨_, rfl, World.ownsRow_nil _ _ _ _, Below.refl _ _⟩
  | some a =>
    have hs := SrcAt.of_own h
    refine (show Calls Try.prog 32 _ _ _ from Any.bytes_Clone_at layClone a l.length c (l.map fun b => (b.toNat : Int)) w (by simp) (by omega) (fun i hi => by
      have := hs.cells a rfl i (encB l[i]) (by simp [List.getElem?_eq_getElem hi])
      rw [this]
      simp [encB, List.getD, List.getElem?_eq_getElem hi])).mono ?_
    rintro e w' ⟨u, rfl, hu, -, hb⟩
    rw [List.map_map] at hu
    exact ⟨u, rfl, hu, hb⟩

set_option maxHeartbeats 4000000 in
theorem dkRead (w : World) (B p m : Nat) (left : Int) (room : Int) (F : List Fz) (f : Fz) (h : DkAt w B p m left false room F) (hf : f ∈ F) (hl : f.bytes.length ≤ 1000000000) :
    Calls Try.prog 18 #[.pointer (some ⟨p, 0, none⟩), strV f.name] w fun e w' => ∃ u, e = .returned (.tuple #[u, .int .i64 0]) ∧ w'.ownsRow w.heap.size 5 1 u f.bytes.length (f.bytes.map encB) ∧ Below w.heap.size w w' := by
  have cU := dkUp w B p m left false room F h
  obtain ⟨F1, F2, rfl⟩ := List.append_of_mem hf
  have c3 : w.cell? ⟨p, 3, none⟩ = some (.map (some m)) := by simp [World.cell?, h.cell]
  have L0 := h.look f.name
  rw [h.look_mid] at L0
  have c0 : w.cell? ⟨f.blk, 0, none⟩ = some f.v := by simp [World.cell?, h.file f hf]
  have hrow := h.row f hf
  obtain ⟨q, n, c, hv⟩ := own_form hrow
  rw [hv] at c0 hrow
  have cC := dkClone w B _ f.bytes hrow hl
  obtain ⟨fb, hfb⟩ : ∃ fb, fb = f.blk := ⟨_, rfl⟩
  obtain ⟨xn, hxn⟩ : ∃ xn, xn = f.name := ⟨_, rfl⟩
  rw [← hfb] at c0 L0
  rw [← hxn] at L0 ⊢
  clear h hf hl hrow hv hfb hxn
  go_enter Try.func18, Try.ntmps18
  go_wp2_with (first
    | (go_at_call 22; refine cU.mono ?_; rintro e w' ⟨rfl, rfl⟩)
    | (go_at_call 32; refine cC.mono ?_; rintro e w2 ⟨u, rfl, hu, hb⟩; have R := Lib.hid (And.intro hu hb); clear hu hb))
  go_ret2
  exact ⟨u, rfl, R.out⟩

/-- of no such file -/
theorem dkRead_none (w : World) (B p m : Nat) (left : Int) (room : Int) (F : List Fz) (h : DkAt w B p m left false room F) (x : List UInt8) (hx : inF F x = false) :
    Calls Try.prog 18 #[.pointer (some ⟨p, 0, none⟩), strV x] w fun e w' => e = .returned (.tuple #[.slice none 0 0, .int .i64 6]) ∧ w' = w := by
  have cU := dkUp w B p m left false room F h
  have c3 : w.cell? ⟨p, 3, none⟩ = some (.map (some m)) := by simp [World.cell?, h.cell]
  have L0 := h.look x
  rw [look_out hx] at L0
  clear h hx
  go_enter Try.func18, Try.ntmps18
  go_wp2_with (go_at_call 22; refine cU.mono ?_; rintro e w' ⟨rfl, rfl⟩)
  go_ret2
  exact ⟨rfl, rfl⟩

end Go.Proofs.Ytdcgooleiefljaa
