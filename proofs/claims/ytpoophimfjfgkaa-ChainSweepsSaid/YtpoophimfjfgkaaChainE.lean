/-
  chain: what nobody needs goes; a chain is made.
-/
import Derived.Test.YtpoophimfjfgkaaChainD
import Derived.Deep.Slices
namespace Go.Proofs.Ytpoophimfjfgkaa
open Go.RowKit

theorem flat2_one {rs : List (Int × Value)} (h : ∀ r ∈ rs, r.2.oneCell' = true) : ∀ u ∈ flat2 rs, u.oneCell' = true := by
  induction rs with
  | nil => simp [flat2]
  | cons r rs ih =>
    intro u hu
    simp only [flat2, List.mem_cons] at hu
    rcases hu with rfl | rfl | hu
    · rfl
    · exact h r (by simp)
    · exact ih (fun r hr => h r (by simp [hr])) u hu

theorem flat2_drop (rs : List (Int × Value)) (n : Nat) : (flat2 rs).drop (n * 2) = flat2 (rs.drop n) := by
  induction n generalizing rs with
  | zero => simp
  | succ n ih =>
    cases rs with
    | nil => simp [flat2]
    | cons r rs =>
      rw [show (n + 1) * 2 = n * 2 + 1 + 1 by omega]
      simp [flat2, ih]

theorem cloneVer_nil (w : World) : Calls Try.prog 25 #[.slice none 0 0] w fun e w' => e = .returned (.slice none 0 0) ∧ w = w' := by
  have qN : ∀ (w : World) (a : Option Addr) (n c : Nat), (binOp .eql 51 (.slice a n c) (.slice none 0 0)).run Try.prog w = .ok (.bool a.isNone) w := fun w a n c => Lib.run_eql_slice_nil w _ _ a n c 0 0 Try.underlying51
  go_enter Try.func25, Try.ntmps25
  go_wp2_with fail
  go_ret
  exact ⟨rfl, rfl⟩

/-- a new row of these cells -/
def NewRow (w : World) (e size n : Nat) (xs : List Value) (r : Ending) (w' : World) : Prop :=
  ∃ v, r = .returned v ∧ w'.ownsRow w.heap.size e size v n xs ∧ Below w.heap.size w w'

theorem cloneVer (rs : List (Int × Value)) (a : Addr) (cap : Nat) (w : World) (hr : rs.length ≤ 1000000) (hcap : rs.length ≤ cap) (hone : ∀ r ∈ rs, r.2.oneCell' = true) (hc : ∀ j u, (flat2 rs)[j]? = some u → w.cell? (a.add j) = some u) :
    Calls Try.prog 25 #[.slice (some a) rs.length cap] w (NewRow w 41 2 rs.length (flat2 rs)) := by
  obtain ⟨i0, hi, hz0, hz1, hz2⟩ := info_parts rowVer.info
  have R := Lib.hid hr
  have K := Lib.hid (fun (w1 : World) (hb : Below w.heap.size w w1) j u (h : (flat2 rs)[j]? = some u) => below_cells hb (hc j u h))
  have O1 := Lib.hid (flat2_one hone)
  have L := Lib.hid (flat2_length rs)
  clear hr hc hone
  have qN : ∀ (w : World) (a : Option Addr) (n c : Nat), (binOp .eql 51 (.slice a n c) (.slice none 0 0)).run Try.prog w = .ok (.bool a.isNone) w := fun w a n c => Lib.run_eql_slice_nil w _ _ a n c 0 0 Try.underlying51
  go_enter Try.func25, Try.ntmps25
  go_wp2_with (at_builtin; refine wpList_append_own _ rfl _ _ 51 rfl w.heap.size 41 i0 (.agg #[.int .u64 0, .slice none 0 0]) 2 32 Try.underlying51 hi hz0 hz1 hz2 rfl (by decide) _ 0 [] rfl (by exact ⟨rfl, .inr ⟨_, _, #[], rfl, Nat.le_refl _, heap_alloc_new _ _, Nat.le_refl _, by simp [maxLen], rfl, rfl⟩⟩) a rs.length cap (flat2 rs) rfl (by exact L.out) (by exact K.out _ ((Below.refl _ _).alloc (Nat.le_refl _) _)) (by exact O1.out) (by simp [maxLen]; have := R.out; omega) (by have := R.out; omega) (by simp) ?_)
  intro v' w1 hown hg _
  go_wp2_with fail
  go_ret
  exact ⟨v', rfl, by simpa using hown, ((Below.refl _ _).alloc (Nat.le_refl _) _).grown hg (by simp) (by simp [Value.ownBlock])⟩

/-- how many go -/
def goneN (s : Int) (l : List (Int × List Int)) : Nat := if 0 < cntZ s l ∧ 0 < (atZ s l).length then cntZ s l - 1 else cntZ s l

theorem goneN_le (s : Int) (l : List (Int × List Int)) : goneN s l ≤ l.length := by
  have := cntZ_le s l
  unfold goneN
  split <;> omega

theorem hole_facts {w w' : World} {B c : Nat} {v : Value} {rs : List (Int × Value)} {l : List (Int × List Int)} (h : ChainOwn w B c v rs l) (hb : Below w.heap.size w w') : w'.cell? ⟨c, 0, none⟩ = some v ∧ w'.frozen? ⟨c, 0, none⟩ = false := by
  have := (h.below hb).obj
  exact ⟨by simp [World.cell?, this], by simp [World.frozen?, this]⟩

theorem own_rangeAdd {w : World} {base e size n n' cap : Nat} {a : Addr} {xs : List Value} (h : w.ownsRow base e size (.slice (some a) n cap) n' xs) : ∀ j u, xs[j]? = some u → w.cell? (a.add j) = some u := by
  obtain ⟨h1, ⟨h2, _⟩ | ⟨g, cap', cur, hv, hb, hh, hn, hm, hs, ht⟩⟩ := h
  · cases h2
  · obtain ⟨ha, _, _⟩ := Value.slice.inj hv
    simp only [Option.some.injEq] at ha
    subst ha
    intro j u hj
    rw [← ht, List.getElem?_take] at hj
    split at hj
    · rw [Addr.add_lit, Nat.zero_add]
      simp only [World.cell?, hh]; simpa using hj
    · cases hj

theorem Held2.drop {w : World} {B E : Nat} {rs : List (Int × Value)} {l : List (Int × List Int)} (h : Held2 w B E rs l) (k : Nat) : Held2 w B E (rs.drop k) (l.drop k) := by
  refine ⟨by simp [h.len], fun i h1 h2 => ?_, h.apart.sublist (List.drop_sublist _ _)⟩
  rw [List.getElem_drop, List.getElem_drop]
  exact h.own _ _ _

theorem Held2.one {w : World} {B E : Nat} {rs : List (Int × Value)} {l : List (Int × List Int)} (h : Held2 w B E rs l) : ∀ r ∈ rs, r.2.oneCell' = true := by
  intro r hr
  obtain ⟨i, hi, rfl⟩ := List.mem_iff_getElem.1 hr
  obtain ⟨q, m, c, hq⟩ := own_form (h.own i hi (by rw [← h.len]; exact hi)).2
  rw [hq]; rfl

theorem sweep_clone {w wr : World} {B c : Nat} {p : Option Addr} {cap k : Nat} {rs : List (Int × Value)} {l : List (Int × List Int)} (h : ChainOwn w B c (.slice p l.length cap) rs l) (hb : Below w.heap.size w wr) (hk : k ≤ l.length) (hn : l.length ≤ 1000000) :
    ∀ (q : Option Addr) (m cap' : Nat), (k < cap → q = p.map (fun a => a.add (k * 2))) → m = l.length - k → m ≤ cap' → (p = none → q = none ∧ cap' = 0) → (p ≠ none → ∃ a', q = some a') →
    Calls Try.prog 25 #[.slice q m cap'] wr (NewRow wr 41 2 (rs.drop k).length (flat2 (rs.drop k))) := by
  intro q m cap' h1 h2 h3 h4 h5
  have hlen := h.held.len
  cases p with
  | none =>
    obtain ⟨rfl, rfl⟩ := h4 rfl
    obtain rfl : m = 0 := by omega
    have : rs.drop k = [] := List.eq_nil_of_length_eq_zero (by simp; omega)
    rw [this]
    exact (cloneVer_nil wr).mono fun e w' ⟨he, hw⟩ => by subst hw; exact ⟨_, he, World.ownsRow_nil _ _ _ _, Below.refl _ _⟩
  | some a =>
    have hq : ∃ a', q = some a' ∧ ∀ j u, (flat2 (rs.drop k))[j]? = some u → wr.cell? (a'.add j) = some u := by
      by_cases hkc : k < cap
      · refine ⟨_, h1 hkc, fun j u hj => ?_⟩
        rw [← flat2_drop, List.getElem?_drop] at hj
        have := own_rangeAdd (own_below h.row hb) _ u hj
        rw [Deep.add_add]
        exact this
      · obtain ⟨a', ha⟩ := h5 (by simp)
        refine ⟨a', ha, fun j u hj => ?_⟩
        have hle : l.length ≤ cap := by
          obtain ⟨_, _, hv, h1, _⟩ := h.is.recs
          have := (Value.slice.inj hv).2.2
          omega
        have : rs.drop k = [] := List.eq_nil_of_length_eq_zero (by simp; omega)
        rw [this] at hj
        simp [flat2] at hj
    obtain ⟨a', rfl, hcells⟩ := hq
    obtain rfl : m = (rs.drop k).length := by simp; omega
    exact cloneVer (rs.drop k) a' cap' wr (by simp; omega) h3 (h.held.drop k).one hcells

theorem sweep_end {w wr w2 : World} {B c : Nat} {F : Nat → Prop} {v v2 out : Value} {k : Nat} {rs : List (Int × Value)} {l : List (Int × List Int)} (h : ChainOwn w B c v rs l) (f : Foot F c v rs) (hB : B ≤ w.heap.size) (hk : k ≤ l.length)
    (ho : wr.ownsRow w.heap.size 29 1 out k (((l.take k).map (·.1)).map (Value.int .u64))) (hb : Below w.heap.size w wr) (h2 : w2.ownsRow wr.heap.size 41 2 v2 (rs.drop k).length (flat2 (rs.drop k))) (hb2 : Below wr.heap.size wr w2) :
    (w2.setCell ⟨c, 0, none⟩ v2).ownsRow w.heap.size 29 1 out k (((l.take k).map (·.1)).map (Value.int .u64)) ∧ ChainAt (w2.setCell ⟨c, 0, none⟩ v2) B (Plus F w (w2.setCell ⟨c, 0, none⟩ v2)) c (l.drop k) ∧ Mod F w (w2.setCell ⟨c, 0, none⟩ v2) := by
  have hbw := hb.trans (hb2.mono hb.size)
  have h' := h.below hbw
  have hc2 := h'.obj
  have hsz : (w2.setCell ⟨c, 0, none⟩ v2).heap.size = w2.heap.size := by simp [World.setCell]
  have hcw := lt_block h.obj
  refine ⟨ownsRow_setCell_other (own_below ho hb2) (own_not (own_below ho hb2) hc2 (by decide)) _, ⟨v2, rs.drop k, ⟨heap_setCell_one hc2, h.ge, ?_, ?_⟩, ⟨.inl f.cell, fun b hbk => ?_, fun r hr b hbk => .inl (f.vecs r (List.mem_of_mem_drop hr) b hbk)⟩⟩, (Mod.of_below hbw).setCell (.inl f.cell) _⟩
  · exact ownsRow_setCell_other (own_mono h2 (by have := hb.size; omega)) (own_not h2 hc2 (by decide)) _
  · have hd := h'.held.drop k
    exact ⟨hd.len, fun i a b => ⟨(hd.own i a b).1, ownsRow_setCell_other (hd.own i a b).2 (own_not (hd.own i a b).2 hc2 (by decide)) _⟩, hd.apart⟩
  · have := h2.lt b hbk
    have := hb.size
    exact .inr ⟨by omega, by rw [hsz]; exact (h2.lt b hbk).2⟩

theorem rowU64 : RowTy Try.prog 33 29 1 8 (.int .u64 0) := ⟨Try.underlying33, by kernel_rfl, rfl, by decide⟩

theorem sweep_nil (s : Int) (w : World) : Calls Try.prog 12 #[.pointer none, .int .u64 s] w fun e w' => e = .returned (.slice none 0 0) ∧ w = w' := by
  go_enter Try.func12, Try.ntmps12
  go_wp2_with fail
  go_ret
  exact ⟨rfl, rfl⟩

/-- what is swept, and what stays -/
def Swept (B c : Nat) (F : Nat → Prop) (s : Int) (l : List (Int × List Int)) (w : World) (e : Ending) (w' : World) : Prop :=
  ∃ v, e = .returned v ∧ w'.ownsRow w.heap.size 29 1 v (goneN s l) (((l.take (goneN s l)).map (·.1)).map (Value.int .u64)) ∧ ChainAt w' B (Plus F w w') c (l.drop (goneN s l)) ∧ Mod F w w'

set_option maxHeartbeats 4000000 in
theorem sweep (B c : Nat) (F : Nat → Prop) (l : List (Int × List Int)) (hr : Rising l) (hn : l.length ≤ 1000000) (s : Int) (w : World) (h : ChainAt w B F c l) (hB : B ≤ w.heap.size) :
    Calls Try.prog 12 #[.pointer (some ⟨c, 0, none⟩), .int .u64 s] w (Swept B c F s l w) := by
  obtain ⟨v, rs, hc, hf⟩ := h
  have A := Lib.hid hc.is
  have R := Lib.hid hr
  have C := Lib.hid hc
  have G := Lib.hid hf
  obtain ⟨p, vn, cap, rfl⟩ := own_form hc.row
  obtain rfl : vn = l.length := by
    obtain ⟨_, _, hv, _⟩ := hc.is.recs
    simpa using (Value.slice.inj hv).2.1
  have hcp : l.length ≤ cap ∧ cap ≤ 9223372036854775807 ∧ (p = none → cap = 0) := by
    obtain ⟨_, _, hv, h1, h2, h3, _⟩ := hc.is.recs
    obtain ⟨rfl, _, rfl⟩ := Value.slice.inj hv
    exact ⟨h1, h2, h3⟩
  obtain ⟨hcap, hbig, hpn⟩ := hcp
  have hle := cntZ_le s l
  have gle := goneN_le s l
  have T : (cntZ s l = 0 ∧ goneN s l = 0) ∨ (∃ m, m < l.length ∧ cntZ s l = m + 1 ∧ ∃ hm : m < l.length, (l[m].2.length = 0 ∧ goneN s l = m + 1) ∨ (0 < l[m].2.length ∧ goneN s l = m)) := by
    by_cases h0 : cntZ s l = 0
    · exact .inl ⟨h0, by unfold goneN; rw [if_neg (by omega), h0]⟩
    · refine .inr ⟨cntZ s l - 1, by omega, by omega, by omega, ?_⟩
      have e := atZ_pos (s := s) (l := l) (by omega) (by omega)
      rw [← e]
      unfold goneN
      by_cases hz : (atZ s l).length = 0
      · exact .inl ⟨hz, by rw [if_neg (by omega)]; omega⟩
      · exact .inr ⟨by omega, by rw [if_pos (by omega)]⟩
  have AF := after l hr hn s c _ w hc.is
  unfold Swept
  generalize goneN s l = n at *
  clear hc hf hr
  rcases T with ⟨t0, t2⟩ | ⟨m, hm, t0, hm', ⟨t1, t2⟩ | ⟨t1, t2⟩⟩
  all_goals
    rw [t0] at AF
    have AF' := Lib.hid AF
    clear AF t0
    obtain rfl := t2.symm
  · cases p
    case' none => obtain rfl := hpn rfl
    all_goals clear hpn
    all_goals
     go_enter Try.func12, Try.ntmps12
     go_wp2_with fail
     refine AF'.out.mono ?_
     rintro e w1 ⟨rfl, hb1⟩
     have B1 := Lib.hid hb1
     have d0 := (A.out.below hb1).cell
     clear hb1
     go_wp2_with fail
     have hl2 : 0 ≤ l.length := gle
     go_loopg [6, 38] (0) (fun q out i wr => ∃ k : Nat, q = 0 - k ∧ k ≤ 0 ∧ i = .int .i64 k ∧ wr.ownsRow w.heap.size 29 1 out k (((l.take k).map (·.1)).map (Value.int .u64)) ∧ Below w.heap.size w wr)
     case atStart => exact ⟨0, rfl, by omega, rfl, World.ownsRow_nil _ _ _ _, B1.out⟩
     case round =>
       obtain ⟨k, rfl, hk, rfl, hown, hb⟩ := hrel
       by_cases hlt : k < 0
       · skip
         exact absurd hlt (by omega)
       · obtain rfl : 0 = k := by omega
         have O := Lib.hid (And.intro hown hb)
         have d0' := (A.out.below hb).cell
         have hsz := hb.size
         obtain ⟨f0, f1⟩ := hole_facts C.out hb
         clear hown hb
         have CL := Lib.hid (sweep_clone C.out (k := 0) O.out.2 hl2 hn)
         go_wp2_with fail
         all_goals
           refine (CL.out _ _ _ (fun hh => by first | omega | rfl | simp [Addr.add]) (by first | rfl | omega) (by omega) (by first | (intro hh; cases hh; done) | exact fun _ => ⟨rfl, rfl⟩) (by first | exact fun _ => ⟨_, rfl⟩ | exact fun hh => absurd rfl hh)).mono ?_
           rintro e w2 ⟨v2, rfl, ho2, hb2⟩
           obtain ⟨q2, n2, c2, rfl⟩ := own_form ho2
           have O2 := Lib.hid (And.intro ho2 hb2)
           have g0 := below_cells hb2 f0
           have g1 := below_frozen hb2 (lt_of_cell f0) f1
           clear ho2 hb2
           go_wp2_with fail
           go_ret
           exact ⟨_, rfl, sweep_end C.out G.out hB hl2 O.out.1 O.out.2 O2.out.1 O2.out.2⟩
  · have hz : decide (0 < l[m].2.length) = false := decide_eq_false (by omega)
    have hz' : l[m].2.length = 0 := t1
    clear t1
    go_enter Try.func12, Try.ntmps12
    go_wp2_with fail
    refine AF'.out.mono ?_
    rintro e w1 ⟨rfl, hb1⟩
    have B1 := Lib.hid hb1
    have A1 := A.out.below hb1
    obtain ⟨b, off, u, rfl, c0, c1, hu⟩ := A1.recs.elem hm
    have d0 := A1.cell
    obtain ⟨up, ucap, rfl, -, -, -, -⟩ := id hu.slice
    clear A1 hu hb1
    go_wp2_with fail
    have hl2 : (m + 1) ≤ l.length := gle
    go_loopg [6, 38] ((m + 1)) (fun q out i wr => ∃ k : Nat, q = (m + 1) - k ∧ k ≤ (m + 1) ∧ i = .int .i64 k ∧ wr.ownsRow w.heap.size 29 1 out k (((l.take k).map (·.1)).map (Value.int .u64)) ∧ Below w.heap.size w wr)
    case atStart => exact ⟨0, rfl, by omega, rfl, World.ownsRow_nil _ _ _ _, B1.out⟩
    case round =>
      obtain ⟨k, rfl, hk, rfl, hown, hb⟩ := hrel
      by_cases hlt : k < (m + 1)
      · skip
        obtain ⟨b, off, u, hp, e0, e1, hu⟩ := (A.out.below hb).recs.elem (i := k) (by omega)
        obtain ⟨up, ucap, rfl, -, -, -, -⟩ := id hu.slice
        try simp only [Option.some.injEq, Addr.mk.injEq, reduceCtorEq, and_true] at hp
        try obtain ⟨rfl, rfl⟩ := hp
        try subst hp
        have O := Lib.hid (And.intro hown hb)
        have hsz := hb.size
        clear hown hb hu
        obtain ⟨g5, c5, w5, hrun, hown5, hg5, hat5, -⟩ := run_push rowU64 (O.out.1.alloc (Obj.cells #[Value.int IntKind.u64 l[k].fst, Value.slice up l[k].snd.length ucap] 41)) (by simp; omega) #[.int .u64 l[k].1] rfl (by simp [Value.oneCell']) (by simp [maxLen]; omega) (by omega)
        rw [show (wr.alloc (Obj.cells #[Value.int IntKind.u64 l[k].fst, Value.slice up l[k].snd.length ucap] 41)).heap.size = wr.heap.size + 1 by simp] at hrun
        have F := Lib.hid (And.intro hown5 ((((O.out.2.alloc hsz (Obj.cells #[Value.int IntKind.u64 l[k].fst, Value.slice up l[k].snd.length ucap] 41)).alloc (by simp; omega) (Obj.cells #[.int .u64 l[k].1] 29)).grown hg5 (by simp; omega) (fun b hb => (O.out.1.lt b hb).1))))
        clear hown5 hg5 hat5
        go_wp2_with (refine wpList_append_eq hrun rfl _ _ rfl rfl rfl ?_)
        go_roundg ((m + 1) - (k + 1))
        case measure => omega
        case rel => exact ⟨k + 1, rfl, by omega, by go_num, by have := F.out.1; rw [take_snoc l k (by omega), List.map_append, List.map_append]; exact this, F.out.2⟩
      · obtain rfl : (m + 1) = k := by omega
        have O := Lib.hid (And.intro hown hb)
        have d0' := (A.out.below hb).cell
        have hsz := hb.size
        obtain ⟨f0, f1⟩ := hole_facts C.out hb
        clear hown hb
        have CL := Lib.hid (sweep_clone C.out (k := (m + 1)) O.out.2 hl2 hn)
        go_wp2_with fail
        all_goals
          refine (CL.out _ _ _ (fun hh => by first | omega | rfl | simp [Addr.add]) (by first | rfl | omega) (by omega) (by first | (intro hh; cases hh; done) | exact fun _ => ⟨rfl, rfl⟩) (by first | exact fun _ => ⟨_, rfl⟩ | exact fun hh => absurd rfl hh)).mono ?_
          rintro e w2 ⟨v2, rfl, ho2, hb2⟩
          obtain ⟨q2, n2, c2, rfl⟩ := own_form ho2
          have O2 := Lib.hid (And.intro ho2 hb2)
          have g0 := below_cells hb2 f0
          have g1 := below_frozen hb2 (lt_of_cell f0) f1
          clear ho2 hb2
          go_wp2_with fail
          go_ret
          exact ⟨_, rfl, sweep_end C.out G.out hB hl2 O.out.1 O.out.2 O2.out.1 O2.out.2⟩
  · have hz : decide (0 < l[m].2.length) = true := decide_eq_true (by omega)
    clear t1
    go_enter Try.func12, Try.ntmps12
    go_wp2_with fail
    refine AF'.out.mono ?_
    rintro e w1 ⟨rfl, hb1⟩
    have B1 := Lib.hid hb1
    have A1 := A.out.below hb1
    obtain ⟨b, off, u, rfl, c0, c1, hu⟩ := A1.recs.elem hm
    have d0 := A1.cell
    obtain ⟨up, ucap, rfl, -, -, -, -⟩ := id hu.slice
    clear A1 hu hb1
    go_wp2_with fail
    have hl2 : m ≤ l.length := gle
    go_loopg [6, 38] (m) (fun q out i wr => ∃ k : Nat, q = m - k ∧ k ≤ m ∧ i = .int .i64 k ∧ wr.ownsRow w.heap.size 29 1 out k (((l.take k).map (·.1)).map (Value.int .u64)) ∧ Below w.heap.size w wr)
    case atStart => exact ⟨0, rfl, by omega, rfl, World.ownsRow_nil _ _ _ _, B1.out⟩
    case round =>
      obtain ⟨k, rfl, hk, rfl, hown, hb⟩ := hrel
      by_cases hlt : k < m
      · skip
        obtain ⟨b, off, u, hp, e0, e1, hu⟩ := (A.out.below hb).recs.elem (i := k) (by omega)
        obtain ⟨up, ucap, rfl, -, -, -, -⟩ := id hu.slice
        try simp only [Option.some.injEq, Addr.mk.injEq, reduceCtorEq, and_true] at hp
        try obtain ⟨rfl, rfl⟩ := hp
        try subst hp
        have O := Lib.hid (And.intro hown hb)
        have hsz := hb.size
        clear hown hb hu
        obtain ⟨g5, c5, w5, hrun, hown5, hg5, hat5, -⟩ := run_push rowU64 (O.out.1.alloc (Obj.cells #[Value.int IntKind.u64 l[k].fst, Value.slice up l[k].snd.length ucap] 41)) (by simp; omega) #[.int .u64 l[k].1] rfl (by simp [Value.oneCell']) (by simp [maxLen]; omega) (by omega)
        rw [show (wr.alloc (Obj.cells #[Value.int IntKind.u64 l[k].fst, Value.slice up l[k].snd.length ucap] 41)).heap.size = wr.heap.size + 1 by simp] at hrun
        have F := Lib.hid (And.intro hown5 ((((O.out.2.alloc hsz (Obj.cells #[Value.int IntKind.u64 l[k].fst, Value.slice up l[k].snd.length ucap] 41)).alloc (by simp; omega) (Obj.cells #[.int .u64 l[k].1] 29)).grown hg5 (by simp; omega) (fun b hb => (O.out.1.lt b hb).1))))
        clear hown5 hg5 hat5
        go_wp2_with (refine wpList_append_eq hrun rfl _ _ rfl rfl rfl ?_)
        go_roundg (m - (k + 1))
        case measure => omega
        case rel => exact ⟨k + 1, rfl, by omega, by go_num, by have := F.out.1; rw [take_snoc l k (by omega), List.map_append, List.map_append]; exact this, F.out.2⟩
      · obtain rfl : m = k := by omega
        have O := Lib.hid (And.intro hown hb)
        have d0' := (A.out.below hb).cell
        have hsz := hb.size
        obtain ⟨f0, f1⟩ := hole_facts C.out hb
        clear hown hb
        have CL := Lib.hid (sweep_clone C.out (k := m) O.out.2 hl2 hn)
        go_wp2_with fail
        all_goals
          refine (CL.out _ _ _ (fun hh => by first | omega | rfl | simp [Addr.add]) (by first | rfl | omega) (by omega) (by first | (intro hh; cases hh; done) | exact fun _ => ⟨rfl, rfl⟩) (by first | exact fun _ => ⟨_, rfl⟩ | exact fun hh => absurd rfl hh)).mono ?_
          rintro e w2 ⟨v2, rfl, ho2, hb2⟩
          obtain ⟨q2, n2, c2, rfl⟩ := own_form ho2
          have O2 := Lib.hid (And.intro ho2 hb2)
          have g0 := below_cells hb2 f0
          have g1 := below_frozen hb2 (lt_of_cell f0) f1
          clear ho2 hb2
          go_wp2_with fail
          go_ret
          exact ⟨_, rfl, sweep_end C.out G.out hB hl2 O.out.1 O.out.2 O2.out.1 O2.out.2⟩

end Go.Proofs.Ytpoophimfjfgkaa
