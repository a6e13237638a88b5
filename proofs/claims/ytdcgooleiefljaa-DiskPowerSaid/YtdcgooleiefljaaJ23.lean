/-
  disk: bytes are cut; numbers are cut: new ones.
  disk: bytes that lie beside the disk; a law's state.
  A region that draws its order and ends with stores: what is held through the region need not hold behind the operations of M.
-/
import Derived.Test.YtdcgooleiefljaaJ05
import Derived.Test.YtdcgooleiefljaaJ06
import Derived.Test.YtdcgooleiefljaaJ17
import Derived.Test.YtdcgooleiefljaaJ22
import Derived.Test.YtdcgooleiefljaaJ11
namespace Go.Proofs.Ytdcgooleiefljaa
open Go.RowKit

theorem infoU8 : (Try.prog.info? 5).map (fun i => (i.zero, i.size, i.bytes)) = some (some (.int .u8 0), 1, 1) := by kernel_rfl
theorem infoI64 : (Try.prog.info? 3).map (fun i => (i.zero, i.size, i.bytes)) = some (some (.int .i64 0), 1, 8) := by kernel_rfl
theorem rowU8 : RowTy Try.prog 37 5 1 1 (.int .u8 0) := ⟨Try.underlying37, infoU8, rfl, by decide⟩
theorem rowI64 : RowTy Try.prog 31 3 1 8 (.int .i64 0) := ⟨Try.underlying31, infoI64, rfl, by decide⟩

/-- a new slice of the call's own that reads as xs: the answer of a call that began in w -/
def NewNz (w : World) (k : IntKind) (e : Nat) (xs : List Int) (r : Ending) (w' : World) : Prop :=
  ∃ v, r = .returned v ∧ w'.ownsRow w.heap.size e 1 v xs.length (xs.map (Value.int k)) ∧ Below w.heap.size w w'

theorem intz_one {k : IntKind} {xs : List Int} : ∀ u ∈ xs.map (Value.int k), u.oneCell' = true := by
  intro u hu; obtain ⟨x, _, rfl⟩ := List.mem_map.1 hu; rfl

/-- the first m, behind a new block -/
theorem src_take {w : World} {k : IntKind} {p : Option Addr} {c : Nat} {xs : List Int} (h : Nums w k (.slice p xs.length c) xs) (m : Nat) (hm : m ≤ xs.length) (e : Nat) : SrcAt (w.alloc (.cells #[] e)) p m c 1 ((xs.take m).map (Value.int k)) := by
  have s0 := (SrcAt.of_nums h).below ((Below.refl _ w).alloc (Nat.le_refl _) (.cells #[] e))
  refine ⟨by simp; omega, fun hp => ?_, fun a ha j u hj => s0.cells a ha j u ?_⟩
  · obtain ⟨h1, h2⟩ := s0.nil hp
    exact ⟨by omega, h2⟩
  · rw [List.map_take, List.getElem?_take] at hj
    split at hj
    · exact hj
    · cases hj

theorem cutB (xs : List Int) (v : Value) (n : Int) (w : World) (h : Nums w .u8 v xs) (hn : 0 ≤ n) (hr : n ≤ 1000) :
    Calls Try.prog 13 #[v, .int .i64 n] w (NewNz w .u8 5 (xs.take n.toNat)) := by
  obtain ⟨p, cap, rfl, hcap, hbig, -, -⟩ := id h.slice
  obtain ⟨m, hm⟩ : ∃ m : Nat, (m : Int) = min (xs.length : Int) n := ⟨(min (xs.length : Int) n).toNat, by omega⟩
  have hmx : m ≤ xs.length := by omega
  have e1 : xs.take n.toNat = xs.take m := by
    by_cases h : xs.length ≤ n
    · rw [List.take_of_length_le (by omega), List.take_of_length_le (by omega)]
    · congr 1; omega
  rw [e1]
  have SRC := src_take h m hmx 5
  obtain ⟨q, k, c, w', hrun, hown, hg, -⟩ := run_app rowU8 (own_empty w w.heap.size 5 1 (Nat.le_refl _)) (by simp) SRC intz_one (by simp [maxLen]; omega) (by omega)
  obtain rfl : k = 0 + m := own_len hown
  have R := Lib.hid (And.intro hown (((Below.refl _ w).alloc (Nat.le_refl _) _).grown hg (by simp) (by simp [Value.ownBlock])))
  have hlen := Lib.hid (show (xs.take m).length = m from by simp; omega)
  have hmn : ∀ w : World, (Builtin.min_ #[3, 3] 3 #[.int .i64 xs.length, .int .i64 n]).run Try.prog w = .ok (.int .i64 m) w := by
    intro w
    simp [Builtin.min_, Builtin.min2, hm]
    split <;> omega
  have hm0 : (0 : Int) ≤ m ∧ (m : Int) ≤ cap := by omega
  have htn : ((m : Nat) : Int).toNat = m := Int.toNat_natCast _
  clear hown hg SRC e1 h hm hn hr
  go_enter Try.func13, Try.ntmps13
  go_wp2_with (with_reducible refine wpList_append_eq hrun rfl _ _ rfl rfl rfl ?_)
  go_ret
  exact ⟨_, rfl, by have := R.out.1; rw [hlen.out]; simpa using this, R.out.2⟩

theorem endsI (xs : List Int) (v : Value) (w : World) (h : Nums w .i64 v xs) :
    Calls Try.prog 17 #[v] w (NewNz w .i64 3 (xs.take 20)) := by
  obtain ⟨p, cap, rfl, hcap, hbig, -, -⟩ := id h.slice
  obtain ⟨m, hm⟩ : ∃ m : Nat, (m : Int) = min (xs.length : Int) 20 := ⟨(min (xs.length : Int) 20).toNat, by omega⟩
  have hmx : m ≤ xs.length := by omega
  have e1 : xs.take 20 = xs.take m := by
    by_cases h : xs.length ≤ 20
    · rw [List.take_of_length_le (by omega), List.take_of_length_le (by omega)]
    · congr 1; omega
  rw [e1]
  have SRC := src_take h m hmx 3
  obtain ⟨q, k, c, w', hrun, hown, hg, -⟩ := run_app rowI64 (own_empty w w.heap.size 3 1 (Nat.le_refl _)) (by simp) SRC intz_one (by simp [maxLen]; omega) (by omega)
  obtain rfl : k = 0 + m := own_len hown
  have R := Lib.hid (And.intro hown (((Below.refl _ w).alloc (Nat.le_refl _) _).grown hg (by simp) (by simp [Value.ownBlock])))
  have hlen := Lib.hid (show (xs.take m).length = m from by simp; omega)
  have hmn : ∀ w : World, (Builtin.min_ #[3, 3] 3 #[.int .i64 xs.length, .int .i64 20]).run Try.prog w = .ok (.int .i64 m) w := by
    intro w
    simp [Builtin.min_, Builtin.min2, hm]
    split <;> omega
  have hm0 : (0 : Int) ≤ m ∧ (m : Int) ≤ cap := by omega
  have htn : ((m : Nat) : Int).toNat = m := Int.toNat_natCast _
  clear hown hg SRC e1 h hm
  go_enter Try.func17, Try.ntmps17
  go_wp2_with (with_reducible refine wpList_append_eq hrun rfl _ _ rfl rfl rfl ?_)
  go_ret
  exact ⟨_, rfl, by have := R.out.1; rw [hlen.out]; simpa using this, R.out.2⟩

end Go.Proofs.Ytdcgooleiefljaa

namespace Go.Proofs.Ytdcgooleiefljaa
open Go.RowKit Go.ChangeMaps Go.Shelf

def toB (xs : List Int) : List UInt8 := xs.map fun x => UInt8.ofNat x.toNat

theorem toB_vals {xs : List Int} (h : ∀ x ∈ xs, 0 ≤ x ∧ x ≤ 255) : xs.map (Value.int .u8) = (toB xs).map encB := by
  unfold toB
  rw [List.map_map]
  refine List.map_congr_left fun x hx => ?_
  have := h x hx
  show Value.int .u8 x = .int .u8 _
  rw [← nat_of_byte (z := x) (by omega) rfl]

theorem cutBytes (xs : List Int) (v : Value) (n : Int) (w : World) (h : Nums w .u8 v xs) (hx : ∀ x ∈ xs, 0 ≤ x ∧ x ≤ 255) (hn : 0 ≤ n ∧ n ≤ 1000) :
    Calls Try.prog 13 #[v, .int .i64 n] w fun e w' => ∃ u, e = .returned u ∧ w'.ownsRow w.heap.size 5 1 u (toB (xs.take n.toNat)).length ((toB (xs.take n.toNat)).map encB) ∧ Below w.heap.size w w' := by
  refine (cutB xs v n w h hn.1 hn.2).mono ?_
  rintro e w' ⟨u, rfl, hu, hb⟩
  refine ⟨u, rfl, ?_, hb⟩
  rw [toB_vals (fun x hx' => hx x (List.mem_of_mem_take hx'))] at hu
  have e : (xs.take n.toNat).length = (toB (xs.take n.toNat)).length := by simp [toB]
  rwa [e] at hu

theorem wfs_u8 {xs : List Int} (h : ∀ x ∈ xs, (Lit.int .u8 x).wf = true) : ∀ x ∈ xs, 0 ≤ x ∧ x ≤ 255 := fun x hx => by
  have := h x hx
  simp [Lit.wf, IntKind.min, IntKind.max, IntKind.signed, IntKind.bits] at this
  exact this

theorem wfs_i64 {xs : List Int} (h : ∀ x ∈ xs, (Lit.int .i64 x).wf = true) : ∀ x ∈ xs, -9223372036854775808 ≤ x ∧ x ≤ 9223372036854775807 := fun x hx => by
  have := h x hx
  simp [Lit.wf, IntKind.min, IntKind.max, IntKind.signed, IntKind.bits] at this
  exact this

/-- a row that lies beside the disk -/
structure Beside (w : World) (p m : Nat) (F : List Fz) (v : Value) (l : List UInt8) : Prop where
  row : ∃ B, w.ownsRow B 5 1 v l.length (l.map encB)
  out : ∀ j, v.ownBlock = some j → ¬ DkF p m F j

theorem Beside.step {w w' : World} {p m : Nat} {F F' : List Fz} {v : Value} {l : List UInt8} (h : Beside w p m F v l) (hs : DkStep w w' p m F F') : Beside w' p m F' v l := by
  obtain ⟨⟨B, hr⟩, ho⟩ := h
  refine ⟨⟨B, own_agree hr fun k hk => hs.1.block k (hr.lt k hk).2 (ho k hk)⟩, fun j hj hF => ?_⟩
  rcases hs.2 j hF with h1 | h1
  · exact ho j hj h1
  · have := (hr.lt j hj).2
    omega

theorem Beside.below {w w' : World} {p m : Nat} {F : List Fz} {v : Value} {l : List UInt8} (h : Beside w p m F v l) (hb : Below w.heap.size w w') : Beside w' p m F v l := h.step (DkStep.below p m F hb)

/-- what is new is beside -/
theorem Beside.new {w w' : World} {B p m : Nat} {left : Int} {down : Bool} {room : Int} {F : List Fz} (h : DkAt w B p m left down room F) {v : Value} {l : List UInt8} (hr : w'.ownsRow w.heap.size 5 1 v l.length (l.map encB)) : Beside w' p m F v l :=
  ⟨⟨_, hr⟩, fun j hj hF => by have := (hr.lt j hj).1; have := (h.lt j hF).2; omega⟩

theorem Beside.bytes {w : World} {p m : Nat} {F : List Fz} {v : Value} {l : List UInt8} (h : Beside w p m F v l) : BytesAt w v l := by
  obtain ⟨⟨B, hr⟩, -⟩ := h
  obtain ⟨q, n, c, rfl⟩ := own_form hr
  obtain rfl : n = l.length := own_len hr
  exact ⟨_, _, rfl, SrcAt.of_own hr⟩

theorem holds_of_bytes {w : World} {v : Value} {l : List UInt8} (h : BytesAt w v l) : Lib.HoldsBytes w v l := by
  obtain ⟨p, c, rfl, hs⟩ := h
  refine ⟨p, c, rfl, fun hp => ?_, fun a ha i x hi => ?_⟩
  · exact List.eq_nil_of_length_eq_zero (hs.nil hp).1
  · exact hs.cells a ha i _ (by simp [hi, encB])

/-- what a Write of one part takes -/
theorem Beside.part {w W1 W : World} {p m : Nat} {F : List Fz} {v : Value} {l : List UInt8} (h : Beside w p m F v l) (hW1 : W1 = w.alloc (.cells #[v] 37)) (hp : p < w.heap.size) (hM : Mod (fun j => j = p) W1 W) : Parts W (.slice (some ⟨w.heap.size, 0, none⟩) 1 1) [l] := by
  have hb : Below w.heap.size w W1 := by rw [hW1]; exact (Below.refl _ w).alloc (Nat.le_refl _) _
  have h1 := h.below hb
  have hh : W1.heap[w.heap.size]? = some (.cells #[v] 37 (0, 0)) := by rw [hW1]; exact heap_alloc_new _ _
  have k0 := (hM.block w.heap.size (lt_block hh) (by omega)).trans hh
  have h2 := h1.step (DkStep.power p m F hM)
  refine ⟨[v], lit_reads (us := [v]) k0 (by simp), fun i u l' hu hl => ?_⟩
  match i, hu, hl with
  | 0, hu, hl =>
    simp at hu hl
    subst hu; subst hl
    exact holds_of_bytes h2.bytes
  | i + 1, hu, _ => simp at hu

/-- the disk of a law -/
structure DS (w0 w : World) (B p m : Nat) (left : Int) (down : Bool) (room : Int) (F : List Fz) (S : List (List UInt8 × List UInt8 × Nat)) : Prop where
  at_ : DkAt w B p m left down room F
  pl : F.map plain = S
  low : w0.heap.size ≤ B
  old : Below w0.heap.size w0 w

theorem DS.step {w0 w w' : World} {B p m : Nat} {left left' : Int} {down down' : Bool} {room : Int} {F F' : List Fz} {S S' : List (List UInt8 × List UInt8 × Nat)} (h : DS w0 w B p m left down room F S) (hs : DkStep w w' p m F F') (hD : DkAt w' B p m left' down' room F') (hp : F'.map plain = S') : DS w0 w' B p m left' down' room F' S' :=
  ⟨hD, hp, h.low, h.old.trans ((hs.base h.at_).mono h.low)⟩

theorem DS.below {w0 w w' : World} {B p m : Nat} {left : Int} {down : Bool} {room : Int} {F : List Fz} {S : List (List UInt8 × List UInt8 × Nat)} (h : DS w0 w B p m left down room F S) (hb : Below w.heap.size w w') : DS w0 w' B p m left down room F S :=
  ⟨h.at_.below hb, h.pl, h.low, h.old.trans (hb.mono h.old.size)⟩

theorem DS.used {w0 w : World} {B p m : Nat} {left : Int} {down : Bool} {room : Int} {F : List Fz} {S : List (List UInt8 × List UInt8 × Nat)} (h : DS w0 w B p m left down room F S) : usedF F = (S.map (·.2.1.length)).sum := by
  rw [used_plain, h.pl]

theorem DS.plt {w0 w : World} {B p m : Nat} {left : Int} {down : Bool} {room : Int} {F : List Fz} {S : List (List UInt8 × List UInt8 × Nat)} (h : DS w0 w B p m left down room F S) : p < w.heap.size := (h.at_.lt p (.inl rfl)).2

/-- one part is written, the power is not armed -/
theorem dkWriteB {w0 w W1 : World} {B p m : Nat} {room : Int} {F : List Fz} {S : List (List UInt8 × List UInt8 × Nat)} (h : DS w0 w B p m (-1) false room F S) {v : Value} {l : List UInt8} (hb : Beside w p m F v l) (hl : l.length ≤ 1000000) (hu : (S.map (·.2.1.length)).sum ≤ 1000000) (hW1 : W1 = w.alloc (.cells #[v] 37)) (name : List UInt8)
    {z : Int} {S' : List (List UInt8 × List UInt8 × Nat)} (hz : writeZ room S (S.map (·.2.1.length)).sum name l = (z, S')) :
    Calls Try.prog 10 #[.pointer (some ⟨p, 0, none⟩), strV name, .slice (some ⟨w.heap.size, 0, none⟩) 1 1] W1 fun e w' => e = .returned (.int .i64 z) ∧ ∃ F', DS w0 w' B p m (-1) false room F' S' ∧ DkStep w w' p m F F' := by
  have hbW : Below w.heap.size w W1 := by rw [hW1]; exact (Below.refl _ w).alloc (Nat.le_refl _) _
  have hU := h.used
  refine (dkWrite W1 B p m (-1) false room F (h.at_.below hbW) (by omega) name _ [l] (fun W hM => hb.part hW1 h.plt hM) (by simp [Lib.lens]; omega) (by simp) (by omega)).mono ?_
  rw [spend_free]
  simp only [if_true, h.pl, hU, List.flatten_cons, List.flatten_nil, List.append_nil, hz]
  rintro e w' ⟨rfl, F', hp, hD, hS⟩
  have hs := (DkStep.below p m F hbW).trans hS
  exact ⟨rfl, F', h.step hs hD hp, hs⟩

end Go.Proofs.Ytdcgooleiefljaa

namespace Go.Proofs.Ytdcgooleiefljaa
open Go.RowKit

section
variable {P : Program} {ops : Array Oper} {Q : Exit → Act → World → Prop} {md : Region.Mode} {S : World → Prop} {M : Nat → Bool}

/-- in whatever order from here on; behind each but those of M S holds -/
def anyButM (P : Program) (md : Region.Mode) (ops : Array Oper) (Q : Exit → Act → World → Prop) (S : World → Prop) (M : Nat → Bool) : Nat → Array Bool → Act → World → Prop
  | 0, listed, a, w => Region.ready md ops listed = [] ∧ Q .normal a w
  | k + 1, listed, a, w => (Region.ready md ops listed = [] → Q .normal a w) ∧ ∀ i ∈ Region.ready md ops listed, wpOp P ops Q i (fun a' w' => (M i = false → S w') ∧ anyButM P md ops Q S M k (listed.setIfInBounds i true) a' w') a w

theorem anyButM_any : ∀ (k : Nat) (listed : Array Bool) (a : Act) (w : World), anyButM P md ops Q S M k listed a w → wpAny P md ops Q k listed a w
  | 0, _, _, _, h => h
  | k + 1, _, _, _, h => ⟨h.1, fun i hi => wpOp_mono (fun _ _ h' => anyButM_any k _ _ _ h'.2) (h.2 i hi)⟩

theorem anyButM_first {i : Nat} {oi : Oper} {v : Value} (hi : ops[i]? = some oi) (hsel : ∀ (j : Nat) (o : Oper) cs b, ops[j]? = some o → o.op ≠ .select cs b)
    (hQ : ∀ c a w, Q (.panic c) (a.put oi.dst v) w → Q (.panic c) a w) (hwn : ∀ j, M j = true → waitsFor md ops j i = true) : ∀ (k : Nat) (listed : Array Bool) (a : Act) (w : World),
      (∀ j oj, ops[j]? = some oj → j ≠ i → listed.getD j true = false → (∀ e ∈ oj.after, Region.binds md e = true → e.on ≠ i) → oi.apart ops oj = true) →
      i ∈ Region.ready md ops listed → YieldsIf P ops S oi v a → S w →
      anyButM P md ops Q S M k (listed.setIfInBounds i true) (a.put oi.dst v) w → anyButM P md ops Q S M (k + 1) listed a w := by
  intro k
  induction k with
  | zero =>
    intro listed a w _ hr hy hS H
    refine ⟨fun h => (by rw [h] at hr; cases hr), fun j hj => ?_⟩
    by_cases hji : j = i
    · subst hji; exact hy.wpOp hi hS ⟨fun _ => hS, H⟩
    · have := ready_mono hj hji
      rw [H.1] at this
      cases this
  | succ k ih =>
    intro listed a w hfree hr hy hS H
    refine ⟨fun h => (by rw [h] at hr; cases hr), fun j hj => ?_⟩
    by_cases hji : j = i
    · subst hji; exact hy.wpOp hi hS ⟨fun _ => hS, H⟩
    · have hjn : M j = false := by
        cases hm : M j with
        | false => rfl
        | true => exact (waits_not (hwn j hm) hr hj).elim
      obtain ⟨hjun, oj, hoj, hall⟩ := mem_ready.1 hj
      have hnot : ∀ e ∈ oj.after, Region.binds md e = true → e.on ≠ i := fun e he hb heq => by
        have h1 := hall e he hb
        have h0 := (mem_ready.1 hr).1
        rw [heq] at h1
        rcases Nat.lt_or_ge i listed.size with h' | h'
        · simp [h'] at h0 h1; rw [h0] at h1; cases h1
        · simp [Array.getElem?_eq_none h'] at h1
      have h2 := wpOp_putIf hoj (hfree j oj hoj hji hjun hnot) (fun cs b => hsel i oi cs b hi) (fun cs b => hsel j oj cs b hoj) hQ hy (H.2 j (ready_mono hj hji))
      refine wpOp_mono (fun a' w' h3 => ⟨h3.2.1, ih (listed.setIfInBounds j true) a' w' (fun k ok hk hki hun hno => hfree k ok hk hki ?_ hno) (ready_mono hr (Ne.symm hji)) h3.1 (h3.2.1 hjn) ?_⟩) h2
      · by_cases hjk : j = k
        · subst hjk; exact hjun
        · rw [getD_set_ne true hjk] at hun; exact hun
      · rw [Array.setIfInBounds_comm _ _ hji]
        exact h3.2.2

/-- ms: those of M -/
def canTakeM (md : Region.Mode) (ops : Array Oper) (listed : Array Bool) (ms : List Nat) (i : Nat) : Bool := canTake md ops listed i && ms.all fun n => waitsFor md ops n i

def inM (ms : List Nat) (i : Nat) : Bool := ms.contains i

theorem tkYM {ms : List Nat} (i : Nat) {oi : Oper} {v : Value} {k : Nat} {listed : Array Bool} {a : Act} {w : World} (hS : S w) (hi : ops.toList[i]? = some oi) (hQ : ∀ c a w, Q (.panic c) (a.put oi.dst v) w → Q (.panic c) a w)
    (hc : canTakeM md ops listed ms i = true) (hw : Region.wanted oi (yielded ops a.tmps) = true) (hy : ∀ w, S w → (execOp a.eval oi).run P w = .ok (.value v) w)
    (h : anyButM P md ops Q S (inM ms) k (listed.setIfInBounds i true) (a.put oi.dst v) w) : anyButM P md ops Q S (inM ms) (k + 1) listed a w := by
  simp only [canTakeM, canTake, Bool.and_eq_true, List.all_eq_true] at hc
  have hi' : ops[i]? = some oi := by rw [← hi, Array.getElem?_toList]
  exact anyButM_first hi' (Region.noSelect_spec hc.1.1.1) hQ (fun j hj => hc.2 j (by simpa [inM] using hj)) k listed a w (Region.free_spec hi' hc.1.1.2) (by simpa using hc.1.2) (.inl ⟨hw, hy⟩) hS h

theorem kYM {ms : List Nat} (i : Nat) {oi : Oper} {v : Value} {k : Nat} {listed : Array Bool} {a : Act} {w : World} (hS : S w) (h : anyButM P md ops Q S (inM ms) k (listed.setIfInBounds i true) (a.put oi.dst v) w)
    (hi : ops.toList[i]? = some oi := by exact rfl) (hQ : ∀ c a w, Q (.panic c) (a.put oi.dst v) w → Q (.panic c) a w := by exact fun _ _ _ h => h) (hc : canTakeM md ops listed ms i = true := by decide +kernel) (hw : Region.wanted oi (yielded ops a.tmps) = true := by rfl) (hy : ∀ w, S w → (execOp a.eval oi).run P w = .ok (.value v) w := by intro w hS; (try dsimp only at hS); go_simp; try with_reducible rfl) : anyButM P md ops Q S (inM ms) (k + 1) listed a w :=
  tkYM i hS hi hQ hc hw hy h

/-- it yields v in every world, and is of M -/
theorem anyButM_firstA {i : Nat} {oi : Oper} {v : Value} (hi : ops[i]? = some oi) (hsel : ∀ (j : Nat) (o : Oper) cs b, ops[j]? = some o → o.op ≠ .select cs b)
    (hQ : ∀ c a w, Q (.panic c) (a.put oi.dst v) w → Q (.panic c) a w) (hm : M i = true) : ∀ (k : Nat) (listed : Array Bool) (a : Act) (w : World),
      (∀ j oj, ops[j]? = some oj → j ≠ i → listed.getD j true = false → (∀ e ∈ oj.after, Region.binds md e = true → e.on ≠ i) → oi.apart ops oj = true) →
      i ∈ Region.ready md ops listed → YieldsIf P ops (fun _ => True) oi v a →
      anyButM P md ops Q S M k (listed.setIfInBounds i true) (a.put oi.dst v) w → anyButM P md ops Q S M (k + 1) listed a w := by
  intro k
  induction k with
  | zero =>
    intro listed a w _ hr hy H
    refine ⟨fun h => (by rw [h] at hr; cases hr), fun j hj => ?_⟩
    by_cases hji : j = i
    · subst hji; exact hy.wpOp hi trivial ⟨fun h => (by rw [hm] at h; cases h), H⟩
    · have := ready_mono hj hji
      rw [H.1] at this
      cases this
  | succ k ih =>
    intro listed a w hfree hr hy H
    refine ⟨fun h => (by rw [h] at hr; cases hr), fun j hj => ?_⟩
    by_cases hji : j = i
    · subst hji; exact hy.wpOp hi trivial ⟨fun h => (by rw [hm] at h; cases h), H⟩
    · obtain ⟨hjun, oj, hoj, hall⟩ := mem_ready.1 hj
      have hnot : ∀ e ∈ oj.after, Region.binds md e = true → e.on ≠ i := fun e he hb heq => by
        have h1 := hall e he hb
        have h0 := (mem_ready.1 hr).1
        rw [heq] at h1
        rcases Nat.lt_or_ge i listed.size with h' | h'
        · simp [h'] at h0 h1; rw [h0] at h1; cases h1
        · simp [Array.getElem?_eq_none h'] at h1
      have h2 := wpOp_putIf hoj (hfree j oj hoj hji hjun hnot) (fun cs b => hsel i oi cs b hi) (fun cs b => hsel j oj cs b hoj) hQ hy (H.2 j (ready_mono hj hji))
      refine wpOp_mono (fun a' w' h3 => ⟨h3.2.1, ih (listed.setIfInBounds j true) a' w' (fun k ok hk hki hun hno => hfree k ok hk hki ?_ hno) (ready_mono hr (Ne.symm hji)) h3.1 ?_⟩) h2
      · by_cases hjk : j = k
        · subst hjk; exact hjun
        · rw [getD_set_ne true hjk] at hun; exact hun
      · rw [Array.setIfInBounds_comm _ _ hji]
        exact h3.2.2

theorem tkAM {ms : List Nat} (i : Nat) {oi : Oper} {v : Value} {k : Nat} {listed : Array Bool} {a : Act} {w : World} (hi : ops.toList[i]? = some oi) (hQ : ∀ c a w, Q (.panic c) (a.put oi.dst v) w → Q (.panic c) a w)
    (hc : (canTake md ops listed i && inM ms i) = true) (hw : Region.wanted oi (yielded ops a.tmps) = true) (hy : ∀ w, (execOp a.eval oi).run P w = .ok (.value v) w)
    (h : anyButM P md ops Q S (inM ms) k (listed.setIfInBounds i true) (a.put oi.dst v) w) : anyButM P md ops Q S (inM ms) (k + 1) listed a w := by
  simp only [canTake, Bool.and_eq_true] at hc
  have hi' : ops[i]? = some oi := by rw [← hi, Array.getElem?_toList]
  exact anyButM_firstA hi' (Region.noSelect_spec hc.1.1.1) hQ hc.2 k listed a w (Region.free_spec hi' hc.1.1.2) (by simpa using hc.1.2) (.inl ⟨hw, fun w _ => hy w⟩) h

theorem kAM {ms : List Nat} (i : Nat) {oi : Oper} {v : Value} {k : Nat} {listed : Array Bool} {a : Act} {w : World} (h : anyButM P md ops Q S (inM ms) k (listed.setIfInBounds i true) (a.put oi.dst v) w)
    (hi : ops.toList[i]? = some oi := by exact rfl) (hQ : ∀ c a w, Q (.panic c) (a.put oi.dst v) w → Q (.panic c) a w := by exact fun _ _ _ h => h) (hc : (canTake md ops listed i && inM ms i) = true := by decide +kernel) (hw : Region.wanted oi (yielded ops a.tmps) = true := by rfl) (hy : ∀ w, (execOp a.eval oi).run P w = .ok (.value v) w := by intro w; go_simp; try with_reducible rfl) : anyButM P md ops Q S (inM ms) (k + 1) listed a w :=
  tkAM i hi hQ hc hw hy h

theorem step_toM {i : Nat} {oi : Oper} {k : Nat} {listed : Array Bool} {a : Act} {w : World} (hi : ops.toList[i]? = some oi) (hw : Region.wanted oi (yielded ops a.tmps) = true)
    (h : ∀ K' : Act → World → Prop, Shut (∀ a w, (M i = false → S w) → ((M i = false → S w) → anyButM P md ops Q S M k (listed.setIfInBounds i true) a w) → K' a w) → oi.wp P a w K' Q) :
    wpOp P ops Q i (fun a' w' => (M i = false → S w') ∧ anyButM P md ops Q S M k (listed.setIfInBounds i true) a' w') a w := by
  refine wpOp_step (by rw [← hi, Array.getElem?_toList]) fun K' hK => ?_
  rw [if_pos hw]
  exact h K' fun a w hS hW => hK a w ⟨hS, hW hS⟩

/-- not of M -/
theorem spkM {ms : List Nat} (i : Nat) {oi : Oper} {k : Nat} {listed : Array Bool} {a : Act} {w : World} (hi : ops.toList[i]? = some oi) (hin : inM ms i = false)
    (hr : Region.ready md ops listed = [i]) (hw : Region.wanted oi (yielded ops a.tmps) = true)
    (h : ∀ K' : Act → World → Prop, Shut (∀ a w, S w → (S w → anyButM P md ops Q S (inM ms) k (listed.setIfInBounds i true) a w) → K' a w) → oi.wp P a w K' Q) : anyButM P md ops Q S (inM ms) (k + 1) listed a w := by
  refine ⟨fun h0 => (by rw [h0] at hr; cases hr), fun j hj => ?_⟩
  rw [hr] at hj
  obtain rfl := List.mem_singleton.1 hj
  exact step_toM hi hw fun K' hK => h K' fun a w hS hW => hK a w (fun _ => hS) (fun hS' => hW (hS' hin))

/-- of M -/
theorem spkLM {ms : List Nat} (i : Nat) {oi : Oper} {k : Nat} {listed : Array Bool} {a : Act} {w : World} (hi : ops.toList[i]? = some oi) (hin : inM ms i = true)
    (hr : Region.ready md ops listed = [i]) (hw : Region.wanted oi (yielded ops a.tmps) = true)
    (h : ∀ K' : Act → World → Prop, Shut (∀ a w, anyButM P md ops Q S (inM ms) k (listed.setIfInBounds i true) a w → K' a w) → oi.wp P a w K' Q) : anyButM P md ops Q S (inM ms) (k + 1) listed a w := by
  refine ⟨fun h0 => (by rw [h0] at hr; cases hr), fun j hj => ?_⟩
  rw [hr] at hj
  obtain rfl := List.mem_singleton.1 hj
  exact step_toM hi hw fun K' hK => h K' fun a w hW => hK a w (fun hf => by rw [hin] at hf; cases hf) (fun _ => hW)

theorem anyButM_done {listed : Array Bool} {a : Act} {w : World} (hr : Region.ready md ops listed = []) (h : Q .normal a w) : ∀ k, anyButM P md ops Q S M k listed a w
  | 0 => ⟨hr, h⟩
  | _ + 1 => ⟨fun _ => h, by rw [hr]; simp⟩

theorem region_goM {id : Nat} {a : Act} {w : World} (ms : List Nat) (S : World → Prop) (hm : P.follows .mixedOrders = true) (hS : S w.drew)
    (h : S w.drew → anyButM P .any ops Q S (inM ms) ops.size (Array.replicate ops.size false) a w.drew) : (Code.region id ops true).wp P Q a w :=
  wp_region_any hm (anyButM_any _ _ _ _ (h hS))
end

end Go.Proofs.Ytdcgooleiefljaa
