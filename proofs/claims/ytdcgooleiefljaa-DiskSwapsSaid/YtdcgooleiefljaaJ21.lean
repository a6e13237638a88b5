/-
  disk: bytes are cut; numbers are cut: new ones.
  disk: bytes that lie beside the disk; a law's state.
  disk's law: DiskSwaps.
-/
import Derived.Test.YtdcgooleiefljaaJ05
import Derived.Test.YtdcgooleiefljaaJ06
import Derived.Test.YtdcgooleiefljaaJ17
import Derived.Test.YtdcgooleiefljaaJ20
namespace Go.Proofs.Ytdcgooleiefljaa
open Go.RowKit

theorem infoU8 : (Try.prog.info? 5).map (fun i => (i.zero, i.size, i.bytes)) = some (some (.int .u8 0), 1, 1) := by kernel_rfl
theorem infoI64 : (Try.prog.info? 3).map (fun i => (i.zero, i.size, i.bytes)) = some (some (.int .i64 0), 1, 8) := by kernel_rfl
theorem rowU8 : RowTy Try.prog 37 5 1 1 (.int .u8 0) := ⟨Try.underlying37, infoU8, rfl, by decide⟩
theorem rowI64 : RowTy Try.prog 31 3 1 8 (.int .i64 0) := ⟨Try.underlying31, infoI64, rfl, by decide⟩

/-- a new slice of the call's own that reads as xs: the answer of a call that began in w -/
def NewNz (w : World) (k : IntKind) (e : Nat) (xs : List Int) (r : Ending) (w' : World) : Prop :=
  ∃ v, r = .returned v ∧ w'.ownsRow w.heap.size e 1 v xs.length (xs.map (Value.int k)) ∧ Below w.heap.size w w'

theorem intz_one {k : IntKind} {xs : List Int} : ∀ u ∈ xs.map (Value.int k), u.oneCell' = true := by
  intro u hu; obtain ⟨x, _, rfl⟩ := List.mem_map.1 hu; rfl

/-- the first m, behind a new block -/
theorem src_take {w : World} {k : IntKind} {p : Option Addr} {c : Nat} {xs : List Int} (h : Nums w k (.slice p xs.length c) xs) (m : Nat) (hm : m ≤ xs.length) (e : Nat) : SrcAt (w.alloc (.cells #[] e)) p m c 1 ((xs.take m).map (Value.int k)) := by
  have s0 := (SrcAt.of_nums h).below ((Below.refl _ w).alloc (Nat.le_refl _) (.cells #[] e))
  refine ⟨by simp; omega, fun hp => ?_, fun a ha j u hj => s0.cells a ha j u ?_⟩
  · obtain ⟨h1, h2⟩ := s0.nil hp
    exact ⟨by omega, h2⟩
  · rw [List.map_take, List.getElem?_take] at hj
    split at hj
    · exact hj
    · cases hj

theorem cutB (xs : List Int) (v : Value) (n : Int) (w : World) (h : Nums w .u8 v xs) (hn : 0 ≤ n) (hr : n ≤ 1000) :
    Calls Try.prog 13 #[v, .int .i64 n] w (NewNz w .u8 5 (xs.take n.toNat)) := by
  obtain ⟨p, cap, rfl, hcap, hbig, -, -⟩ := id h.slice
  obtain ⟨m, hm⟩ : ∃ m : Nat, (m : Int) = min (xs.length : Int) n := ⟨(min (xs.length : Int) n).toNat, by omega⟩
  have hmx : m ≤ xs.length := by omega
  have e1 : xs.take n.toNat = xs.take m := by
    by_cases h : xs.length ≤ n
    · rw [List.take_of_length_le (by omega), List.take_of_length_le (by omega)]
    · congr 1; omega
  rw [e1]
  have SRC := src_take h m hmx 5
  obtain ⟨q, k, c, w', hrun, hown, hg, -⟩ := run_app rowU8 (own_empty w w.heap.size 5 1 (Nat.le_refl _)) (by simp) SRC intz_one (by simp [maxLen]; omega) (by omega)
  obtain rfl : k = 0 + m := own_len hown
  have R := Lib.hid (And.intro hown (((Below.refl _ w).alloc (Nat.le_refl _) _).grown hg (by simp) (by simp [Value.ownBlock])))
  have hlen := Lib.hid (show (xs.take m).length = m from by simp; omega)
  have hmn : ∀ w : World, (Builtin.min_ #[3, 3] 3 #[.int .i64 xs.length, .int .i64 n]).run Try.prog w = .ok (.int .i64 m) w := by
    intro w
    simp [Builtin.min_, Builtin.min2, hm]
    split <;> omega
  have hm0 : (0 : Int) ≤ m ∧ (m : Int) ≤ cap := by omega
  have htn : ((m : Nat) : Int).toNat = m := Int.toNat_natCast _
  clear hown hg SRC e1 h hm hn hr
  go_enter Try.func13, Try.ntmps13
  go_wp2_with (with_reducible refine wpList_append_eq hrun rfl _ _ rfl rfl rfl ?_)
  go_ret
  exact ⟨_, rfl, by have := R.out.1; rw [hlen.out]; simpa using this, R.out.2⟩

theorem endsI (xs : List Int) (v : Value) (w : World) (h : Nums w .i64 v xs) :
    Calls Try.prog 17 #[v] w (NewNz w .i64 3 (xs.take 20)) := by
  obtain ⟨p, cap, rfl, hcap, hbig, -, -⟩ := id h.slice
  obtain ⟨m, hm⟩ : ∃ m : Nat, (m : Int) = min (xs.length : Int) 20 := ⟨(min (xs.length : Int) 20).toNat, by omega⟩
  have hmx : m ≤ xs.length := by omega
  have e1 : xs.take 20 = xs.take m := by
    by_cases h : xs.length ≤ 20
    · rw [List.take_of_length_le (by omega), List.take_of_length_le (by omega)]
    · congr 1; omega
  rw [e1]
  have SRC := src_take h m hmx 3
  obtain ⟨q, k, c, w', hrun, hown, hg, -⟩ := run_app rowI64 (own_empty w w.heap.size 3 1 (Nat.le_refl _)) (by simp) SRC intz_one (by simp [maxLen]; omega) (by omega)
  obtain rfl : k = 0 + m := own_len hown
  have R := Lib.hid (And.intro hown (((Below.refl _ w).alloc (Nat.le_refl _) _).grown hg (by simp) (by simp [Value.ownBlock])))
  have hlen := Lib.hid (show (xs.take m).length = m from by simp; omega)
  have hmn : ∀ w : World, (Builtin.min_ #[3, 3] 3 #[.int .i64 xs.length, .int .i64 20]).run Try.prog w = .ok (.int .i64 m) w := by
    intro w
    simp [Builtin.min_, Builtin.min2, hm]
    split <;> omega
  have hm0 : (0 : Int) ≤ m ∧ (m : Int) ≤ cap := by omega
  have htn : ((m : Nat) : Int).toNat = m := Int.toNat_natCast _
  clear hown hg SRC e1 h hm
  go_enter Try.func17, Try.ntmps17
  go_wp2_with (with_reducible refine wpList_append_eq hrun rfl _ _ rfl rfl rfl ?_)
  go_ret
  exact ⟨_, rfl, by have := R.out.1; rw [hlen.out]; simpa using this, R.out.2⟩

end Go.Proofs.Ytdcgooleiefljaa

namespace Go.Proofs.Ytdcgooleiefljaa
open Go.RowKit Go.ChangeMaps Go.Shelf

def toB (xs : List Int) : List UInt8 := xs.map fun x => UInt8.ofNat x.toNat

theorem toB_vals {xs : List Int} (h : ∀ x ∈ xs, 0 ≤ x ∧ x ≤ 255) : xs.map (Value.int .u8) = (toB xs).map encB := by
  unfold toB
  rw [List.map_map]
  refine List.map_congr_left fun x hx => ?_
  have := h x hx
  show Value.int .u8 x = .int .u8 _
  rw [← nat_of_byte (z := x) (by omega) rfl]

theorem cutBytes (xs : List Int) (v : Value) (n : Int) (w : World) (h : Nums w .u8 v xs) (hx : ∀ x ∈ xs, 0 ≤ x ∧ x ≤ 255) (hn : 0 ≤ n ∧ n ≤ 1000) :
    Calls Try.prog 13 #[v, .int .i64 n] w fun e w' => ∃ u, e = .returned u ∧ w'.ownsRow w.heap.size 5 1 u (toB (xs.take n.toNat)).length ((toB (xs.take n.toNat)).map encB) ∧ Below w.heap.size w w' := by
  refine (cutB xs v n w h hn.1 hn.2).mono ?_
  rintro e w' ⟨u, rfl, hu, hb⟩
  refine ⟨u, rfl, ?_, hb⟩
  rw [toB_vals (fun x hx' => hx x (List.mem_of_mem_take hx'))] at hu
  have e : (xs.take n.toNat).length = (toB (xs.take n.toNat)).length := by simp [toB]
  rwa [e] at hu

theorem wfs_u8 {xs : List Int} (h : ∀ x ∈ xs, (Lit.int .u8 x).wf = true) : ∀ x ∈ xs, 0 ≤ x ∧ x ≤ 255 := fun x hx => by
  have := h x hx
  simp [Lit.wf, IntKind.min, IntKind.max, IntKind.signed, IntKind.bits] at this
  exact this

theorem wfs_i64 {xs : List Int} (h : ∀ x ∈ xs, (Lit.int .i64 x).wf = true) : ∀ x ∈ xs, -9223372036854775808 ≤ x ∧ x ≤ 9223372036854775807 := fun x hx => by
  have := h x hx
  simp [Lit.wf, IntKind.min, IntKind.max, IntKind.signed, IntKind.bits] at this
  exact this

/-- a row that lies beside the disk -/
structure Beside (w : World) (p m : Nat) (F : List Fz) (v : Value) (l : List UInt8) : Prop where
  row : ∃ B, w.ownsRow B 5 1 v l.length (l.map encB)
  out : ∀ j, v.ownBlock = some j → ¬ DkF p m F j

theorem Beside.step {w w' : World} {p m : Nat} {F F' : List Fz} {v : Value} {l : List UInt8} (h : Beside w p m F v l) (hs : DkStep w w' p m F F') : Beside w' p m F' v l := by
  obtain ⟨⟨B, hr⟩, ho⟩ := h
  refine ⟨⟨B, own_agree hr fun k hk => hs.1.block k (hr.lt k hk).2 (ho k hk)⟩, fun j hj hF => ?_⟩
  rcases hs.2 j hF with h1 | h1
  · exact ho j hj h1
  · have := (hr.lt j hj).2
    omega

theorem Beside.below {w w' : World} {p m : Nat} {F : List Fz} {v : Value} {l : List UInt8} (h : Beside w p m F v l) (hb : Below w.heap.size w w') : Beside w' p m F v l := h.step (DkStep.below p m F hb)

/-- what is new is beside -/
theorem Beside.new {w w' : World} {B p m : Nat} {left : Int} {down : Bool} {room : Int} {F : List Fz} (h : DkAt w B p m left down room F) {v : Value} {l : List UInt8} (hr : w'.ownsRow w.heap.size 5 1 v l.length (l.map encB)) : Beside w' p m F v l :=
  ⟨⟨_, hr⟩, fun j hj hF => by have := (hr.lt j hj).1; have := (h.lt j hF).2; omega⟩

theorem Beside.bytes {w : World} {p m : Nat} {F : List Fz} {v : Value} {l : List UInt8} (h : Beside w p m F v l) : BytesAt w v l := by
  obtain ⟨⟨B, hr⟩, -⟩ := h
  obtain ⟨q, n, c, rfl⟩ := own_form hr
  obtain rfl : n = l.length := own_len hr
  exact ⟨_, _, rfl, SrcAt.of_own hr⟩

theorem holds_of_bytes {w : World} {v : Value} {l : List UInt8} (h : BytesAt w v l) : Lib.HoldsBytes w v l := by
  obtain ⟨p, c, rfl, hs⟩ := h
  refine ⟨p, c, rfl, fun hp => ?_, fun a ha i x hi => ?_⟩
  · exact List.eq_nil_of_length_eq_zero (hs.nil hp).1
  · exact hs.cells a ha i _ (by simp [hi, encB])

/-- what a Write of one part takes -/
theorem Beside.part {w W1 W : World} {p m : Nat} {F : List Fz} {v : Value} {l : List UInt8} (h : Beside w p m F v l) (hW1 : W1 = w.alloc (.cells #[v] 37)) (hp : p < w.heap.size) (hM : Mod (fun j => j = p) W1 W) : Parts W (.slice (some ⟨w.heap.size, 0, none⟩) 1 1) [l] := by
  have hb : Below w.heap.size w W1 := by rw [hW1]; exact (Below.refl _ w).alloc (Nat.le_refl _) _
  have h1 := h.below hb
  have hh : W1.heap[w.heap.size]? = some (.cells #[v] 37 (0, 0)) := by rw [hW1]; exact heap_alloc_new _ _
  have k0 := (hM.block w.heap.size (lt_block hh) (by omega)).trans hh
  have h2 := h1.step (DkStep.power p m F hM)
  refine ⟨[v], lit_reads (us := [v]) k0 (by simp), fun i u l' hu hl => ?_⟩
  match i, hu, hl with
  | 0, hu, hl =>
    simp at hu hl
    subst hu; subst hl
    exact holds_of_bytes h2.bytes
  | i + 1, hu, _ => simp at hu

/-- the disk of a law -/
structure DS (w0 w : World) (B p m : Nat) (left : Int) (down : Bool) (room : Int) (F : List Fz) (S : List (List UInt8 × List UInt8 × Nat)) : Prop where
  at_ : DkAt w B p m left down room F
  pl : F.map plain = S
  low : w0.heap.size ≤ B
  old : Below w0.heap.size w0 w

theorem DS.step {w0 w w' : World} {B p m : Nat} {left left' : Int} {down down' : Bool} {room : Int} {F F' : List Fz} {S S' : List (List UInt8 × List UInt8 × Nat)} (h : DS w0 w B p m left down room F S) (hs : DkStep w w' p m F F') (hD : DkAt w' B p m left' down' room F') (hp : F'.map plain = S') : DS w0 w' B p m left' down' room F' S' :=
  ⟨hD, hp, h.low, h.old.trans ((hs.base h.at_).mono h.low)⟩

theorem DS.below {w0 w w' : World} {B p m : Nat} {left : Int} {down : Bool} {room : Int} {F : List Fz} {S : List (List UInt8 × List UInt8 × Nat)} (h : DS w0 w B p m left down room F S) (hb : Below w.heap.size w w') : DS w0 w' B p m left down room F S :=
  ⟨h.at_.below hb, h.pl, h.low, h.old.trans (hb.mono h.old.size)⟩

theorem DS.used {w0 w : World} {B p m : Nat} {left : Int} {down : Bool} {room : Int} {F : List Fz} {S : List (List UInt8 × List UInt8 × Nat)} (h : DS w0 w B p m left down room F S) : usedF F = (S.map (·.2.1.length)).sum := by
  rw [used_plain, h.pl]

theorem DS.plt {w0 w : World} {B p m : Nat} {left : Int} {down : Bool} {room : Int} {F : List Fz} {S : List (List UInt8 × List UInt8 × Nat)} (h : DS w0 w B p m left down room F S) : p < w.heap.size := (h.at_.lt p (.inl rfl)).2

/-- one part is written, the power is not armed -/
theorem dkWriteB {w0 w W1 : World} {B p m : Nat} {room : Int} {F : List Fz} {S : List (List UInt8 × List UInt8 × Nat)} (h : DS w0 w B p m (-1) false room F S) {v : Value} {l : List UInt8} (hb : Beside w p m F v l) (hl : l.length ≤ 1000000) (hu : (S.map (·.2.1.length)).sum ≤ 1000000) (hW1 : W1 = w.alloc (.cells #[v] 37)) (name : List UInt8)
    {z : Int} {S' : List (List UInt8 × List UInt8 × Nat)} (hz : writeZ room S (S.map (·.2.1.length)).sum name l = (z, S')) :
    Calls Try.prog 10 #[.pointer (some ⟨p, 0, none⟩), strV name, .slice (some ⟨w.heap.size, 0, none⟩) 1 1] W1 fun e w' => e = .returned (.int .i64 z) ∧ ∃ F', DS w0 w' B p m (-1) false room F' S' ∧ DkStep w w' p m F F' := by
  have hbW : Below w.heap.size w W1 := by rw [hW1]; exact (Below.refl _ w).alloc (Nat.le_refl _) _
  have hU := h.used
  refine (dkWrite W1 B p m (-1) false room F (h.at_.below hbW) (by omega) name _ [l] (fun W hM => hb.part hW1 h.plt hM) (by simp [Lib.lens]; omega) (by simp) (by omega)).mono ?_
  rw [spend_free]
  simp only [if_true, h.pl, hU, List.flatten_cons, List.flatten_nil, List.append_nil, hz]
  rintro e w' ⟨rfl, F', hp, hD, hS⟩
  have hs := (DkStep.below p m F hbW).trans hS
  exact ⟨rfl, F', h.step hs hD hp, hs⟩

end Go.Proofs.Ytdcgooleiefljaa

namespace Go.Proofs.Ytdcgooleiefljaa
open Go.RowKit Go.ChangeMaps Go.Shelf

section
variable (la lb ll : List UInt8)

theorem sw1 (h : la.length ≤ 100) : writeZ 5000 [] (([] : List (List UInt8 × List UInt8 × Nat)).map (·.2.1.length)).sum [97] la = (0, [([97], la, 0)]) := by
  unfold writeZ
  rw [right_a, if_neg (by simp), if_neg (by simp; omega)]
  rfl

theorem sw2 (h : la.length ≤ 100) (g : lb.length ≤ 100) : writeZ 5000 [([97], la, 0)] (([([97], la, 0)] : List (List UInt8 × List UInt8 × Nat)).map (·.2.1.length)).sum [98] lb = (0, [([97], la, 0), ([98], lb, 0)]) := by
  unfold writeZ
  rw [right_b, if_neg (by simp), if_neg (by simp; omega)]
  rfl

theorem sw3 : thereZ [([97], la, 0), ([98], lb, 0)] [[97], [98]] = true := by
  simp [thereZ]

theorem sw4 : firmS [([97], la, 0), ([98], lb, 0)] [[97], [98]] = [([97], la, la.length), ([98], lb, lb.length)] := by
  simp [firmS, firm1]

theorem sw5 (h : la.length ≤ 100) (g : lb.length ≤ 100) (k : ll.length ≤ 100) : writeZ 5000 [([97], la, la.length), ([98], lb, lb.length)] (([([97], la, la.length), ([98], lb, lb.length)] : List (List UInt8 × List UInt8 × Nat)).map (·.2.1.length)).sum [97] ll = (0, [([97], la ++ ll, la.length), ([98], lb, lb.length)]) := by
  unfold writeZ
  rw [right_a, if_neg (by simp), if_neg (by simp; omega)]
  simp [addF]

theorem sw6 {z : Int} {S' : List (List UInt8 × List UInt8 × Nat)} (h : swapZ [([97], la ++ ll, la.length), ([98], lb, lb.length)] [97] [98] z S') : z = 0 ∧ S' = [([98], la, la.length)] := by
  unfold swapZ at h
  rw [right_b, if_neg (by simp), if_neg (by simp)] at h
  obtain ⟨rfl, s, hs, hn, rfl⟩ := h
  simp only [List.mem_cons, List.not_mem_nil, or_false] at hs
  rcases hs with rfl | rfl
  · exact ⟨rfl, by simp [putS]⟩
  · simp at hn

theorem sw7 (keep : List Int) : crashS [([98], la, la.length)] [[98]] keep 1 = [([98], la, la.length)] := by
  have e : crashK (keep.getD 0 0) ([98], la, la.length) = la.length := by
    have := crashK_le (keep.getD 0 0) ([98], la, la.length) (Nat.le_refl _)
    simp only at this
    omega
  simp only [crashS, List.map_cons, List.map_nil, List.getD_cons_zero]
  rw [crash1, if_pos rfl, e]
  simp
end

set_option maxRecDepth 100000 in
set_option maxHeartbeats 8000000 in
theorem diskSwaps (xa xb xl xk : List Int) (va vb vl vk : Value) (w : World) (ha : Nums w .u8 va xa) (hb : Nums w .u8 vb xb) (hl : Nums w .u8 vl xl) (hk : Nums w .i64 vk xk)
    (ra : ∀ x ∈ xa, 0 ≤ x ∧ x ≤ 255) (rb : ∀ x ∈ xb, 0 ≤ x ∧ x ≤ 255) (rl : ∀ x ∈ xl, 0 ≤ x ∧ x ≤ 255) (rk : ∀ x ∈ xk, -9223372036854775808 ≤ x ∧ x ≤ 9223372036854775807) :
    Calls Try.prog 4 #[va, vb, vl, vk] w fun e w' => e = .returned (.bool true) ∧ Below w.heap.size w w' := by
  have A := Lib.hid (And.intro ha (And.intro hb (And.intro hl hk)))
  obtain ⟨pa, na, rfl, -⟩ := ha.slice
  obtain ⟨pb, nb, rfl, -⟩ := hb.slice
  obtain ⟨pl, nl, rfl, -⟩ := hl.slice
  obtain ⟨pk, nk, rfl, -⟩ := hk.slice
  obtain ⟨la, hla⟩ : ∃ la, la = toB (xa.take 100) := ⟨_, rfl⟩
  obtain ⟨lb, hlb⟩ : ∃ lb, lb = toB (xb.take 100) := ⟨_, rfl⟩
  obtain ⟨ll, hll⟩ : ∃ ll, ll = toB (xl.take 100) := ⟨_, rfl⟩
  have L := Lib.hid (show la.length ≤ 100 ∧ lb.length ≤ 100 ∧ ll.length ≤ 100 from by
    rw [hla, hlb, hll]
    simp only [toB, List.length_map, List.length_take]
    omega)
  have E := Lib.hid (And.intro hla (And.intro hlb hll))
  have R := Lib.hid (And.intro ra (And.intro rb (And.intro rl rk)))
  clear ha hb hl hk hla hlb hll ra rb rl rk
  go_enter Try.func4, Try.ntmps4
  go_wp2_with (go_at_call 6; refine (dkAwake w).mono ?_; rintro e w1 ⟨rfl, hb1⟩; have B1 := Lib.hid hb1; clear hb1)
  go_wp2_with (go_at_call 7; refine (dkNew w1 5000 (by omega)).mono ?_; rintro e w2 ⟨p, m, rfl, hD, hb2⟩; have D2 := Lib.hid (show DS w w2 w1.heap.size p m (-1) false 5000 [] [] from ⟨hD, rfl, B1.out.size, B1.out.trans (hb2.mono B1.out.size)⟩); have B2 := Lib.hid (B1.out.trans (hb2.mono B1.out.size)); clear hD hb2)
  -- Cut
  go_wp2_with (go_at_call 13; (with_reducible refine (cutBytes xa _ 100 w2 (A.out.1.below B2.out) R.out.1 (by omega)).mono ?_); rintro e w3 ⟨u3, rfl, hu, hb⟩; rw [show toB (xa.take (100 : Int).toNat) = la from E.out.1.symm] at hu; obtain ⟨qa, na, ca, rfl⟩ := own_form hu; obtain rfl : na = la.length := own_len hu; have B3 := Lib.hid (B2.out.trans (hb.mono B2.out.size)); have D3 := Lib.hid (D2.out.below hb); have V3 := Lib.hid (Beside.new D2.out.at_ hu); clear hu hb)
  go_wp2_with (go_at_call 13; (with_reducible refine (cutBytes xb _ 100 w3 (A.out.2.1.below B3.out) R.out.2.1 (by omega)).mono ?_); rintro e w4 ⟨u4, rfl, hu, hb⟩; rw [show toB (xb.take (100 : Int).toNat) = lb from E.out.2.1.symm] at hu; obtain ⟨qb, nb, cb, rfl⟩ := own_form hu; obtain rfl : nb = lb.length := own_len hu; have B4 := Lib.hid (B3.out.trans (hb.mono B3.out.size)); have D4 := Lib.hid (D3.out.below hb); have V4 := Lib.hid (And.intro (V3.out.below hb) (Beside.new D3.out.at_ hu)); clear hu hb)
  go_wp2_with (go_at_call 13; (with_reducible refine (cutBytes xl _ 100 w4 (A.out.2.2.1.below B4.out) R.out.2.2.1 (by omega)).mono ?_); rintro e w5 ⟨u5, rfl, hu, hb⟩; rw [show toB (xl.take (100 : Int).toNat) = ll from E.out.2.2.symm] at hu; obtain ⟨ql, nl, cl, rfl⟩ := own_form hu; obtain rfl : nl = ll.length := own_len hu; have B5 := Lib.hid (B4.out.trans (hb.mono B4.out.size)); have D5 := Lib.hid (D4.out.below hb); have V5 := Lib.hid (And.intro (V4.out.1.below hb) (And.intro (V4.out.2.below hb) (Beside.new D4.out.at_ hu))); clear hu hb)
  have Ua := Lib.hid (V5.out.1)
  have Ub := Lib.hid (V5.out.2.1)
  have Ul := Lib.hid (V5.out.2.2)
  clear V5 V4 V3
  -- Write "a"
  obtain ⟨W5, hW5⟩ : ∃ W, W = w5.alloc (.cells #[.slice qa la.length ca] 37) := ⟨_, rfl⟩
  have c5 := Lib.hid (dkWriteB D5.out Ua.out (by have := L.out.1; omega) (by simp) hW5 [97] (sw1 la L.out.1))
  have HW5 := Lib.hid hW5
  clear hW5
  go_wp2_with (go_at_call 10; rw [← HW5.out]; refine c5.out.mono ?_; rintro e w6 ⟨rfl, F6, hD, hS⟩; have D6 := Lib.hid hD; have Va6 := Lib.hid (Ua.out.step hS); have Vb6 := Lib.hid (Ub.out.step hS); have Vl6 := Lib.hid (Ul.out.step hS); clear hD hS)
  -- Write "b"
  obtain ⟨W6, hW6⟩ : ∃ W, W = w6.alloc (.cells #[.slice qb lb.length cb] 37) := ⟨_, rfl⟩
  have c6 := Lib.hid (dkWriteB D6.out Vb6.out (by have := L.out.2.1; omega) (by have := L.out.1; simp; omega) hW6 [98] (sw2 la lb L.out.1 L.out.2.1))
  have HW6 := Lib.hid hW6
  clear hW6
  go_wp2_with (go_at_call 10; rw [← HW6.out]; refine c6.out.mono ?_; rintro e w7 ⟨rfl, F7, hD, hS⟩; have D7 := Lib.hid hD; have Va7 := Lib.hid (Va6.out.step hS); have Vl7 := Lib.hid (Vl6.out.step hS); clear hD hS)
  -- Firm
  obtain ⟨W7, hW7⟩ : ∃ W, W = w7.alloc (.cells #[.string ⟨#[97]⟩, .string ⟨#[98]⟩] 9) := ⟨_, rfl⟩
  have hb7 : Below w7.heap.size w7 W7 := by rw [hW7]; exact (Below.refl _ w7).alloc (Nat.le_refl _) _
  have hh : W7.heap[w7.heap.size]? = some (.cells #[.string ⟨#[97]⟩, .string ⟨#[98]⟩] 9 (0, 0)) := by rw [hW7]; exact heap_alloc_new _ _
  have hpl := D7.out.plt
  have hNa : ∀ W, Mod (fun j => j = p) W7 W → Strs W (.slice (some ⟨w7.heap.size, 0, none⟩) 2 2) [[97], [98]] := by
    intro W hM
    have k0 := (hM.block w7.heap.size (lt_block hh) (by omega)).trans hh
    exact lit_reads (us := [strV [97], strV [98]]) k0 (by simp)
  have D7b := Lib.hid (D7.out.below hb7)
  have c7 := dkFirm W7 _ p m (-1) false 5000 F7 D7b.out.at_ (by omega) _ [[97], [98]] hNa
  rw [spend_free, D7.out.pl, sw3, sw4] at c7
  have C7 := Lib.hid c7
  have B7 := Lib.hid hb7
  have HW7 := Lib.hid hW7
  clear hW7 hb7 hh hpl hNa c7
  go_wp2_with (go_at_call 14; rw [← HW7.out]; refine C7.out.mono ?_; rintro e w8 ⟨rfl, F8, hp, hD, hS⟩; have D8 := Lib.hid (D7b.out.step hS hD hp); have Va8 := Lib.hid ((Va7.out.below B7.out).step hS); have Vl8 := Lib.hid ((Vl7.out.below B7.out).step hS); clear hp hD hS)
  -- Write "a", loose
  obtain ⟨W8, hW8⟩ : ∃ W, W = w8.alloc (.cells #[.slice ql ll.length cl] 37) := ⟨_, rfl⟩
  have c8 := Lib.hid (dkWriteB D8.out Vl8.out (by have := L.out.2.2; omega) (by have := L.out.1; have := L.out.2.1; simp; omega) hW8 [97] (sw5 la lb ll L.out.1 L.out.2.1 L.out.2.2))
  have HW8 := Lib.hid hW8
  clear hW8
  go_wp2_with (go_at_call 10; rw [← HW8.out]; refine c8.out.mono ?_; rintro e w9 ⟨rfl, F9, hD, hS⟩; have D9 := Lib.hid hD; have Va9 := Lib.hid (Va8.out.step hS); clear hD hS)
  -- Swap
  have c9 := Lib.hid (dkSwap w9 _ p m (-1) false 5000 F9 D9.out.at_ (by omega) [97] [98] (fun f hf => by
    have h1 := D9.out.used
    have h2 : f.bytes.length ≤ usedF F9 := by
      obtain ⟨G1, G2, rfl⟩ := List.append_of_mem hf
      rw [usedF_mid]; omega
    have := L.out.1; have := L.out.2.1; have := L.out.2.2
    simp at h1
    omega))
  go_wp2_with (go_at_call 15; refine c9.out.mono ?_; rintro e w10 ⟨z, rfl, F10, hz, hD, hS⟩; rw [spend_free, if_pos rfl, D9.out.pl] at hz; obtain ⟨rfl, hp⟩ := sw6 la lb ll hz; rw [spend_free] at hD; have D10 := Lib.hid (D9.out.step hS hD hp); have Va10 := Lib.hid (Va9.out.step hS); clear hz hp hD hS)
  -- Ends
  have hk := A.out.2.2.2.below D10.out.old
  have K := Lib.hid (endsI xk _ w10 hk)
  go_wp2_with (go_at_call 17; refine K.out.mono ?_; rintro e w11 ⟨vk, rfl, hv, hb⟩; obtain ⟨qk, mk, ck, rfl⟩ := own_form hv; have D11 := Lib.hid (D10.out.below hb); have Va11 := Lib.hid (Va10.out.below hb); have K11 := Lib.hid (And.intro hv hb); clear hv hb)
  -- Crash
  have hl11 : F10.length = 1 := by have := congrArg List.length D11.out.pl; simpa using this
  have hu11 : usedF F10 = la.length := by have := D11.out.used; simpa using this
  have c11 := Lib.hid (dkCrash w11 _ p m (-1) false 5000 F10 D11.out.at_ (by omega) (by have := L.out.1; omega) (.slice qk mk ck) (xk.take 20) (fun W F' hS => Nums.of_own (own_agree K11.out.1 fun j hj => hS.1.block j (K11.out.1.lt j hj).2 fun hF => by
    have h1 := (K11.out.1.lt j hj).1
    have h2 := (D10.out.at_.lt j hF).2
    omega)) (fun x hx => R.out.2.2.2 x (List.mem_of_mem_take hx)))
  have NM : F10.map (·.name) = [[98]] := by
    have := congrArg (List.map (·.1)) D11.out.pl
    simpa [plain, Function.comp_def] using this
  have NM' := Lib.hid NM
  clear NM hl11 hu11 hk
  go_wp2_with (go_at_call 16; refine c11.out.mono ?_; rintro e w12 ⟨rfl, ns, F12, hns, hF, hD, hS⟩; have N12 := Lib.hid (And.intro hns (And.intro hF (And.intro hD hS))); clear hns hF hD hS)
  have hns : ns = [[98]] := List.perm_singleton.1 (by have := N12.out.1; rwa [NM'.out] at this)
  have hp12 : F12.map plain = [([98], la, la.length)] := by
    have := N12.out.2.1
    rw [hns, D11.out.pl] at this
    rw [this]
    exact sw7 la _
  have D12 := Lib.hid (D11.out.step N12.out.2.2.2 N12.out.2.2.1 hp12)
  have Va12 := Lib.hid (Va11.out.step N12.out.2.2.2)
  obtain ⟨f, rfl, hfn, hfb, -⟩ := plain_one hp12
  clear hns hp12
  -- Read
  have cR := dkRead w12 _ p m (-1) 5000 [f] f D12.out.at_ (by simp) (by rw [hfb]; have := L.out.1; omega)
  rw [hfn, hfb] at cR
  have cR' := Lib.hid (show Calls Try.prog 18 #[.pointer (some ⟨p, 0, none⟩), .string ⟨#[98]⟩] w12 _ from cR)
  clear cR
  go_wp2_with (go_at_call 18; (with_reducible refine cR'.out.mono ?_); rintro e w13 ⟨u, rfl, hu, hb⟩; obtain ⟨qu, nu, cu, rfl⟩ := own_form hu; obtain rfl : nu = la.length := own_len hu; have D13 := Lib.hid (D12.out.below hb); have U13 := Lib.hid (Beside.new D12.out.at_ hu); have Va13 := Lib.hid (Va12.out.below hb); clear hu hb)
  have cN := Lib.hid (dkRead_none w13 _ p m (-1) 5000 [f] D13.out.at_ [97] (by simp [inF, hfn]))
  go_wp2_with (go_at_call 18; refine cN.out.mono ?_; rintro e w14 ⟨rfl, rfl⟩)
  have cS := Lib.hid (dkSame w14 (.slice qu la.length cu) (.slice qa la.length ca) la U13.out.bytes Va13.out.bytes)
  have hU : usedF [f] = la.length := by have := D13.out.used; simpa using this
  have cU := dkUsed w14 _ p m (-1) false 5000 [f] D13.out.at_ (by have := L.out.1; omega)
  rw [hU] at cU
  have cU' := Lib.hid cU
  clear cU hU hfn hfb
  go_wp2_with (first
    | (go_at_call 19; refine cS.out.mono ?_; rintro e w15 ⟨rfl, rfl⟩)
    | (go_at_call 9; refine cU'.out.mono ?_; rintro e w16 ⟨rfl, hb⟩; have B16 := Lib.hid hb; clear hb))
  go_ret
  exact ⟨rfl, D13.out.old.trans (B16.out.mono D13.out.old.size)⟩

end Go.Proofs.Ytdcgooleiefljaa
