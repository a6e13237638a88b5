/-
  chain's law: a chain's versions as the document's.
-/
import Derived.Test.YtpoophimfjfgkaaChainG
namespace Go.Proofs.Ytpoophimfjfgkaa
open Go.RowKit

/-- a new list of pairs, its vectors those that were there -/
def Shares (w : World) (F : Nat → Prop) (l : List (Int × List Int)) (e : Ending) (w' : World) : Prop := ∃ u, e = .returned u ∧ RecsF w' (Plus F w w') u l ∧ Below w.heap.size w w'

theorem rowRef : RowTy Try.prog 28 44 2 32 (.agg #[.int .u64 0, .slice none 0 0]) := ⟨Try.underlying28, by kernel_rfl, rfl, by decide⟩

theorem flat2_snoc (rs : List (Int × Value)) (x : Int) (u : Value) : flat2 (rs ++ [(x, u)]) = flat2 rs ++ (#[.int .u64 x, u] : Array Value).toList := by
  rw [flat2_append]; rfl

theorem Rows2.take {w : World} {F : Nat → Prop} {rs : List (Int × Value)} {l : List (Int × List Int)} (h : Rows2 w F rs l) (k : Nat) : Rows2 w F (rs.take k) (l.take k) := by
  refine ⟨by simp [h.len], fun i h1 h2 => ?_⟩
  rw [List.getElem_take, List.getElem_take]
  exact h.each i _ _

theorem Rows2.drop {w : World} {F : Nat → Prop} {rs : List (Int × Value)} {l : List (Int × List Int)} (h : Rows2 w F rs l) (k : Nat) : Rows2 w F (rs.drop k) (l.drop k) := by
  refine ⟨by simp [h.len], fun i h1 h2 => ?_⟩
  rw [List.getElem_drop, List.getElem_drop]
  exact h.each _ _ _

theorem rows_elem {w : World} {F : Nat → Prop} {p : Option Addr} {m c : Nat} {rs : List (Int × Value)} {l : List (Int × List Int)} (h : RecsF w F (.slice p m c) l) (hr : Rows2 w F rs l) (hs : SrcAt w p rs.length c 2 (flat2 rs)) {k : Nat} (hk : k < l.length) :
    ∃ (b off : Nat) (up : Option Addr) (uc : Nat) (hk' : k < rs.length), p = some ⟨b, off, none⟩ ∧ rs[k] = (l[k].1, .slice up l[k].2.length uc) ∧ w.cell? ⟨b, off + k * 2, none⟩ = some (.int .u64 l[k].1) ∧ w.cell? ⟨b, off + k * 2 + 1, none⟩ = some (.slice up l[k].2.length uc) := by
  have hlen := hr.len
  obtain ⟨b, off, u, rfl, -, c0, c1, -, -⟩ := h.elem hk
  have hf := flat2_get rs k (by omega)
  have d1 := hs.cells _ rfl _ _ hf.2
  have he := hr.each k (by omega) hk
  obtain ⟨up, uc, hu, -⟩ := he.2.1.slice
  rw [Addr.add_lit, ← Nat.add_assoc, c1] at d1
  obtain rfl := Option.some.inj d1
  exact ⟨b, off, up, uc, by omega, rfl, Prod.ext he.1 hu, c0, by rw [← hu]; exact c1⟩

theorem back (l : List (Int × List Int)) (v : Value) (F : Nat → Prop) (w : World) (h : RecsF w F v l) (hn : l.length ≤ 1000000) :
    Calls Try.prog 20 #[v] w (Shares w F l) := by
  obtain ⟨p, cap, rfl, hcap, hbig, -, -⟩ := id h
  obtain ⟨rs, hrs, hsrc⟩ := h.rows
  have H := Lib.hid h
  have R := Lib.hid hrs
  have S := Lib.hid hsrc
  have hlen := hrs.len
  clear h hcap hbig hrs hsrc
  go_enter Try.func20, Try.ntmps20
  go_wp2_with fail
  go_loopg [3, 8] l.length (fun q out i wr => ∃ k : Nat, q = l.length - k ∧ k ≤ l.length ∧ i = .int .i64 k ∧ wr.ownsRow w.heap.size 44 2 out k (flat2 (rs.take k)) ∧ Below w.heap.size w wr)
  case atStart => exact ⟨0, rfl, by omega, rfl, World.ownsRow_nil _ _ _ _, Below.refl _ _⟩
  case round =>
    obtain ⟨k, rfl, hk, rfl, hown, hb⟩ := hrel
    have O := Lib.hid (And.intro hown hb)
    have hsz := hb.size
    by_cases hlt : k < l.length
    · obtain ⟨b, off, up, uc, hkr, rfl, hrk, c0, c1⟩ := rows_elem H.out R.out S.out hlt
      replace c0 := below_cells hb c0
      replace c1 := below_cells hb c1
      have K := Lib.hid hrk
      clear hown hb hrk
      obtain ⟨g5, c5, w5, hrun, hown5, hg5, hat5, -⟩ := run_push rowRef (O.out.1.alloc (Obj.cells #[.int .u64 l[k].1, .slice up l[k].2.length uc] 41)) (by simp; omega) #[.int .u64 l[k].1, .slice up l[k].2.length uc] rfl (by simp [Value.oneCell']) (by simp [maxLen]; omega) (by omega)
      rw [show (wr.alloc (Obj.cells #[.int .u64 l[k].1, .slice up l[k].2.length uc] 41)).heap.size = wr.heap.size + 1 by simp] at hrun
      have F5 := Lib.hid (And.intro hown5 (((O.out.2.alloc hsz (Obj.cells #[.int .u64 l[k].1, .slice up l[k].2.length uc] 41)).alloc (by simp; omega) (Obj.cells #[.int .u64 l[k].1, .slice up l[k].2.length uc] 44)).grown hg5 (by simp; omega) (fun b hb => (O.out.1.lt b hb).1)))
      clear hown5 hg5 hat5
      go_wp2_with (refine wpList_append_eq hrun rfl _ _ rfl rfl rfl ?_)
      go_roundg (l.length - (k + 1))
      case measure => omega
      case rel => exact ⟨k + 1, rfl, by omega, by go_num, by rw [take_snoc rs k hkr, K.out, flat2_snoc]; exact F5.out.1, F5.out.2⟩
    · obtain rfl : l.length = k := by omega
      clear hown hb
      go_wp2_with fail
      go_ret
      refine ⟨_, rfl, ?_, O.out.2⟩
      have ho := O.out.1
      rw [← hlen, List.take_length] at ho
      exact ((R.out.below O.out.2).mono fun _ => .inl).recs ho fun b hb => .inr (ho.lt b hb)

end Go.Proofs.Ytpoophimfjfgkaa
