/-
  graph's document: how it lies; is a number in a list.
-/
import Derived.Test.YtjnkiloomdeljaaJ02
import Derived.Test.YtjnkiloomdeljaaJ01
namespace Go.Proofs.Ytjnkiloomdeljaa
open Go.RowKit

abbrev Eg := List (Int × Int × Bool)

/-- the cells of edges -/
def flatE : Eg → List Value
  | [] => []
  | e :: E => .int .u64 e.1 :: .int .u64 e.2.1 :: .bool e.2.2 :: flatE E

theorem flatE_length (E : Eg) : (flatE E).length = E.length * 3 := by
  induction E with
  | nil => rfl
  | cons e E ih => simp [flatE, ih]; omega

theorem flatE_append (E F : Eg) : flatE (E ++ F) = flatE E ++ flatE F := by
  induction E with
  | nil => rfl
  | cons e E ih => simp [flatE, ih]

theorem flatE_get (E : Eg) (i : Nat) (hi : i < E.length) : (flatE E)[i * 3]? = some (.int .u64 E[i].1) ∧ (flatE E)[i * 3 + 1]? = some (.int .u64 E[i].2.1) ∧ (flatE E)[i * 3 + 2]? = some (.bool E[i].2.2) := by
  induction E generalizing i with
  | nil => simp at hi
  | cons e E ih =>
    cases i with
    | zero => simp [flatE]
    | succ i =>
      have := ih i (by simpa using hi)
      have e1 : (i + 1) * 3 = i * 3 + 1 + 1 + 1 := by omega
      have e2 : (i + 1) * 3 + 1 = (i * 3 + 1) + 1 + 1 + 1 := by omega
      have e3 : (i + 1) * 3 + 2 = (i * 3 + 2) + 1 + 1 + 1 := by omega
      rw [e3, e2, e1]
      simpa [flatE, List.getElem?_cons_succ] using this

theorem flatE_one (E : Eg) : ∀ u ∈ flatE E, u.oneCell' = true := by
  induction E with
  | nil => intro u hu; cases hu
  | cons e E ih =>
    intro u hu
    simp only [flatE, List.mem_cons] at hu
    rcases hu with rfl | rfl | rfl | hu
    · rfl
    · rfl
    · rfl
    · exact ih u hu

/-- the document's graph: its nodes N, its edges E -/
structure DGr (w : World) (B c : Nat) (N : List Int) (E : Eg) (vn ve : Value) : Prop where
  cell : w.heap[c]? = some (.cells #[vn, ve] 60 (0, 0))
  nodes : w.ownsRow B 37 1 vn N.length (N.map (Value.int .u64))
  edges : w.ownsRow B 96 3 ve E.length (flatE E)
  low : B ≤ c

theorem DGr.lt {w : World} {B c : Nat} {N : List Int} {E : Eg} {vn ve : Value} (h : DGr w B c N E vn ve) : c < w.heap.size := lt_block h.cell

theorem DGr.get0 {w : World} {B c : Nat} {N : List Int} {E : Eg} {vn ve : Value} (h : DGr w B c N E vn ve) : w.cell? ⟨c, 0, none⟩ = some vn := by simp [World.cell?, h.cell]
theorem DGr.get1 {w : World} {B c : Nat} {N : List Int} {E : Eg} {vn ve : Value} (h : DGr w B c N E vn ve) : w.cell? ⟨c, 1, none⟩ = some ve := by simp [World.cell?, h.cell]

/-- block j holds cells of the type T -/
def OfType (w : World) (T : TypeId) (j : Nat) : Prop := ∃ cs fr, w.heap[j]? = some (.cells cs T fr)

theorem own_type {w : World} {B e s n : Nat} {v : Value} {xs : List Value} (h : w.ownsRow B e s v n xs) {b : Nat} (hb : v.ownBlock = some b) : OfType w e b := by
  rcases h.2 with ⟨hv, -⟩ | ⟨g, cap, cur, hv, -, hg, -⟩
  · rw [hv] at hb; cases hb
  · rw [hv] at hb
    obtain rfl : g = b := by simpa [Value.ownBlock] using hb
    exact ⟨_, _, hg⟩

theorem OfType.ne {w : World} {T U : TypeId} {j : Nat} (h : OfType w T j) (g : OfType w U j) : T = U := by
  obtain ⟨cs, fr, h⟩ := h
  obtain ⟨ds, gr, g⟩ := g
  rw [h] at g
  cases g; rfl

theorem DGr.kept {w w' : World} {B c : Nat} {N : List Int} {E : Eg} {vn ve : Value} (h : DGr w B c N E vn ve) {F : Nat → Prop} (hm : Mod F w w') (h1 : ∀ j, B ≤ j → OfType w 60 j → ¬ F j) (h2 : ∀ j, B ≤ j → OfType w 37 j → ¬ F j) (h3 : ∀ j, B ≤ j → OfType w 96 j → ¬ F j) : DGr w' B c N E vn ve := by
  have own : ∀ {e s n : Nat} {v : Value} {xs : List Value}, w.ownsRow B e s v n xs → (∀ j, B ≤ j → OfType w e j → ¬ F j) → w'.ownsRow B e s v n xs := by
    intro e s n v xs ho hF
    obtain ⟨q1, q2 | ⟨g, cap, cur, hv, hb, hg, r⟩⟩ := ho
    · exact ⟨q1, .inl q2⟩
    · exact ⟨q1, .inr ⟨g, cap, cur, hv, hb, (hm.block g (lt_block hg) (hF g hb ⟨_, _, hg⟩)).trans hg, r⟩⟩
  exact ⟨(hm.block c h.lt (h1 c h.low ⟨_, _, h.cell⟩)).trans h.cell, own h.nodes h2, own h.edges h3, h.low⟩

theorem DGr.below {w w' : World} {B c : Nat} {N : List Int} {E : Eg} {vn ve : Value} (h : DGr w B c N E vn ve) (hb : Below w.heap.size w w') : DGr w' B c N E vn ve :=
  h.kept (F := fun _ => False) (Mod.of_below hb) (fun _ _ _ => id) (fun _ _ _ => id) (fun _ _ _ => id)

set_option maxHeartbeats 2000000 in
theorem dIs (w : World) (v : Value) (l : List Int) (k : Int) (h : Nums w .u64 v l) :
    Calls Try.prog 36 #[v, .int .u64 k] w fun e w' => e = .returned (.bool (decide (k ∈ l))) ∧ w = w' := by
  obtain ⟨p, cap, rfl, hcap, hbig, -, hc⟩ := h.slice
  have hl : l.length ≤ 9223372036854775807 := by omega
  have HC := Lib.hid hc
  clear hcap hbig h hc
  go_enter Try.func36, Try.ntmps36
  go_wp2_with fail
  go_loopg [9] l.length (fun q i wr => ∃ j : Nat, q = l.length - j ∧ j ≤ l.length ∧ i = .int .i64 j ∧ (∀ x ∈ l.take j, x ≠ k) ∧ wr = w)
  case atStart => exact ⟨0, rfl, by omega, rfl, by simp, rfl⟩
  case round =>
    obtain ⟨j, rfl, hj, rfl, hall, rfl⟩ := hrel
    have HA := Lib.hid hall
    clear hall
    by_cases hlt : j < l.length
    · obtain ⟨b, off, rfl, hcell⟩ := HC.out j hlt
      by_cases hx : l[j] = k
      · go_wp2_with fail
        go_ret
        exact ⟨ret_bool (by rw [decide_eq_true]; rw [← hx]; exact List.getElem_mem hlt), rfl⟩
      · have HX := Lib.hid hx
        go_wp2_with fail
        go_roundg (l.length - (j + 1))
        case measure => omega
        case rel => exact ⟨j + 1, rfl, by omega, by go_num, fun x hh => by
          rw [List.take_add_one, List.getElem?_eq_getElem hlt] at hh
          rcases List.mem_append.1 hh with h1 | h1
          · exact HA.out x h1
          · simp at h1; rw [h1]; exact HX.out, rfl⟩
    · go_wp2_with fail
      go_ret
      exact ⟨ret_bool (by
        have := HA.out
        rw [List.take_of_length_le (by omega)] at this
        rw [decide_eq_false]
        exact fun hm => this k hm rfl), rfl⟩

set_option maxHeartbeats 2000000 in
theorem dHas (w : World) (B c : Nat) (N : List Int) (E : Eg) (vn ve : Value) (k : Int) (h : DGr w B c N E vn ve) :
    Calls Try.prog 35 #[.pointer (some ⟨c, 0, none⟩), .int .u64 k] w fun e w' => e = .returned (.bool (decide (k ∈ N))) ∧ w = w' := by
  have hN : Nums w .u64 vn N := Nums.of_own h.nodes
  have c0 := h.get0
  obtain ⟨p, cap, rfl, hcap, hbig, -, hc⟩ := hN.slice
  have hl : N.length ≤ 9223372036854775807 := by omega
  have HC := Lib.hid hc
  clear hcap hbig h hc hN
  go_enter Try.func35, Try.ntmps35
  go_wp2_with fail
  go_loopg [14] N.length (fun q i wr => ∃ j : Nat, q = N.length - j ∧ j ≤ N.length ∧ i = .int .i64 j ∧ (∀ x ∈ N.take j, x ≠ k) ∧ wr = w)
  case atStart => exact ⟨0, rfl, by omega, rfl, by simp, rfl⟩
  case round =>
    obtain ⟨j, rfl, hj, rfl, hall, rfl⟩ := hrel
    have HA := Lib.hid hall
    clear hall
    by_cases hlt : j < N.length
    · obtain ⟨b, off, rfl, hcell⟩ := HC.out j hlt
      by_cases hx : N[j] = k
      · go_wp2_with fail
        go_ret
        exact ⟨ret_bool (by rw [decide_eq_true]; rw [← hx]; exact List.getElem_mem hlt), rfl⟩
      · have HX := Lib.hid hx
        go_wp2_with fail
        go_roundg (N.length - (j + 1))
        case measure => omega
        case rel => exact ⟨j + 1, rfl, by omega, by go_num, fun x hh => by
          rw [List.take_add_one, List.getElem?_eq_getElem hlt] at hh
          rcases List.mem_append.1 hh with h1 | h1
          · exact HA.out x h1
          · simp at h1; rw [h1]; exact HX.out, rfl⟩
    · go_wp2_with fail
      go_ret
      exact ⟨ret_bool (by
        have := HA.out
        rw [List.take_of_length_le (by omega)] at this
        rw [decide_eq_false]
        exact fun hm => this k hm rfl), rfl⟩

theorem dHas_nil (w : World) (k : Int) :
    Calls Try.prog 35 #[.pointer none, .int .u64 k] w fun e w' => e = .returned (.bool false) ∧ w = w' := by
  go_enter Try.func35, Try.ntmps35
  go_wp2_with fail
  go_ret
  exact ⟨rfl, rfl⟩

end Go.Proofs.Ytjnkiloomdeljaa
