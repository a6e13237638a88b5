/-
  graph's document: a number more, in a list that rises.
-/
import Derived.Test.YtpjbkaibgajpcaaJ16
import Derived.Test.YtpjbkaibgajpcaaJ10
namespace Go.Proofs.Ytpjbkaibgajpcaa
open Go.RowKit

theorem SrcAt.cut {w : World} {b off m c s : Nat} {xs : List Value} (h : SrcAt w (some ⟨b, off, none⟩) m c s xs) (a k c' : Nat) (hk : a + k ≤ m) : SrcAt w (some ⟨b, off + a * s, none⟩) k c' s ((xs.drop (a * s)).take (k * s)) := by
  refine ⟨?_, by simp, fun ad hd j u hj => ?_⟩
  · have := h.len
    have h2 : (a + k) * s ≤ m * s := Nat.mul_le_mul_right _ hk
    rw [Nat.add_mul] at h2
    rw [List.length_take, List.length_drop]
    omega
  · obtain rfl := Option.some.inj hd
    rw [List.getElem?_take] at hj
    split at hj
    · rw [List.getElem?_drop] at hj
      have := h.cells _ rfl (a * s + j) u hj
      rw [Addr.add_lit] at this ⊢
      rwa [← Nat.add_assoc] at this
    · cases hj

theorem SrcAt.none (w : World) (p : Option Addr) (s : Nat) (hp : p = none ∨ ∃ a, p = some a) : SrcAt w p 0 0 s [] :=
  ⟨by simp, fun _ => ⟨rfl, rfl⟩, fun a _ j u hj => by simp at hj⟩

/-- in a list that rises -/
def putZ (l : List Int) (k : Int) : List Int := l.takeWhile (fun x => decide (x < k)) ++ k :: l.dropWhile (fun x => decide (x < k))

theorem putZ_length (l : List Int) (k : Int) : (putZ l k).length = l.length + 1 := by
  have := congrArg List.length (List.takeWhile_append_dropWhile (p := fun x => decide (x < k)) (l := l))
  simp only [List.length_append] at this
  simp only [putZ, List.length_append, List.length_cons]
  omega

/-- a list of numbers of the call's own -/
def NewL (w : World) (l : List Int) (e : Ending) (w' : World) : Prop :=
  ∃ v : Value, e = .returned v ∧ w'.ownsRow w.heap.size 22 1 v l.length (l.map (Value.int .u64)) ∧ Below w.heap.size w w'

end Go.Proofs.Ytpjbkaibgajpcaa
