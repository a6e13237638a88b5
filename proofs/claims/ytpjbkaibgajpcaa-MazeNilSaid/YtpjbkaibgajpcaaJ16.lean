/-
  best's document: all that it has, in order; a new one. Lists that are put together in no room.
  walk's document: the state of a walk in memory.
  walk's document: a node is seen.
  graph's document: how it lies; is a number in a list.
-/
import Derived.Test.YtpjbkaibgajpcaaJ15
import Derived.Test.YtpjbkaibgajpcaaJ04
import Derived.Test.YtpjbkaibgajpcaaJ10
import Derived.Test.YtpjbkaibgajpcaaJ14
import Derived.Deep.DeepCutAuto
import Derived.Test.YtpjbkaibgajpcaaJ01
namespace Go.Proofs.Ytpjbkaibgajpcaa
open Go.RowKit

end Go.Proofs.Ytpjbkaibgajpcaa

namespace Go.Proofs.Ytpjbkaibgajpcaa
open Go.RowKit

section
variable {kv : Value} {ks : List Int} {w0 w w' : World} {b c : Nat} {F : Nat → Prop} {most : Nat} {sv tv : Value} {L : List Hz} {S : List Int} {T : List Hz}

end

end Go.Proofs.Ytpjbkaibgajpcaa

namespace Go.Proofs.Ytpjbkaibgajpcaa
open Go.RowKit

def seeR (far : Int → Option Int) (most : Nat) (all : Bool) (s : Ws) (k : Int) : Ws :=
  match far k with
  | none => s
  | some d => if k ∈ s.S then s else if (hopeB most s.L (hitK k d) || all) = true then ⟨(addZ most s.L (hitK k d)).2, s.S ++ [k], s.T ++ [hitK k d]⟩ else ⟨s.L, s.S ++ [k], s.T⟩

/-- the same, but for the order of what is to be gone to -/
structure Like (s t : Ws) : Prop where
  best : s.L = t.L
  seen : s.S = t.S
  todo : s.T.Perm t.T

theorem Like.see {s t : Ws} (h : Like s t) (far : Int → Option Int) (most : Nat) (all : Bool) (k : Int) : Like (seeR far most all s k) (seeW far most all t k) := by
  obtain ⟨L, S, T⟩ := s
  obtain ⟨L', S', T'⟩ := t
  obtain ⟨rfl, rfl, hT⟩ := h
  simp only at hT
  unfold seeR seeW
  cases far k with
  | none => exact ⟨rfl, rfl, hT⟩
  | some d =>
    simp only
    split
    · exact ⟨rfl, rfl, hT⟩
    · split
      · refine ⟨rfl, rfl, ?_⟩
        exact (List.perm_append_singleton _ _).trans ((hT.cons _).trans (insD_perm _ _).symm)
      · exact ⟨rfl, rfl, hT⟩

end Go.Proofs.Ytpjbkaibgajpcaa

namespace Go.Proofs.Ytpjbkaibgajpcaa
open Go.RowKit

abbrev Eg := List (Int × Int × Bool)

/-- block j holds cells of the type T -/
def OfType (w : World) (T : TypeId) (j : Nat) : Prop := ∃ cs fr, w.heap[j]? = some (.cells cs T fr)

theorem own_type {w : World} {B e s n : Nat} {v : Value} {xs : List Value} (h : w.ownsRow B e s v n xs) {b : Nat} (hb : v.ownBlock = some b) : OfType w e b := by
  rcases h.2 with ⟨hv, -⟩ | ⟨g, cap, cur, hv, -, hg, -⟩
  · rw [hv] at hb; cases hb
  · rw [hv] at hb
    obtain rfl : g = b := by simpa [Value.ownBlock] using hb
    exact ⟨_, _, hg⟩

theorem OfType.ne {w : World} {T U : TypeId} {j : Nat} (h : OfType w T j) (g : OfType w U j) : T = U := by
  obtain ⟨cs, fr, h⟩ := h
  obtain ⟨ds, gr, g⟩ := g
  rw [h] at g
  cases g; rfl

end Go.Proofs.Ytpjbkaibgajpcaa
