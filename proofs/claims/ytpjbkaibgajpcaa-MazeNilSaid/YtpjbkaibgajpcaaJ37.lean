/-
  graph's document: Bind, Link.
-/
import Derived.Test.YtpjbkaibgajpcaaJ18
namespace Go.Proofs.Ytpjbkaibgajpcaa
open Go.RowKit

def pairD (N : List Int) (a b : Int) : Int := if a = b then 1 else if a ∈ N ∧ b ∈ N then 0 else 6
def atE (E : Eg) (a b : Int) : Option Nat := E.findIdx? (isE (min a b) (max a b))

def bindD (N : List Int) (E : Eg) (a b : Int) : Int × Eg :=
  if pairD N a b ≠ 0 then (pairD N a b, E) else
  match atE E a b with
  | none => (0, E ++ [(min a b, max a b, true)])
  | some i => if (E[i]?.map (·.2.2)) = some true then (7, E) else (0, E.set i (min a b, max a b, true))

def linkD (N : List Int) (E : Eg) (a b : Int) : Int × Eg :=
  if pairD N a b ≠ 0 then (pairD N a b, E) else
  match atE E a b with
  | none => (0, E ++ [(min a b, max a b, false)])
  | some _ => (7, E)

def cutD (N : List Int) (E : Eg) (a b : Int) : Int × Eg :=
  if pairD N a b ≠ 0 then (pairD N a b, E) else
  match atE E a b with
  | none => (6, E)
  | some i => if (E[i]?.map (·.2.2)) = some true then (10, E) else (0, E.eraseIdx i)

theorem at_edge {E : Eg} {a b : Int} {i : Nat} (h : atE E a b = some i) : ∃ hi : i < E.length, E[i].1 = min a b ∧ E[i].2.1 = max a b := by
  obtain ⟨hi, h1, -⟩ := List.findIdx?_eq_some_iff_getElem.1 h
  simp only [isE, Bool.and_eq_true, decide_eq_true_eq] at h1
  exact ⟨hi, h1⟩

end Go.Proofs.Ytpjbkaibgajpcaa
