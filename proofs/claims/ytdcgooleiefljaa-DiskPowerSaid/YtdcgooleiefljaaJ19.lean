/-
  disk: r1.Same of the same bytes.
-/
import Derived.Test.YtdcgooleiefljaaJ18
import Derived.Laws.BytesArg
namespace Go.Proofs.Ytdcgooleiefljaa
open Go.RowKit Go.ChangeMaps Go.Shelf

theorem conv_bytes (w : World) (v : Value) (l : List UInt8) (h : BytesAt w v l) : (convert 37 9 v).run Try.prog w = .ok (strV l) w := by
  obtain ⟨p, c, rfl, hs⟩ := h
  cases p with
  | none =>
    have h0 := (hs.nil rfl).1
    obtain rfl := List.eq_nil_of_length_eq_zero h0
    rw [run_convert_bytes_string w 37 9 5 none _ c Try.underlying37 Try.underlying5 Try.underlying9]
    rfl
  | some a =>
    exact run_convert_bytes_back w 37 9 5 a c l Try.underlying37 Try.underlying5 Try.underlying9 fun j hj => hs.cells a rfl j _ (by simp [List.getElem?_eq_getElem hj, encB])

theorem dkSame (w : World) (u v : Value) (l : List UInt8) (hu : BytesAt w u l) (hv : BytesAt w v l) :
    Calls Try.prog 19 #[u, v] w fun e w' => e = .returned (.bool true) ∧ w' = w := by
  have h1 := conv_bytes w u l hu
  have h2 := conv_bytes w v l hv
  obtain ⟨pu, cu, rfl, -⟩ := hu
  obtain ⟨pv, cv, rfl, -⟩ := hv
  unfold strV at h1 h2
  generalize (⟨l.toArray⟩ : ByteArray) = s at h1 h2
  go_enter Try.func19, Try.ntmps19
  go_wp2_with fail
  go_ret
  exact ⟨by simp, rfl⟩

end Go.Proofs.Ytdcgooleiefljaa
