/-
  slices.Sort at uint64: math/bits.Len64, Len.
-/
import Derived.Test.YtpjbkaibgajpcaaJ01
import Derived.Lib.Strings
import Derived.Lib.Slices
import Derived.Lib.Small
import Derived.Lib.Walk
import Derived.Lib.BitFns
namespace Go.Proofs.Ytpjbkaibgajpcaa
open Go.RowKit

theorem tab8 (b : Int) (h0 : 0 ≤ b) (h1 : b < 256) (h : b.toNat < Lib.len8tab.size) : ((Lib.len8tab[b.toNat]'h).toNat : Int) = (Lib.bitLen b.toNat : Int) := by
  rw [← Lib.len8_of b h0 (by omega)]
  simp only [Lib.len8, ByteArray.getElem?_lt' _ _ h, Option.getD_some]

theorem wq (k : Nat) (K : Int) (hK : K = k) (hk : k ≤ 56) (q : Nat) (l : q ≤ 8) : wrap64 (K + wrap64 (q : Int)) = ((k + q : Nat) : Int) := by
  unfold wrap64
  omega

theorem w0 (q : Nat) (l : q ≤ 8) : wrap64 (wrap64 (q : Int)) = (q : Int) := by
  unfold wrap64
  omega

set_option maxHeartbeats 4000000 in
set_option maxRecDepth 100000 in
theorem srt_bits_Len64 (x : Int) (w : World) (h0 : 0 ≤ x) (h1 : x ≤ 18446744073709551615) :
    Calls Try.prog 72 #[.int .u64 x] w fun e w' => e = .returned (.int .i64 (Lib.bitLen x.toNat)) ∧ w' = w := by
  have hz : Lib.len8tab.size = 256 := by decide +kernel
  go_enter Try.func72, Try.ntmps72
  go_wp2
  all_goals (go_ret; refine ⟨congrArg Ending.returned (congrArg (Value.int IntKind.i64) ?_), rfl⟩)
  all_goals first
    | (have e : x.toNat / 72057594037927936 = (x / 4294967296 / 65536 / 256).toNat := by omega
       rw [tab8 (x / 4294967296 / 65536 / 256) (by omega) (by omega), Lib.bitLen_shift56 x.toNat (by omega) (by omega), e]
       exact wq 56 56 rfl (by decide) _ (Lib.bitLen_le8' (x / 4294967296 / 65536 / 256) (by omega) (by omega)))
    | (have e : x.toNat / 281474976710656 = (x / 4294967296 / 65536).toNat := by omega
       rw [tab8 (x / 4294967296 / 65536) (by omega) (by omega), Lib.bitLen_shift48 x.toNat (by omega) (by omega), e]
       exact wq 48 48 rfl (by decide) _ (Lib.bitLen_le8' (x / 4294967296 / 65536) (by omega) (by omega)))
    | (have e : x.toNat / 1099511627776 = (x / 4294967296 / 256).toNat := by omega
       rw [tab8 (x / 4294967296 / 256) (by omega) (by omega), Lib.bitLen_shift40 x.toNat (by omega) (by omega), e]
       exact wq 40 40 rfl (by decide) _ (Lib.bitLen_le8' (x / 4294967296 / 256) (by omega) (by omega)))
    | (have e : x.toNat / 4294967296 = (x / 4294967296).toNat := by omega
       rw [tab8 (x / 4294967296) (by omega) (by omega), Lib.bitLen_shift32 x.toNat (by omega) (by omega), e]
       exact wq 32 32 rfl (by decide) _ (Lib.bitLen_le8' (x / 4294967296) (by omega) (by omega)))
    | (have e : x.toNat / 16777216 = (x / 65536 / 256).toNat := by omega
       rw [tab8 (x / 65536 / 256) (by omega) (by omega), Lib.bitLen_shift24 x.toNat (by omega) (by omega), e]
       exact wq 24 24 rfl (by decide) _ (Lib.bitLen_le8' (x / 65536 / 256) (by omega) (by omega)))
    | (have e : x.toNat / 65536 = (x / 65536).toNat := by omega
       rw [tab8 (x / 65536) (by omega) (by omega), Lib.bitLen_shift16 x.toNat (by omega) (by omega), e]
       exact wq 16 16 rfl (by decide) _ (Lib.bitLen_le8' (x / 65536) (by omega) (by omega)))
    | (have e : x.toNat / 256 = (x / 256).toNat := by omega
       rw [tab8 (x / 256) (by omega) (by omega), Lib.bitLen_shift8 x.toNat (by omega) (by omega), e]
       exact wq 8 8 rfl (by decide) _ (Lib.bitLen_le8' (x / 256) (by omega) (by omega)))
    | (rw [tab8 x (by omega) (by omega)]; exact w0 _ (Lib.bitLen_le8' x (by omega) (by omega)))

set_option maxHeartbeats 4000000 in
theorem srt_bits_Len (x : Int) (w : World) (h0 : 0 ≤ x) (h1 : x ≤ 18446744073709551615) :
    Calls Try.prog 41 #[.int .u64 x] w fun e w' => e = .returned (.int .i64 (Lib.bitLen x.toNat)) ∧ w' = w := by
  go_enter Try.func41, Try.ntmps41
  go_wp2_with (go_at_call 72; refine (srt_bits_Len64 x _ h0 h1).mono ?_; rintro e w' ⟨rfl, rfl⟩)
  go_ret
  exact ⟨rfl, rfl⟩

end Go.Proofs.Ytpjbkaibgajpcaa
