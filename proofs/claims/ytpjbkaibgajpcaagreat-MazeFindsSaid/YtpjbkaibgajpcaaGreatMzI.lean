/- maze's laws: rows of numbers. -/
import Derived.Test.YtpjbkaibgajpcaaGreatJ34
import Derived.Test.YtpjbkaibgajpcaaGreatJ43
namespace Go.Proofs.YtpjbkaibgajpcaaGreat
open Go.RowKit Go.ChangeMaps
set_option maxRecDepth 20000

theorem infoI32M : (Tryz.prog.info? 21).map (fun i => (i.zero, i.size, i.bytes)) = some (some (.int .i32 0), 1, 4) := by kernel_rfl
theorem rowI32M : RowTy Tryz.prog 23 21 1 4 (.int .i32 0) := ⟨Tryz.underlying23, infoI32M, rfl, by decide⟩

end Go.Proofs.YtpjbkaibgajpcaaGreat
