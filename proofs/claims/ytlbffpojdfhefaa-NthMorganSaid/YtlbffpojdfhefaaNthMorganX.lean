/- The law NthMorgan, whichever An+B. -/
import Derived.Test.YtlbffpojdfhefaaNthMorganW
namespace Go.Proofs.Ytlbffpojdfhefaa
open Go.RowKit
theorem nthMorgan_any (w : World) (A B C D : Int) : Calls Try.prog 4 #[.agg #[.int .i64 A, .int .i64 B], .agg #[.int .i64 C, .int .i64 D]] w (RetB w true) := by
  cases hsA : smallB A B 12
  · exact nthMorgan_no1 w A B C D hsA
  · cases hsC : smallB C D 12
    · exact nthMorgan_no2 w A B C D hsA hsC
    · exact nthMorgan_walk w A B C D hsA hsC
end Go.Proofs.Ytlbffpojdfhefaa
