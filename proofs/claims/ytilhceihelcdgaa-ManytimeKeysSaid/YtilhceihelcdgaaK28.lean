/-
  The walk of the law on keys: what a key answers is what the functions answer.
-/
import Derived.Test.YtilhceihelcdgaaK26
import Derived.Test.YtilhceihelcdgaaK27
namespace Go.Proofs.Ytilhceihelcdgaa
open Go.RowKit

theorem keys_walk (x : List Int) (lv : Int) (l : List Int) (v : Value) (m : List Int) (w : World) (hx : IsN x) (hlv : -9223372036854775808 ≤ lv ∧ lv ≤ 9223372036854775807) (hl : Is w v l) (hm : IsN m) :
    Calls Try.prog 6 #[nv x, .int .i64 lv, v, nv m] w fun e w' => e = .returned (.bool true) ∧ Below w.heap.size w w' := by
  by_cases h1 : lv = 1
  · subst h1; exact keys1 x l m v w hx hl hm
  · by_cases h2 : lv = 2
    · subst h2; exact keys2 x l m v w hx hl hm
    · exact keysno x l m lv v w hx hl hm hlv (by omega)
end Go.Proofs.Ytilhceihelcdgaa
