/- Contract of riddleref01.Gcd. No conditions. -/
import Derived.Test.YtpkfjbljhneenaaGreatGDoesAh
import Derived.Deep.LoopGhost
namespace Go.Proofs.YtpkfjbljhneenaaGreat
open Go.RowKit

theorem lim_mono {x y : Nat} (h : x ≤ y) : (lim x).length ≤ (lim y).length := lim_pw (Nat.lt_of_le_of_lt h (lt_pw_lim y))
end Go.Proofs.YtpkfjbljhneenaaGreat
