/-
  Plain words: which values an interval and a list of intervals contain. No program here.
-/
import Derived.Test.YtnocbigcdjlliaaBut
namespace Go.Proofs.Ytnocbigcdjlliaa
open Go.RowKit

def inI (x : Iv) (v : Vl) : Bool := decide (cmpV x.f v ≤ 0) && (x.o || decide (cmpV v x.t < 0))
def inL (l : List Iv) (v : Vl) : Bool := l.any (inI · v)
def hasL (l : List Iv) (v : Vl) : Bool := validV v && validL l && inL l v
theorem in_step {l : List Iv} {k : Nat} {x : Iv} {v : Vl} {r : Bool} (hx : l[k]? = some x) (h : inL (l.drop k) v = r) : r = (inI x v || inL (l.drop (k + 1)) v) := by
  rw [← h, drop_at hx]
  simp [inL]

end Go.Proofs.Ytnocbigcdjlliaa
