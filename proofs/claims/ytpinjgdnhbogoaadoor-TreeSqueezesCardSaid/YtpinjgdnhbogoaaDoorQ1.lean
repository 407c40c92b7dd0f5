/- The reference's layer 11: bytes, begins, name, find. -/
import Derived.Test.YtpinjgdnhbogoaaDoorM3
import Derived.Test.YtpinjgdnhbogoaaDoorM0
namespace Go.Proofs.YtpinjgdnhbogoaaDoor
open Go.RowKit Go.Lib

def digitN (n : Nat) : Bool := decide (48 ≤ n) && decide (n ≤ 57)
def blankN (n : Nat) : Bool := decide (n = 32) || decide (n = 9) || decide (n = 10) || decide (n = 13)
theorem bs_inj2 {a b : Str} (h : bs a = bs b) : a = b := by have := congrArg (fun x : ByteArray => x.data.toList) h; exact this
theorem bs_mid (l : List UInt8) (i j : Nat) : (bs l).extract i j = bs ((l.drop i).take (j - i)) := by
  apply ByteArray.ext
  apply Array.ext'
  rw [ByteArray.data_extract, Array.toList_extract]
  show List.extract l i j = (l.drop i).take (j - i)
  rw [List.extract_eq_take_drop]
end Go.Proofs.YtpinjgdnhbogoaaDoor
