/- x & m, of whatever x: a number of 0 .. m. -/
import Derived.Test.YtpgcoopkileclaaMem
import Derived.Laws.BitsLemmas
set_option linter.unusedVariables false
namespace Go.Proofs.Ytpgcoopkileclaa.Bits
/-- x & m. -/
def andN (x : Int) (m : Nat) : Nat := (BitVec.ofInt 64 x).toNat &&& m
theorem andN_le (x : Int) (m : Nat) : andN x m ≤ m := Nat.and_le_right
theorem and_eq (x : Int) (m : Nat) (hm : m < 9223372036854775808) : bits .and .i64 x (m : Int) = (andN x m : Int) := by
  have e : bits .and .i64 x (m : Int) = IntKind.i64.wrap (((BitVec.ofInt 64 x &&& BitVec.ofInt 64 (m : Int)).toNat : Nat) : Int) := rfl
  have hm2 : (BitVec.ofInt 64 (m : Int)).toNat = m := by
    rw [BitVec.ofInt_natCast, BitVec.toNat_ofNat, Nat.mod_eq_of_lt (by omega)]
  rw [e, BitVec.toNat_and, hm2, IntKind.wrap_i64]
  have := andN_le x m
  unfold andN at this ⊢
  omega
end Go.Proofs.Ytpgcoopkileclaa.Bits
