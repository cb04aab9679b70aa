/- The walk of Put. -/
import Derived.Test.YtefnpkmbjabcmaaDoorBi1
import Derived.StillTailTactics
namespace Go.Proofs.YtefnpkmbjabcmaaDoor
open Go.RowKit

theorem and_bit (v k : Nat) (hv : v < 18446744073709551616) : bits .and .u64 ((v : Int) / 2 ^ k) 1 = ((v.testBit k).toNat : Int) := by
  have e : ((v : Int) / 2 ^ k) = ((v / 2 ^ k : Nat) : Int) := by rw [Int.natCast_ediv, Int.natCast_pow]; rfl
  rw [e, show (1 : Int) = ((1 : Nat) : Int) from rfl, u64_and_nat _ _ (Nat.lt_of_le_of_lt (Nat.div_le_self _ _) hv) (by decide), Nat.and_one_is_mod, Nat.testBit, Nat.shiftRight_eq_div_pow, Nat.one_and_eq_mod_two]
  rcases Nat.mod_two_eq_zero_or_one (v / 2 ^ k) with h | h <;> simp [h]
theorem shl_bit (b : Bool) (r : Nat) (hr : r < 8) (w : World) : (Op.shift BinOp.shl IntKind.u8 (b.toNat : Int) IntKind.i64 (r : Int)).run Tryd.prog w = .ok (.int .u8 ((Bi.bitAt b r).toNat : Int)) w := by
  have : r = 0 ∨ r = 1 ∨ r = 2 ∨ r = 3 ∨ r = 4 ∨ r = 5 ∨ r = 6 ∨ r = 7 := by omega
  rcases this with rfl | rfl | rfl | rfl | rfl | rfl | rfl | rfl <;> cases b <;> rfl
theorem wrap_bit (b : Bool) : IntKind.u8.wrap (b.toNat : Int) = (b.toNat : Int) := by cases b <;> rfl
theorem bitAt_nat (b : Bool) (r : Nat) (hr : r < 8) : ((b.toNat : Int) * 2 ^ r % 256) = ((Bi.bitAt b r).toNat : Int) := by
  have : r = 0 ∨ r = 1 ∨ r = 2 ∨ r = 3 ∨ r = 4 ∨ r = 5 ∨ r = 6 ∨ r = 7 := by omega
  rcases this with rfl | rfl | rfl | rfl | rfl | rfl | rfl | rfl <;> cases b <;> rfl
theorem or_bits (x y : BitVec 8) : bits .or .u8 (x.toNat : Int) (y.toNat : Int) = ((x ||| y).toNat : Int) := by
  rw [u8_or_nat _ _ x.isLt y.isLt, BitVec.toNat_or]
/-- what the call does to a writer's block and row -/
structure Wrote (base g : Nat) (v v' : Value) (w w' : World) : Prop where
  upd : Upd (fun b => b = g ∨ v.ownBlock = some b) w w'
  at_ : ∀ b, v'.ownBlock = some b → v.ownBlock = some b ∨ w.heap.size ≤ b

end Go.Proofs.YtefnpkmbjabcmaaDoor
