/- What is written in groups is read again. -/
import Derived.Test.YtdcebkilekdllaaNm7
namespace Go.Proofs.Ytdcebkilekdllaa
open Go.RowKit

/-- the groups from i on -/
def varFrom (x n i f : Nat) : List Bool := (List.range f).flatMap fun j => Bi.numBits (varX x (i + j) n) 5
theorem varFrom_succ (x n i f : Nat) : varFrom x n i (f + 1) = Bi.numBits (varX x i n) 5 ++ varFrom x n (i + 1) f := by
  rw [varFrom, List.range_succ_eq_map, List.flatMap_cons, List.flatMap_map, varFrom]
  congr 2
  funext j
  rw [show i + 1 + j = i + (j + 1) by omega]
theorem step_mod (x i : Nat) : x % 2 ^ (4 * i) + x / 2 ^ (4 * i) % 16 * 2 ^ (4 * i) = x % 2 ^ (4 * (i + 1)) := by
  rw [show 4 * (i + 1) = 4 * i + 4 by omega, Nat.pow_add, Nat.mod_mul, Nat.mul_comm (2 ^ (4 * i))]
theorem grp_lt (x : Nat) (hx : x < 18446744073709551616) : x < 2 ^ (4 * grp x) := by
  have h1 := bitLen_lt x hx
  refine Nat.lt_of_lt_of_le h1 (Nat.pow_le_pow_right (by omega) ?_)
  unfold grp; omega
theorem gv_from (x n : Nat) (hx : x < 18446744073709551616) (hn : grp x = n) (T : List Bool) : ∀ f i g, i + (f + 1) = n → f + 1 ≤ g → gv g i (x % 2 ^ (4 * i)) (varFrom x n i (f + 1) ++ T) = (0, x, T) := by
  intro f
  induction f with
  | zero =>
    intro i g hi hg
    obtain ⟨g', rfl⟩ : ∃ g', g = g' + 1 := ⟨g - 1, by omega⟩
    rw [varFrom_succ, show varFrom x n (i + 1) 0 = [] from rfl, List.append_nil]
    have hlt := varX_lt x i n
    have hl : (Bi.numBits (varX x i n) 5).length = 5 := Bi.numBits_length _ _
    have ht : (Bi.numBits (varX x i n) 5 ++ T).take 5 = Bi.numBits (varX x i n) 5 := List.take_left' hl
    have hd : (Bi.numBits (varX x i n) 5 ++ T).drop 5 = T := List.drop_left' hl
    have hX : varX x i n = x / 2 ^ (4 * i) % 16 := by unfold varX; rw [if_neg (by omega)]; rfl
    have hv : x % 2 ^ (4 * i) + x / 2 ^ (4 * i) % 16 * 2 ^ (4 * i) = x := by
      rw [step_mod, show i + 1 = n by omega, ← hn]; exact Nat.mod_eq_of_lt (grp_lt x hx)
    rw [gv, if_neg (by rw [List.length_append, hl]; omega), ht, hd, Bi.numOf_numBits, Nat.mod_eq_of_lt (show varX x i n < 2 ^ 5 from hlt), hX, if_pos (by omega)]
    rw [Nat.mod_mod, hv, if_pos (by omega)]
  | succ f ih =>
    intro i g hi hg
    obtain ⟨g', rfl⟩ : ∃ g', g = g' + 1 := ⟨g - 1, by omega⟩
    rw [varFrom_succ, List.append_assoc]
    have hlt := varX_lt x i n
    have hl : (Bi.numBits (varX x i n) 5).length = 5 := Bi.numBits_length _ _
    have ht : (Bi.numBits (varX x i n) 5 ++ (varFrom x n (i + 1) (f + 1) ++ T)).take 5 = Bi.numBits (varX x i n) 5 := List.take_left' hl
    have hd : (Bi.numBits (varX x i n) 5 ++ (varFrom x n (i + 1) (f + 1) ++ T)).drop 5 = varFrom x n (i + 1) (f + 1) ++ T := List.drop_left' hl
    have hX : varX x i n = x / 2 ^ (4 * i) % 16 + 16 := by unfold varX; rw [if_pos (by omega)]
    rw [gv, if_neg (by rw [List.length_append, hl]; omega), ht, hd, Bi.numOf_numBits, Nat.mod_eq_of_lt (show varX x i n < 2 ^ 5 from hlt), hX, if_neg (by omega)]
    rw [show (x / 2 ^ (4 * i) % 16 + 16) % 16 = x / 2 ^ (4 * i) % 16 by omega, step_mod]
    exact ih (i + 1) g' (by omega) (by omega)
/-- what is written is read -/
theorem gv_var (x : Nat) (hx : x < 18446744073709551616) (T : List Bool) : gv 16 0 0 (varBits x ++ T) = (0, x, T) := by
  obtain ⟨h1, h16⟩ := grp_bd x
  obtain ⟨f, hf⟩ : ∃ f, grp x = f + 1 := ⟨grp x - 1, by omega⟩
  have := gv_from x (grp x) hx rfl T f 0 16 (by omega) (by omega)
  rw [show x % 2 ^ (4 * 0) = 0 by simp [Nat.mod_one]] at this
  rw [← this, varBits, varTo, varFrom, hf]
  simp
end Go.Proofs.Ytdcebkilekdllaa
