/- Plain mathematics of frames: what is one. -/
import Derived.Test.YtbpmjbhmcnjnoaaFrTurn
namespace Go.Proofs.Ytbpmjbhmcnjnoaa
abbrev FByte := Fr.Byte
def tailOf (s : BitVec 32) : List FByte := (List.range 4).map fun i => (s >>> (8 * i)).setWidth 8
theorem tailOf_length (s : BitVec 32) : (tailOf s).length = 4 := by simp [tailOf]
/-- bytes and the sum behind them -/
def sealed (xs : List FByte) : List FByte := xs ++ tailOf (Fr.sum xs)
theorem sealed_length (xs : List FByte) : (sealed xs).length = xs.length + 4 := by rw [sealed, List.length_append, tailOf_length]
def sealErr (xs : List FByte) : Nat := if xs.length ≤ 4096 then 0 else 3
def sealRes (xs : List FByte) : List FByte := if xs.length ≤ 4096 then sealed xs else []
def openErr (xs : List FByte) : Nat := if xs.length < 4 then 2 else if 4100 < xs.length then 3 else if xs.drop (xs.length - 4) = tailOf (Fr.sum (xs.take (xs.length - 4))) then 0 else 6
def openRes (xs : List FByte) : List FByte := if openErr xs = 0 then xs.take (xs.length - 4) else []
theorem open_sealed (ys : List FByte) (h : ys.length ≤ 4096) : openErr (sealed ys) = 0 ∧ openRes (sealed ys) = ys := by
  have hl := sealed_length ys
  have e1 : (sealed ys).take ((sealed ys).length - 4) = ys := by rw [hl, Nat.add_sub_cancel, sealed, List.take_left]
  have e2 : (sealed ys).drop ((sealed ys).length - 4) = tailOf (Fr.sum ys) := by rw [hl, Nat.add_sub_cancel, sealed, List.drop_left]
  have e : openErr (sealed ys) = 0 := by unfold openErr; rw [if_neg (by omega), if_neg (by omega), e1, e2, if_pos rfl]
  exact ⟨e, by rw [openRes, if_pos e, e1]⟩
theorem word_tail (s : BitVec 32) : Fr.word (tailOf s) = s := by
  apply BitVec.eq_of_getLsbD_eq
  intro j hj
  rw [Fr.word, Fr.win_get _ _ hj, Fr.bitsOf_get]
  have h4 : j / 8 < 4 := by omega
  simp only [tailOf, List.getD_eq_getElem?_getD, List.getElem?_map, List.getElem?_range h4, Option.map_some, Option.getD_some, BitVec.getLsbD_setWidth, BitVec.getLsbD_ushiftRight]
  rw [show 8 * (j / 8) + j % 8 = j by omega]
  simp; omega
theorem open_err (xs : List FByte) : openErr xs ≠ 0 → openRes xs = [] := fun h => by rw [openRes, if_neg h]
/-- EVERY BURST IS FOUND. -/
theorem open_burst (ys : List FByte) (h : ys.length ≤ 4096) (k : Nat) (p : BitVec 32) (hk : k < 8 * (ys.length + 4)) (hp : p.getLsbD 0 = true) : openErr (Fr.turnTo (sealed ys) k p 32) = 6 := by
  have hl : (Fr.turnTo (sealed ys) k p 32).length = ys.length + 4 := by rw [Fr.turnTo_length, sealed_length]
  unfold openErr
  rw [if_neg (by omega), if_neg (by omega), if_neg]
  intro he
  rw [hl, Nat.add_sub_cancel] at he
  refine Fr.frame_turn ys (tailOf (Fr.sum ys)) (tailOf_length _) (word_tail _) k p (by rw [List.length_append, tailOf_length]; exact hk) hp _ _ ?_ ?_ (List.take_append_drop ys.length _).symm ?_
  · rw [List.length_take, ← sealed, hl]; omega
  · rw [List.length_drop, ← sealed, hl]; omega
  · rw [← sealed, he, word_tail]
/-- Which bytes are a frame: those that sealing their body makes. -/
theorem open_iff (xs : List FByte) (n : Nat) (hn : xs.length = n + 4) (h : n ≤ 4096) : openErr xs = if sealed (xs.take n) = xs then 0 else 6 := by
  unfold openErr
  rw [if_neg (by omega), if_neg (by omega), hn, Nat.add_sub_cancel]
  by_cases e : xs.drop n = tailOf (Fr.sum (xs.take n))
  · rw [if_pos e, if_pos (by rw [sealed, ← e, List.take_append_drop])]
  · rw [if_neg e, if_neg]
    intro e'
    apply e
    have := congrArg (List.drop n) e'
    rw [sealed, List.drop_left' (by rw [List.length_take]; omega)] at this
    exact this.symm
end Go.Proofs.Ytbpmjbhmcnjnoaa
