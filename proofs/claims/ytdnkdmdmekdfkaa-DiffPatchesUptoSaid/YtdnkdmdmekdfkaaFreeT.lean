/- wp_free, in use: what the operations leave, as a list; the tail. -/
import Derived.Test.YtdnkdmdmekdfkaaFree
namespace Go.Proofs.Ytdnkdmdmekdfkaa
open Go.RowKit
def PhiOf (ps : List (Value → World → Prop)) : Nat → Value → World → Prop := fun j v w => (ps.getD j (fun _ _ => True)) v w
def StableL : List (Value → World → Prop) → Prop
  | [] => True
  | p :: ps => (∀ v w1 w2, New w1 w2 → p v w1 → p v w2) ∧ StableL ps
theorem PhiOf_stable : ∀ {ps : List (Value → World → Prop)}, StableL ps → ∀ j v w1 w2, New w1 w2 → PhiOf ps j v w1 → PhiOf ps j v w2
  | [], _, _, _, _, _, _, _ => by simp [PhiOf]
  | p :: ps, h, 0, v, w1, w2, hn, k => h.1 v w1 w2 hn k
  | p :: ps, h, j + 1, v, w1, w2, hn, k => PhiOf_stable (ps := ps) h.2 j v w1 w2 hn k
section
variable {P : Program} {l0 : Array Bool} {ops : Array Oper} {n : Nat} {Φ : Nat → Value → World → Prop} {base : Act} {w0 w' : World} {i : Nat} {a : Act}
theorem tail_at {Q : Exit → Act → World → Prop} {l : List Oper} {w : World} {base : Act} (ts : List (Nat × Option Tmp)) (val : Nat → Value) (hT : (heads l0 n).map (fun j => (j, dstAt l.toArray j)) = ts)
    (h : wpList P l.toArray Q (l.drop n) (putAll base (ts.map fun p => (p.2, val p.1))) w) : wpList P l.toArray Q (l.drop n) (putAll base ((heads l0 n).map fun j => (dstAt l.toArray j, val j))) w := by
  rw [← hT, List.map_map] at h
  exact h
theorem eval_tmp (a : Act) (t : Nat) : a.eval (.tmp t) = a.tmps[t]?.getD undef := Array.getD_eq_getD_getElem? ..
theorem Met1.d (m : Met1 P l0 ops n Φ base w0 i a w') (j t : Nat) (h : (decide (j < n) && !l0.getD j false && Region.waitsFor .any ops i j && dstAt ops j == some t) = true) : Φ j (a.tmps[t]?.getD undef) w' := by
  have := m.dep j t h
  rwa [Array.getD_eq_getD_getElem?] at this
theorem Met1.b (m : Met1 P l0 ops n Φ base w0 i a w') (t : Nat) (v : Value) (hv : base.tmps.getD t undef = v) (h : ((List.range n).all fun j => l0.getD j false || dstAt ops j != some t) = true) : a.tmps[t]?.getD undef = v := by
  have := m.base_ t v hv h
  rwa [Array.getD_eq_getD_getElem?] at this
end
end Go.Proofs.Ytdnkdmdmekdfkaa
