/- Contracts with their answers named; the walk of awake. -/
import Derived.Test.YtpfdbkfjjjiamaaBi7
namespace Go.Proofs.Ytpfdbkfjjjiamaa
open Go.RowKit

theorem Put_e {base g : Nat} {v : Value} {L : List Bool} {w : World} (h : IsW w base g v L) (hb : base ≤ w.heap.size) (hL : L.length ≤ 1048576) (x : Nat) (hx : x < 18446744073709551616) (X n : Int) (hX : X = x) (hn1 : -9223372036854775808 ≤ n) (hn2 : n ≤ 9223372036854775807) (E : Int) (hE : Bi.putErr L x n = E) (M : List Bool) (hM : Bi.putRes L x n = M) :
    Calls Try.prog 45 #[.pointer (some ⟨g, 0, none⟩), .int .u64 X, .int .i64 n] w fun e w' => e = .returned (.int .i64 E) ∧ ∃ v', IsW w' base g v' M ∧ Wrote base g v v' w w' := by
  subst hX; subst hE; subst hM
  exact Put_any base g v L x n w hx hn1 hn2 hL hb h
theorem Len_e {w : World} {base g : Nat} {v : Value} {L : List Bool} (h : IsW w base g v L) (N : Int) (hN : (L.length : Int) = N) : Calls Try.prog 26 #[.pointer (some ⟨g, 0, none⟩)] w fun e w' => e = .returned (.int .i64 N) ∧ w = w' := by
  subst hN; exact Len_any h
theorem Bytes_e {w : World} {base g : Nat} {v : Value} {L : List Bool} (h : IsW w base g v L) (hm : L.length ≤ 2000000) (n : Nat) (hn : Bi.nbytes L = n) (P : List (BitVec 8)) (hP : Bi.pack L = P) : Calls Try.prog 24 #[.pointer (some ⟨g, 0, none⟩)] w (RetRow 5 1 n (u8s P) w) := by
  subst hn; subst hP; exact Bytes_any h hm
theorem Same_e (A A' : Option Addr) (n n' c c' : Nat) (xs ys : List (BitVec 8)) (w : World) (hl : xs.length = n) (hl' : ys.length = n') (hx : Rd w A (u8s xs)) (hy : Rd w A' (u8s ys)) (b : Bool) (hb : decide (xs = ys) = b) :
    Calls Try.prog 23 #[.slice A n c, .slice A' n' c'] w fun e w' => e = .returned (.bool b) ∧ w = w' := by subst hb; exact Same_n A A' n n' c c' xs ys w hl hl' hx hy
theorem Get_e {w : World} {g a : Nat} {v : Value} {P : List (BitVec 8)} (h : IsR w g v P a) (R : List Bool) (n : Int) (hR : (Bi.bitsOf P).drop a = R) (ha : a ≤ 8 * P.length) (hm : P.length ≤ 1000000) (hn1 : -9223372036854775808 ≤ n) (hn2 : n ≤ 9223372036854775807)
    (V E : Int) (hV : (Bi.getVal R n : Int) = V) (hE : Bi.getErr R n = E) (R' : List Bool) (hR' : Bi.getRest R n = R') :
    Calls Try.prog 16 #[.pointer (some ⟨g, 0, none⟩), .int .i64 n] w fun e w' => e = .returned (.tuple #[.int .u64 V, .int .i64 E]) ∧
      ∃ a', IsR w' g v P a' ∧ (Bi.bitsOf P).drop a' = R' ∧ a' ≤ 8 * P.length ∧ Upd (fun b => b = g) w w' := by
  subst hV; subst hE; subst hR'; exact Get_any h R n hR ha hm hn1 hn2
theorem Left_e {w : World} {g a : Nat} {v : Value} {P : List (BitVec 8)} (h : IsR w g v P a) (R : List Bool) (hR : (Bi.bitsOf P).drop a = R) (ha : a ≤ 8 * P.length) (hm : P.length ≤ 1000000) (N : Int) (hN : (R.length : Int) = N) :
    Calls Try.prog 19 #[.pointer (some ⟨g, 0, none⟩)] w fun e w' => e = .returned (.int .i64 N) ∧ New w w' := by
  subst hN
  have hlR : R.length + a = 8 * P.length := by rw [← hR, List.length_drop, Bi.bitsOf_length]; omega
  exact Left_any h P.length R.length rfl (by omega) hm

/-- a writer that is new stays so -/
theorem Wrote.fresh {w wa wb : World} {base g : Nat} {v v' : Value} (hN : New w wa) (hU : Wrote base g v v' wa wb) (hg : w.heap.size ≤ g) (hv : ∀ b, v.ownBlock = some b → w.heap.size ≤ b) : New w wb ∧ ∀ b, v'.ownBlock = some b → w.heap.size ≤ b := by
  refine ⟨hN.then hU.upd (fun b hb => .inr ?_), fun b hb => ?_⟩
  · rcases hb with rfl | hb
    · exact hg
    · exact hv b hb
  · rcases hU.at_ b hb with h | h
    · exact hv b h
    · exact Nat.le_trans hN.size h
end Go.Proofs.Ytpfdbkfjjjiamaa
