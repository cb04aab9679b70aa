/- Contracts with their answers named; the walk of awake. -/
import Derived.Test.YtfhkonjklhaknaaBi7
namespace Go.Proofs.Ytfhkonjklhaknaa
open Go.RowKit

theorem Put_e {base g : Nat} {v : Value} {L : List Bool} {w : World} (h : IsW w base g v L) (hb : base ≤ w.heap.size) (hL : L.length ≤ 1048576) (x : Nat) (hx : x < 18446744073709551616) (X n : Int) (hX : X = x) (hn1 : -9223372036854775808 ≤ n) (hn2 : n ≤ 9223372036854775807) (E : Int) (hE : Bi.putErr L x n = E) (M : List Bool) (hM : Bi.putRes L x n = M) :
    Calls Try.prog 12 #[.pointer (some ⟨g, 0, none⟩), .int .u64 X, .int .i64 n] w fun e w' => e = .returned (.int .i64 E) ∧ ∃ v', IsW w' base g v' M ∧ Wrote base g v v' w w' := by
  subst hX; subst hE; subst hM
  exact Put_any base g v L x n w hx hn1 hn2 hL hb h
theorem Len_e {w : World} {base g : Nat} {v : Value} {L : List Bool} (h : IsW w base g v L) (N : Int) (hN : (L.length : Int) = N) : Calls Try.prog 13 #[.pointer (some ⟨g, 0, none⟩)] w fun e w' => e = .returned (.int .i64 N) ∧ w = w' := by
  subst hN; exact Len_any h
theorem Bytes_e {w : World} {base g : Nat} {v : Value} {L : List Bool} (h : IsW w base g v L) (hm : L.length ≤ 2000000) (n : Nat) (hn : Bi.nbytes L = n) (P : List (BitVec 8)) (hP : Bi.pack L = P) : Calls Try.prog 15 #[.pointer (some ⟨g, 0, none⟩)] w (RetRow 5 1 n (u8s P) w) := by
  subst hn; subst hP; exact Bytes_any h hm
theorem Same_e (A A' : Option Addr) (n n' c c' : Nat) (xs ys : List (BitVec 8)) (w : World) (hl : xs.length = n) (hl' : ys.length = n') (hx : Rd w A (u8s xs)) (hy : Rd w A' (u8s ys)) (b : Bool) (hb : decide (xs = ys) = b) :
    Calls Try.prog 14 #[.slice A n c, .slice A' n' c'] w fun e w' => e = .returned (.bool b) ∧ w = w' := by subst hb; exact Same_n A A' n n' c c' xs ys w hl hl' hx hy
theorem Get_e {w : World} {g a : Nat} {v : Value} {P : List (BitVec 8)} (h : IsR w g v P a) (R : List Bool) (n : Int) (hR : (Bi.bitsOf P).drop a = R) (ha : a ≤ 8 * P.length) (hm : P.length ≤ 1000000) (hn1 : -9223372036854775808 ≤ n) (hn2 : n ≤ 9223372036854775807)
    (V E : Int) (hV : (Bi.getVal R n : Int) = V) (hE : Bi.getErr R n = E) (R' : List Bool) (hR' : Bi.getRest R n = R') :
    Calls Try.prog 20 #[.pointer (some ⟨g, 0, none⟩), .int .i64 n] w fun e w' => e = .returned (.tuple #[.int .u64 V, .int .i64 E]) ∧
      ∃ a', IsR w' g v P a' ∧ (Bi.bitsOf P).drop a' = R' ∧ a' ≤ 8 * P.length ∧ Upd (fun b => b = g) w w' := by
  subst hV; subst hE; subst hR'; exact Get_any h R n hR ha hm hn1 hn2
theorem Left_e {w : World} {g a : Nat} {v : Value} {P : List (BitVec 8)} (h : IsR w g v P a) (R : List Bool) (hR : (Bi.bitsOf P).drop a = R) (ha : a ≤ 8 * P.length) (hm : P.length ≤ 1000000) (N : Int) (hN : (R.length : Int) = N) :
    Calls Try.prog 21 #[.pointer (some ⟨g, 0, none⟩)] w fun e w' => e = .returned (.int .i64 N) ∧ New w w' := by
  subst hN
  have hlR : R.length + a = 8 * P.length := by rw [← hR, List.length_drop, Bi.bitsOf_length]; omega
  exact Left_any h P.length R.length rfl (by omega) hm

/-- a writer that is new stays so -/
theorem Wrote.fresh {w wa wb : World} {base g : Nat} {v v' : Value} (hN : New w wa) (hU : Wrote base g v v' wa wb) (hg : w.heap.size ≤ g) (hv : ∀ b, v.ownBlock = some b → w.heap.size ≤ b) : New w wb ∧ ∀ b, v'.ownBlock = some b → w.heap.size ≤ b := by
  refine ⟨hN.then hU.upd (fun b hb => .inr ?_), fun b hb => ?_⟩
  · rcases hb with rfl | hb
    · exact hg
    · exact hv b hb
  · rcases hU.at_ b hb with h | h
    · exact hv b h
    · exact Nat.le_trans hN.size h
def ed : List (BitVec 8) := [0xed, 0x1f]
theorem ed_new (w : World) : Rd (w.alloc (.cells #[.int .u8 237, .int .u8 31] 5)) (some ⟨w.heap.size, 0, none⟩) (u8s ed) := rd_new w (u8s ed) _
theorem ed_new1 (w : World) (o : Obj) : Rd ((w.alloc o).alloc (.cells #[.int .u8 237, .int .u8 31] 5)) (some ⟨w.heap.size + 1, 0, none⟩) (u8s ed) := by
  have := ed_new (w.alloc o)
  rwa [show (w.alloc o).heap.size = w.heap.size + 1 by simp] at this
def aw1 : List Bool := [true, false, true]
def aw2 : List Bool := [true, false, true, true, false]
def aw3 : List Bool := [true, false, true, true, false, true, true, true, true, true, true, true, true]
set_option maxHeartbeats 1000000 in
theorem awake_any (w : World) : Calls Try.prog 9 #[] w fun e w' => e = .returned (.bool true) ∧ New w w' := by
  have E1 : Bi.putErr [] 5 3 = 0 := by decide
  have R1 : Bi.putRes [] 5 3 = aw1 := by decide
  have E2 : Bi.putErr aw1 1 2 = 0 := by decide
  have R2 : Bi.putRes aw1 1 2 = aw2 := by decide
  have E3 : Bi.putErr aw2 255 8 = 0 := by decide
  have R3 : Bi.putRes aw2 255 8 = aw3 := by decide
  have P3 : Bi.pack aw3 = ed := by decide
  have hz := Upd.refl Nowhere w
  have T1 := Bx.mk E1
  have T2 := Bx.mk R1
  have T3 := Bx.mk E2
  have T4 := Bx.mk R2
  have T5 := Bx.mk E3
  have T6 := Bx.mk R3
  have T7 := Bx.mk P3
  clear E1 R1 E2 R2 E3 R3 P3
  go_enter Try.func9, Try.ntmps9
  go_wp2_with (first
    | (go_at_call 14; (with_reducible refine (Same_e _ _ 2 2 _ _ ed ed _ rfl rfl (hr4.new ((Upd.refl _ _).alloc _)) (ed_new _) true (decide_eq_true rfl)).mono ?_); rintro e w5 ⟨rfl, rfl⟩; dsimp only)
    | (go_at_call 21; (with_reducible refine (Left_e hI7 _ hd7 ha7 (by decide) 13 (by decide)).mono ?_); rintro e w8 ⟨rfl, hu8⟩; dsimp only)
    | (go_at_call 20; (with_reducible refine (Get_e hI6 (Bi.bitsOf ed) 3 rfl (Nat.zero_le _) (by decide) (by decide) (by decide) 5 0 (by decide) (by decide) ((Bi.bitsOf ed).drop 3) (by decide)).mono ?_); rintro e w7 ⟨rfl, a7, hI7, hd7, ha7, hU7⟩; dsimp only)
    | (go_at_call 17; (with_reducible refine (Read_any _ 2 2 ed _ rfl (by decide) (ed_new1 _ _)).mono ?_); rintro e w6 ⟨g6, v6, rfl, hI6, hu6, hg6, -⟩; dsimp only)
    | (go_at_call 15; (with_reducible refine (Bytes_e hW3 (by decide) 2 (by decide) ed T7.out).mono ?_); rintro e w4 ⟨v4, rfl, ho4, hu4⟩; obtain ⟨A4, c4, rfl, _, _, hr4, _⟩ := own_rd ho4; dsimp only)
    | (go_at_call 13; (with_reducible refine (Len_e hW3 13 (by decide)).mono ?_); rintro e w4 ⟨rfl, rfl⟩; dsimp only)
    | (go_at_call 12; (with_reducible refine (Put_e hW2 (Nat.zero_le _) (by decide) 255 (by decide) 255 8 rfl (by decide) (by decide) 0 T5.out aw3 T6.out).mono ?_); rintro e w3 ⟨rfl, v3, hW3, hU3⟩; dsimp only)
    | (go_at_call 12; (with_reducible refine (Put_e hW1 (Nat.zero_le _) (by decide) 1 (by decide) 1 2 rfl (by decide) (by decide) 0 T3.out aw2 T4.out).mono ?_); rintro e w2 ⟨rfl, v2, hW2, hU2⟩; dsimp only)
    | (go_at_call 12; (with_reducible refine (Put_e (hW0 0) (Nat.zero_le _) (by decide) 5 (by decide) 5 3 rfl (by decide) (by decide) 0 T1.out aw1 T2.out).mono ?_); rintro e w1 ⟨rfl, v1, hW1, hU1⟩; dsimp only)
    | (go_at_call 10; (with_reducible refine (New_any _).mono ?_); rintro e w0 ⟨rfl, hu0, hW0, hsz0⟩; dsimp only))
  go_ret
  obtain ⟨n1, b1⟩ := hU1.fresh hu0 (Nat.le_refl _) (fun b hb => by cases hb)
  obtain ⟨n2, b2⟩ := hU2.fresh n1 (Nat.le_refl _) b1
  obtain ⟨n3, b3⟩ := hU3.fresh n2 (Nat.le_refl _) b2
  have n5 := ((n3.trans hu4).alloc (.cells #[.int .u8 237, .int .u8 31] 5)).alloc (.cells #[.int .u8 237, .int .u8 31] 5)
  refine ⟨rfl, ((n5.trans hu6).then hU7 (fun b hb => .inr ?_)).trans hu8⟩
  have hb' : b = g6 := hb
  rw [hb']
  exact Nat.le_trans n5.size hg6
end Go.Proofs.Ytfhkonjklhaknaa
