/- ahead: walked. -/
import Derived.Test.YtpfdbkfjjjiamaaCmP3
namespace Go.Proofs.Ytpfdbkfjjjiamaa
open Go.RowKit
def aheadL (n : Nat) : List Bool := Bi.numBits (2 ^ (n % 16) - 1) (n % 16)
theorem aheadL_length (n : Nat) : (aheadL n).length = n % 16 := Bi.numBits_length _ _
theorem own_raise {w : World} {base base' e size n : Nat} {v : Value} {xs : List Value} (h : w.ownsRow base e size v n xs) (hb : ∀ b, v.ownBlock = some b → base' ≤ b) : w.ownsRow base' e size v n xs := by
  obtain ⟨hl, h⟩ := h
  refine ⟨hl, ?_⟩
  rcases h with h | ⟨g, cap, cur, hv, hg, r⟩
  · exact .inl h
  · exact .inr ⟨g, cap, cur, hv, hb g (by rw [hv]; rfl), r⟩
set_option maxHeartbeats 2000000 in
theorem ahead_any (n : Nat) (w : World) (hn : n < 256) :
    Calls Try.prog 20 #[.int .u8 n] w fun e w' => ∃ g v vl, e = .returned (.tuple #[.pointer (some ⟨g, 0, none⟩), vl]) ∧ IsW w' w.heap.size g v (aheadL n) ∧ w'.ownsRow w.heap.size 4 1 vl (aheadL n).length (bools (aheadL n)) ∧ New w w' ∧ w.heap.size ≤ g ∧ (∀ b, v.ownBlock = some b → w.heap.size ≤ b) := by
  unfold aheadL
  obtain ⟨k, hk⟩ : ∃ k, n % 16 = k := ⟨_, rfl⟩
  rw [hk]
  have hk16 : k < 16 := by omega
  have hki : (n : Int) % 16 = (k : Int) := by omega
  have hp : 2 ^ k ≤ 65536 := by
    have := Nat.pow_le_pow_right (n := 2) (by decide) (show k ≤ 16 by omega)
    omega
  have hp1 : 1 ≤ 2 ^ k := Nat.one_le_two_pow
  have hE0 : Bi.putErr [] (2 ^ k - 1) k = 0 := numErr [] (2 ^ k - 1) k (by omega) (by omega) (by simp; omega)
  have hR0 : Bi.putRes [] (2 ^ k - 1) k = Bi.numBits (2 ^ k - 1) k := by rw [numRes [] (2 ^ k - 1) k (by omega) (by omega) (by simp; omega)]; rfl
  have E0 := Bx.mk hE0
  have R0 := Bx.mk hR0
  have HX := Bx.mk (show 2 ^ k - 1 < 18446744073709551616 by omega)
  have HXI := Bx.mk (show IntKind.u64.wrap (IntKind.u64.wrap ((2 : Int) ^ k) - 1) = ((2 ^ k - 1 : Nat) : Int) by
    have e : ((2 : Int) ^ k) = ((2 ^ k : Nat) : Int) := by rw [Int.natCast_pow]; rfl
    rw [e, IntKind.wrap_u64, IntKind.wrap_u64]; omega)
  have CP := Bx.mk (show ∀ w, Calls Try.prog 46 #[.slice none 0 0, .int .u64 (IntKind.u64.wrap (IntKind.u64.wrap ((2 : Int) ^ k) - 1)), .int .i64 k] w fun e w' => ∃ v', e = .returned (.tuple #[v', .int .i64 0]) ∧ w'.ownsRow w.heap.size 4 1 v' (Bi.numBits (2 ^ k - 1) k).length (bools (Bi.numBits (2 ^ k - 1) k)) ∧ New w w' from fun w => by
    rw [HXI.out]
    have h := refPut_w (.slice none 0 0) [] 0 (2 ^ k - 1) k w HX.out (by omega) (by omega) rfl (by omega) (World.ownsRow_nil _ _ _ _)
    rw [E0.out, R0.out] at h
    exact h.mono fun e w' ⟨v', h1, h2, h3, h4⟩ => ⟨v', h1, own_raise h2 (fun b hb => (h4 b hb).elim (fun q => by cases q) id), h3⟩)
  clear hE0 hR0 hk
  go_enter Try.func20, Try.ntmps20
  repeat' (first | (first
    | (go_at_call 44; go_loud ((with_reducible refine (New_any _).mono ?_); rintro e w1 ⟨rfl, hu1, hW1, hs1⟩; dsimp only))
    | (go_at_call 45; go_loud ((with_reducible refine (Put_e (hW1 w.heap.size) hu1.size (by simp) (2 ^ k - 1) HX.out _ k HXI.out (by omega) (by omega) 0 E0.out _ R0.out).mono ?_); rintro e w2 ⟨rfl, v2, hW2, hU2⟩; have hf2 := Wrote.fresh hu1 hU2 (Nat.le_refl _) (fun b hb => by cases hb); dsimp only))
    | (go_at_call 46; go_loud ((with_reducible refine (CP.out _).mono ?_); rintro e w3 ⟨v3, rfl, ho3, hu3⟩; dsimp only))) | go_values | go_skip | go_guarded | go_step | go_upon | go_back)
  go_returns
  exact ⟨_, v2, v3, rfl, IsW.new hW2 hu3, own_lower ho3 hf2.1.size, hf2.1.trans hu3, Nat.le_refl _, hf2.2⟩
end Go.Proofs.Ytpfdbkfjjjiamaa
