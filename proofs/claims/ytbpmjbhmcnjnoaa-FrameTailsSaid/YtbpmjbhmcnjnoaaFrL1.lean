/- The laws FrameSums, FrameOpens: walked. -/
import Derived.Test.YtbpmjbhmcnjnoaaFr5
namespace Go.Proofs.Ytbpmjbhmcnjnoaa
open Go.RowKit

theorem spare_n (A : Option Addr) (n c : Nat) (xs : List Byte) (w : World) (hl : xs.length = n) (hm : n ≤ 1000) (hA : A = none → n = 0) (hx : Rd w A (u8s xs)) :
    Calls Try.prog 11 #[.slice A n c] w fun e w' => ∃ g c', e = .returned (.slice (some ⟨g, 0, none⟩) n c') ∧ n + 1 ≤ c' ∧ w.heap.size ≤ g ∧ Rd w' (some ⟨g, 0, none⟩) (u8s xs ++ [.int .u8 165]) ∧ New w w' := by
  subst hl; exact spare_any A c xs w hm (fun h => List.eq_nil_of_length_eq_zero (hA h)) hx
theorem kept_n (g c c' n : Nat) (A : Option Addr) (xs : List Byte) (w : World) (hl : xs.length = n) (hm : n ≤ 5000) (hx : Rd w A (u8s xs)) (hq : Rd w (some ⟨g, 0, none⟩) (u8s xs ++ [.int .u8 165])) (hc : n + 1 ≤ c') :
    Calls Try.prog 14 #[.slice (some ⟨g, 0, none⟩) n c', .slice A n c] w fun e w' => e = .returned (.bool true) ∧ w = w' := by
  subst hl; exact kept_any g c c' A xs w hm hx hq hc
theorem refSum_n (A : Option Addr) (n c : Nat) (xs : List Byte) (w : World) (hl : xs.length = n) (hm : n ≤ 5000) (hx : Rd w A (u8s xs)) :
    Calls Try.prog 13 #[.slice A n c] w fun e w' => e = .returned (.int .u32 (Fr.sum xs).toNat) ∧ New w w' := by
  subst hl; exact refSum_any A c xs w hm hx

set_option maxHeartbeats 400000 in
theorem FrameSums_any (A : Option Addr) (n c : Nat) (xs : List Byte) (w : World) (hl : xs.length = n) (hnc : n ≤ c) (hA : A = none → n = 0) (hx : Rd w A (u8s xs)) :
    Calls Try.prog 3 #[.slice A n c] w fun e w' => e = .returned (.bool true) ∧ New w w' := by
  obtain ⟨m, hm⟩ : ∃ m : Nat, min (n : Int) 600 = (m : Int) := ⟨min n 600, by omega⟩
  have hmn : m ≤ n := by omega
  have hm6 : m ≤ 600 := by omega
  have hmc : m ≤ c := by omega
  have HL := Bx.mk (show (xs.take m).length = m by rw [List.length_take]; omega)
  have HA := Bx.mk (show A = none → m = 0 from fun h => by have := hA h; omega)
  have hx0 := hx.take m
  rw [← u8s_take] at hx0
  generalize xs.take m = ys at HL hx0
  have HM := Bx.mk hm
  clear hl hA hx hm
  go_enter Try.func3, Try.ntmps3
  go_wp2_with (first | ((with_reducible refine at_wpList ?_); refine wpList_min rfl _ _ _ _ rfl _ _ _ _ _ HM.out rfl rfl ?_) | (go_at_call 10; (with_reducible refine (awake_any _).mono ?_); rintro e w1 ⟨rfl, hu1⟩; dsimp only))
  have hx1 := hx0.new hu1
  go_wp2_with (go_at_call 11; (with_reducible refine (spare_n _ _ _ ys _ HL.out (by omega) HA.out hx1).mono ?_); rintro e w2 ⟨g, c2, rfl, hc2, hg, hq2, hu2⟩; dsimp only)
  go_wp2_with (first | (go_at_call 12; (with_reducible refine (Sum_n _ _ _ ys _ HL.out (by omega) hq2.prefix_).mono ?_); rintro e w3 ⟨rfl, rfl⟩; dsimp only) | (go_at_call 13; (with_reducible refine (refSum_n _ _ _ ys _ HL.out (by omega) (hx1.new hu2)).mono ?_); rintro e w3 ⟨rfl, hu3⟩; dsimp only) | (go_at_call 14; (with_reducible refine (kept_n _ _ _ _ _ ys _ HL.out (by omega) ((hx1.new hu2).new hu3) (hq2.new hu3) hc2).mono ?_); rintro e w3 ⟨rfl, rfl⟩; dsimp only))
  go_ret
  exact ⟨rfl, (hu1.trans hu2).trans hu3⟩
end Go.Proofs.Ytbpmjbhmcnjnoaa
