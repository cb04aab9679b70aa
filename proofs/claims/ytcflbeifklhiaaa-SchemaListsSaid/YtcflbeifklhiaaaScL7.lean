/- The law of lists. -/
import Derived.Test.YtcflbeifklhiaaaSc13
namespace Go.Proofs.Ytcflbeifklhiaaa
open Go.RowKit

theorem ccells_take (L : List C4) (k : Nat) : ccells (L.take k) = (ccells L).take (k * 4) := by
  induction L generalizing k with
  | nil => simp [ccells]
  | cons q L ih =>
    cases k with
    | zero => simp [ccells]
    | succ k =>
      have e : ccells (q :: L) = [.int .u8 q.k, .int .i32 q.a, .int .i32 q.b, .int .i32 q.c] ++ ccells L := by simp [ccells]
      have e2 : ccells ((q :: L).take (k + 1)) = [.int .u8 q.k, .int .i32 q.a, .int .i32 q.b, .int .i32 q.c] ++ ccells (L.take k) := by simp [ccells]
      rw [e, e2, ih, show (k + 1) * 4 = k * 4 + 4 by omega]
      simp [List.take_succ_cons]

set_option maxHeartbeats 4000000 in
theorem lists_any (A : Option Addr) (n c : Nat) (Ls : List C4) (w : World) (hl : Ls.length = n) (hc : n ≤ c) (hA : A = none → n = 0) (hx : Rd w A (ccells Ls)) (hk : ∀ q ∈ Ls, q.k < 256) :
    Calls Try.prog 6 #[.slice A n c] w fun e w' => e = .returned (.bool true) ∧ New w w' := by
  obtain ⟨m, hm⟩ : ∃ m, min n 100 = m := ⟨_, rfl⟩
  have hmin : min (n : Int) 100 = (m : Int) := by omega
  have hm20 : m ≤ 100 := by omega
  have hmn : m ≤ n := by omega
  have hmni : (m : Int) ≤ (n : Int) := by omega
  have hmc : m ≤ c := by omega
  have hmci : (m : Int) ≤ (c : Int) := by omega
  have hx1 := hx.take (m * 4)
  rw [← ccells_take] at hx1
  have hl1 : (Ls.take m).length = m := by rw [List.length_take]; omega
  have hA1 : A = none → m = 0 := fun h => by have := hA h; omega
  have hk1 : ∀ q ∈ Ls.take m, q.k < 256 := fun q hq => hk q (List.mem_of_mem_take hq)
  generalize Ls.take m = L at *
  have HL := Bx.mk hl1
  have HA := Bx.mk hA1
  have HK := Bx.mk hk1
  obtain ⟨E, hE⟩ : ∃ E, lsE (-1) L = E := ⟨_, rfl⟩
  have BE := Bx.mk hE
  clear hl hA hA1 hx hl1 hm hk hk1 hE
  have CT := Bx.mk (fun w h => Twin_any A m c L w HL.out (by omega) HA.out h)
  have CL := Bx.mk (fun (A' : Option Addr) c' w h => by
    have := List_any A' m c' L w HL.out (by omega) h HK.out
    rw [BE.out] at this
    exact this)
  have CR := Bx.mk (fun w h => by
    have := refList_any A m c L w HL.out (by omega) h HK.out
    rw [BE.out] at this
    exact this)
  have CM := Bx.mk (fun (A' : Option Addr) c' w h => Mask_any A' m c' L w HL.out (by omega) h)
  have CN := Bx.mk (fun w h => refMask_any A m c L w HL.out (by omega) h)
  have CS := Bx.mk (fun (A' : Option Addr) c' w h h' => Same_any A' A m c' c L w HL.out (by omega) h h')
  generalize mk L = y at *
  go_enter Try.func6, Try.ntmps6
  repeat' (first | (first
    | ((with_reducible refine at_wpList ?_); refine wpList_min rfl _ _ _ _ rfl _ _ _ _ _ hmin rfl rfl ?_) | (go_at_call 9; go_loud ((with_reducible refine (awake_any _).mono ?_); rintro e w1 ⟨rfl, hu1⟩; dsimp only))
    | (go_at_call 17; go_loud ((with_reducible refine (CT.out _ (hx1.new hu1)).mono ?_); rintro e w2 ⟨v2, rfl, ho2, hu2⟩; (obtain ⟨A2, c2, rfl, _, _, hr2, _⟩ := own_rd ho2); have hN2 := hu1.trans hu2; dsimp only))
    | (go_at_call 18; go_loud ((with_reducible refine (CL.out A2 c2 _ hr2).mono ?_); rintro e w3 ⟨rfl, hu3⟩; have hN3 := hN2.trans hu3; have hr3 := hr2.new hu3; dsimp only))
    | (go_at_call 19; go_loud ((with_reducible refine (CR.out _ (hx1.new hN3)).mono ?_); rintro e w4 ⟨rfl, hu4⟩; have hN4 := hN3.trans hu4; have hr4 := hr3.new hu4; dsimp only))
    | (go_at_call 20; go_loud ((with_reducible refine (CM.out A2 c2 _ hr4).mono ?_); rintro e w5 ⟨rfl, hu5⟩; have hN5 := hN4.trans hu5; have hr5 := hr4.new hu5; dsimp only))
    | (go_at_call 21; go_loud ((with_reducible refine (CN.out _ (hx1.new hN5)).mono ?_); rintro e w6 ⟨rfl, hu6⟩; have hN6 := hN5.trans hu6; have hr6 := hr5.new hu6; dsimp only))
    | (go_at_call 22; go_loud ((with_reducible refine (CS.out A2 c2 _ hr6 (hx1.new hN6)).mono ?_); rintro e w7 ⟨rfl, hu7⟩; dsimp only))) | go_values | go_skip | go_guarded | go_step | go_upon | go_back)
  go_ret
  exact ⟨rfl, hN6.trans hu7⟩
end Go.Proofs.Ytcflbeifklhiaaa
