/- The document's examples of cells: walked. -/
import Derived.Test.YtaliadekdpbfdaaCa2
namespace Go.Proofs.Ytaliadekdpbfdaa
open Go.RowKit Go.Maps
def MA1 : Nat → Option (Int × Int) := mset M0 1024 (some (0, -1))
def MA2 : Nat → Option (Int × Int) := mset MA1 1024 (some (1, 0))
theorem ma1_eq : putM M0 1024 0 (-1) = MA1 := by
  unfold putM MA1
  rw [if_pos (by decide)]
  rfl
theorem ma2_eq : putM MA1 1024 16384 0 = MA2 := by
  unfold putM MA2
  rw [if_pos (by decide)]
  rfl
theorem ma2_at (x : Nat) (s : Int × Int) : MA2 x = some s ↔ x = 1024 ∧ s = (1, 0) := by
  unfold MA2 MA1 mset
  by_cases q : x = 1024
  · simp [q, eq_comm]
  · simp [q, M0]
set_option maxRecDepth 20000 in
set_option maxHeartbeats 4000000 in
theorem awake16_any (w : World) : Calls Try.prog 9 #[] w fun e w' => e = .returned (.bool true) ∧ New w w' := by
  have CN := Bx.mk (newG w.heap.size w (Nat.le_refl _))
  have CP1 := Bx.mk (fun {w' : World} {g : Nat} (h : GR w.heap.size w' g M0) => putG h few0 (by omega) 1024 1024 rfl (by omega) 0 (-1) (by unfold inI32; omega) (by unfold inI32; omega) 0 (by decide))
  have CW := Bx.mk (fun {w' : World} {g : Nat} (h : GR w.heap.size w' g MA1) => whereG h 1024 1024 rfl (by omega) (0, -1) (by decide) true (by decide))
  have CP2 := Bx.mk (fun {w' : World} {g : Nat} (h : GR w.heap.size w' g MA1) => putG h (ma1_eq ▸ few0.put 1024 0 (-1)) (by omega) 1024 1024 rfl (by omega) 16384 0 (by unfold inI32; omega) (by unfold inI32; omega) 0 (by decide))
  have F2 : Few MA2 2 := ma2_eq ▸ (ma1_eq ▸ few0.put 1024 0 (-1) : Few MA1 1).put 1024 16384 0
  have CA1 := Bx.mk (fun {w' : World} {g : Nat} (h : GR w.heap.size w' g MA2) => atG h F2 (by omega) 1 0 (by unfold inI64; omega) (by unfold inI64; omega) [1024] (by simp) (fun x => by rw [ma2_at]; simp) 1 rfl)
  have CA2 := Bx.mk (fun {w' : World} {g : Nat} (h : GR w.heap.size w' g MA2) => atG h F2 (by omega) 0 (-1) (by unfold inI64; omega) (by unfold inI64; omega) [] (by simp) (fun x => by rw [ma2_at]; simp) 0 rfl)
  have CU := Bx.mk (fun {w' : World} {g : Nat} (h : GR w.heap.size w' g MA2) => usedG h [(1, 0)] (by simp) (fun s => by simp only [ma2_at]; simp) 1 rfl)
  have CS := Bx.mk (fun (A B : Option Addr) (c d : Nat) (w' : World) (hx : Rd w' A (idv [1024])) (hy : Rd w' B (idv [1024])) => same_any A B 1 1 c d [1024] [1024] w' hx hy rfl rfl (by omega))
  clear F2
  go_enter Try.func9, Try.ntmps9
  repeat' (first | (first
    | ((go_at_call 11; (with_reducible refine (CN.out).mono ?_); rintro e w1 ⟨g, rfl, G1, U1, hg⟩; dsimp only))
    | (have _m := U2; have _m2 := G3; (go_at_call 12; (with_reducible refine (CP2.out G3).mono ?_); rintro e w4 ⟨rfl, V4, G4⟩; rw [ma2_eq] at G4; have U4 := U3.trans V4; clear _m _m2 U2 U3 V4 G3; dsimp only))
    | ((go_at_call 12; (with_reducible refine (CP1.out G1).mono ?_); rintro e w2 ⟨rfl, U2, G2⟩; rw [ma1_eq] at G2; clear G1; dsimp only))
    | ((go_at_call 17; (with_reducible refine (CW.out G2).mono ?_); rintro e w3 ⟨rfl, V3⟩; have G3 := G2.new V3; have U3 := U2.trans (GUpd.new V3); clear G2; dsimp only))
    | (have _m := R7; (go_at_call 14; (with_reducible refine (CU.out G7).mono ?_); rintro e w8 ⟨rfl, rfl⟩; dsimp only))
    | (have _m := V6; (go_at_call 13; (with_reducible refine (CA2.out G6).mono ?_); rintro e w7 ⟨A7, c7, rfl, R7, _, V7⟩; have G7 := G6.new V7; have U7 := U6.trans (GUpd.new V7); dsimp only))
    | (have _m := L5; (go_at_call 15; (with_reducible refine (CS.out _ _ _ _ _ R5' L5).mono ?_); rintro e w6 ⟨rfl, V6⟩; have G6 := G5'.new V6; have U6 := U5'.trans (GUpd.new V6); dsimp only))
    | ((go_at_call 13; (with_reducible refine (CA1.out G4).mono ?_); rintro e w5 ⟨A5, c5, rfl, R5, _, V5⟩; have G5 := G4.new V5; have U5 := U4.trans (GUpd.new V5); have AL := (Upd.refl Nowhere w5).alloc (.cells #[.int .u32 1024] 27); have R5' := R5.new AL; have G5' := G5.new AL; have U5' := U5.trans (GUpd.new AL); have L5 := rd_new w5 [.int .u32 1024] 27; clear G4 U4 G5 U5 R5 V5 AL; dsimp only))) | go_values | go_skip | go_guarded | go_step | go_upon | go_back)
  go_returns
  exact ⟨rfl, GUpd.now U1 U7⟩
end Go.Proofs.Ytaliadekdpbfdaa
