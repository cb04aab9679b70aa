/- A component read behind another one: moved: walked. -/
import Derived.Test.YtpfdbkfjjjiamaaCmG1
import Derived.Test.YtpfdbkfjjjiamaaNm2
import Derived.StillTailTactics
namespace Go.Proofs.Ytpfdbkfjjjiamaa
open Go.RowKit
/-- a field behind what it was: the error, the field, the rest -/
def mv (k : Nat) (W : List Int) (i : Nat) (R : List Bool) : Int × Int × List Bool :=
  if Bi.getErr R 1 ≠ 0 then (Bi.getErr R 1, W.getD i 0, R)
  else if Bi.getVal R 1 = 0 then (0, W.getD i 0, Bi.getRest R 1)
  else if Bi.getErr (Bi.getRest R 1) 1 ≠ 0 then (Bi.getErr (Bi.getRest R 1) 1, 0, R)
  else if Bi.getVal (Bi.getRest R 1) 1 = 0 then
    (if cgE k i (Bi.getRest (Bi.getRest R 1) 1) = 0 ∧ zig (cgV k i (Bi.getRest (Bi.getRest R 1) 1) - W.getD i 0) ≤ 16 then (4, 0, R)
     else (cgE k i (Bi.getRest (Bi.getRest R 1) 1), cgV k i (Bi.getRest (Bi.getRest R 1) 1), cgS k i (Bi.getRest (Bi.getRest R 1) 1)))
  else if Bi.getErr (Bi.getRest (Bi.getRest R 1) 1) 4 ≠ 0 then (Bi.getErr (Bi.getRest (Bi.getRest R 1) 1) 4, 0, R)
  else if W.getD i 0 + zag (Bi.getVal (Bi.getRest (Bi.getRest R 1) 1) 4 + 1) < rngLo k i ∨ rngHi k i < W.getD i 0 + zag (Bi.getVal (Bi.getRest (Bi.getRest R 1) 1) 4 + 1) then (5, 0, R)
  else (0, W.getD i 0 + zag (Bi.getVal (Bi.getRest (Bi.getRest R 1) 1) 4 + 1), Bi.getRest (Bi.getRest (Bi.getRest R 1) 1) 4)
theorem getVal_lt (R : List Bool) (n : Nat) : Bi.getVal R n < 2 ^ n := by
  unfold Bi.getVal
  split
  · refine Nat.lt_of_lt_of_le (Bi.numOf_lt _) (Nat.pow_le_pow_right (by decide) ?_)
    rw [List.length_take, Int.toNat_natCast]; omega
  · exact Nat.pow_pos (by decide)
theorem zag_bd (z : Nat) (hz : z ≤ 16) : -20 ≤ zag z ∧ zag z ≤ 20 := by unfold zag; split <;> omega
set_option maxRecDepth 20000 in
set_option maxHeartbeats 8000000 in
theorem moved_any {w : World} {g a : Nat} {v : Value} {P : List (BitVec 8)} (h : IsR w g v P a) (R : List Bool) (hR : (Bi.bitsOf P).drop a = R) (ha : a ≤ 8 * P.length) (hm : P.length ≤ 1000000) (k i : Nat) (a0 b0 c0 : Int) (hk : k < 256) (hi : i < (flds k).length) (hlo : rngLo k i ≤ [a0, b0, c0].getD i 0) (hhi : [a0, b0, c0].getD i 0 ≤ rngHi k i) :
    Calls Try.prog 50 #[.pointer (some ⟨g, 0, none⟩), .agg #[.int .u8 k, .int .i32 a0, .int .i32 b0, .int .i32 c0], .int .i64 i] w fun e w' => e = .returned (.tuple #[.int .i32 (mv k [a0, b0, c0] i R).2.1, .int .i64 (mv k [a0, b0, c0] i R).1]) ∧ ∃ a', IsR w' g v P a' ∧ ((mv k [a0, b0, c0] i R).1 = 0 → (Bi.bitsOf P).drop a' = (mv k [a0, b0, c0] i R).2.2) ∧ a' ≤ 8 * P.length ∧ Upd (fun b => b = g) w w' := by
  have hfl := flds_len k
  have hi3 : i < 3 := by omega
  have hb := rng_bd k i hi
  have hgl : g < w.heap.size := (Array.getElem?_eq_some_iff.1 h.obj).1
  have hAl : New w (w.alloc (.cells #[.int .u8 k, .int .i32 a0, .int .i32 b0, .int .i32 c0] 24)) := (Upd.refl _ w).alloc _
  have hX0 := comp_new w k a0 b0 c0 i hi3
  have hX1 := comp_kind w k a0 b0 c0
  have hng : w.heap.size ≠ g := by omega
  have HNG := Bx.mk hng
  have h1 := h.new hAl
  obtain ⟨MV, HW⟩ : ∃ MV, mv k [a0, b0, c0] i R = MV := ⟨_, rfl⟩
  rw [HW]
  obtain ⟨f, hf⟩ : ∃ f, [a0, b0, c0].getD i 0 = f := ⟨_, rfl⟩
  rw [hf] at hX0 hlo hhi
  have HX0 := Bx.mk hX0
  have HX1 := Bx.mk hX1
  have hii : (i : Int) < 3 := by omega
  have HPM := Bx.mk hm
  have HAL := Bx.mk hAl
  obtain ⟨E1, hE1⟩ : ∃ E1, Bi.getErr R 1 = E1 := ⟨_, rfl⟩
  obtain ⟨V1, hV1⟩ : ∃ V1, Bi.getVal R 1 = V1 := ⟨_, rfl⟩
  obtain ⟨R1, hR1⟩ : ∃ R1, Bi.getRest R 1 = R1 := ⟨_, rfl⟩
  have G1 := Bx.mk (Get_e h1 R 1 hR ha hm (by omega) (by omega) V1 E1 (by rw [hV1]) hE1 R1 hR1)
  have M0 := HW
  unfold mv at M0
  rw [hE1, hV1, hR1, hf] at M0
  clear HW hR ha
  by_cases hz1 : E1 = 0
  · subst hz1
    rw [if_neg (by simp)] at M0
    by_cases hv1 : V1 = 0
    · subst hv1
      rw [if_pos rfl] at M0
      have M := Bx.mk M0
      clear M0 hE1 hV1 hR1 hf hlo hhi hb
      rw [← M.out]
      go_enter Try.func50, Try.ntmps50
      repeat' (first | (first
        | (go_at_call 16; (with_reducible refine (G1.out).mono ?_); rintro e w1 ⟨rfl, a1, hI1, hr1, ha1, hU1⟩; (have x0 := hU1.cell HX0.out HNG.out); dsimp only)) | go_values | go_skip | go_guarded | go_step | go_upon | go_back)
      go_returns
      exact ⟨rfl, a1, hI1, fun _ => hr1, ha1, (New.upd HAL.out).trans hU1⟩
    · rw [if_neg hv1] at M0
      have hv1i : ¬ (V1 : Int) = 0 := by omega
      have hv1b : ((V1 : Int) == 0) = false := by simpa using hv1i
      obtain ⟨E2, hE2⟩ : ∃ E2, Bi.getErr R1 1 = E2 := ⟨_, rfl⟩
      obtain ⟨V2, hV2⟩ : ∃ V2, Bi.getVal R1 1 = V2 := ⟨_, rfl⟩
      obtain ⟨R2, hR2⟩ : ∃ R2, Bi.getRest R1 1 = R2 := ⟨_, rfl⟩
      have G2 := Bx.mk (fun {w1 : World} {a1 : Nat} (hI1 : IsR w1 g v P a1) (hr1 : (Bi.bitsOf P).drop a1 = R1) (ha1 : a1 ≤ 8 * P.length) => Get_e hI1 R1 1 hr1 ha1 HPM.out (by omega) (by omega) V2 E2 (by rw [hV2]) hE2 R2 hR2)
      rw [hE2, hV2, hR2] at M0
      by_cases hz2 : E2 = 0
      · subst hz2
        rw [if_neg (by simp)] at M0
        by_cases hv2 : V2 = 0
        · subst hv2
          rw [if_pos rfl] at M0
          have CI := Bx.mk (fun {w2 : World} {a2 : Nat} (hI2 : IsR w2 g v P a2) (hr2 : (Bi.bitsOf P).drop a2 = R2) (ha2 : a2 ≤ 8 * P.length) => in_any hI2 R2 hr2 ha2 HPM.out k i hk hi)
          have hvb := giV_bd R2 (rngLo k i) (rngHi k i) (rng_le k i hi) (by omega) (by omega)
          change -1000000 ≤ cgV k i R2 ∧ cgV k i R2 ≤ 1000000 at hvb
          generalize cgE k i R2 = E3 at *
          generalize cgV k i R2 = V3 at *
          generalize cgS k i R2 = R3 at *
          have CZ := Bx.mk (fun w => Zig_any (V3 - f) w (by omega) (by omega))
          have w1' : IntKind.i64.wrap V3 = V3 := by rw [IntKind.wrap_i64]; omega
          have w2' : IntKind.i64.wrap f = f := by rw [IntKind.wrap_i64]; omega
          have w3' : IntKind.i64.wrap (V3 - f) = V3 - f := by rw [IntKind.wrap_i64]; omega
          obtain ⟨Z, hZ⟩ : ∃ Z, zig (V3 - f) = Z := ⟨_, rfl⟩
          rw [hZ] at CZ M0
          clear hE1 hV1 hR1 hf hlo hhi hb hE2 hV2 hR2 hZ hvb
          by_cases hE3 : E3 = 0
          · subst hE3
            by_cases hZ16 : Z ≤ 16
            · rw [if_pos ⟨rfl, hZ16⟩] at M0
              have M := Bx.mk M0
              clear M0
              rw [← M.out]
              go_enter Try.func50, Try.ntmps50
              repeat' (first | (first
                | (have _m := hI2; (go_at_call 43; (with_reducible refine (CI.out hI2 hr2 ha2).mono ?_); rintro e w3 ⟨rfl, a3, hI3, hr3, ha3, hU3⟩; (have y0 := hU3.cell x0' HNG.out); dsimp only))
                | (have _m := hI2; (go_at_call 59; (with_reducible refine (CZ.out _).mono ?_); rintro e w4 ⟨rfl, e4⟩; subst e4; dsimp only))
                | (have _m := hI1; (go_at_call 16; (with_reducible refine (G2.out hI1 hr1 ha1).mono ?_); rintro e w2 ⟨rfl, a2, hI2, hr2, ha2, hU2⟩; (have x0' := hU2.cell x0 HNG.out); (have x1' := hU2.cell x1 HNG.out); dsimp only))
                | (go_at_call 16; (with_reducible refine (G1.out).mono ?_); rintro e w1 ⟨rfl, a1, hI1, hr1, ha1, hU1⟩; (have x0 := hU1.cell HX0.out HNG.out); (have x1 := hU1.cell HX1.out HNG.out); dsimp only)) | go_values | go_skip | go_guarded | go_step | go_upon | go_back)
              go_returns
              exact ⟨rfl, a3, hI3, (fun q => absurd q (by decide)), ha3, (((New.upd HAL.out).trans hU1).trans hU2).trans hU3⟩
            · rw [if_neg (fun q => hZ16 q.2)] at M0
              have M := Bx.mk M0
              clear M0
              rw [← M.out]
              go_enter Try.func50, Try.ntmps50
              repeat' (first | (first
                | (have _m := hI2; (go_at_call 43; (with_reducible refine (CI.out hI2 hr2 ha2).mono ?_); rintro e w3 ⟨rfl, a3, hI3, hr3, ha3, hU3⟩; (have y0 := hU3.cell x0' HNG.out); dsimp only))
                | (have _m := hI2; (go_at_call 59; (with_reducible refine (CZ.out _).mono ?_); rintro e w4 ⟨rfl, e4⟩; subst e4; dsimp only))
                | (have _m := hI1; (go_at_call 16; (with_reducible refine (G2.out hI1 hr1 ha1).mono ?_); rintro e w2 ⟨rfl, a2, hI2, hr2, ha2, hU2⟩; (have x0' := hU2.cell x0 HNG.out); (have x1' := hU2.cell x1 HNG.out); dsimp only))
                | (go_at_call 16; (with_reducible refine (G1.out).mono ?_); rintro e w1 ⟨rfl, a1, hI1, hr1, ha1, hU1⟩; (have x0 := hU1.cell HX0.out HNG.out); (have x1 := hU1.cell HX1.out HNG.out); dsimp only)) | go_values | go_skip | go_guarded | go_step | go_upon | go_back)
              go_returns
              exact ⟨rfl, a3, hI3, fun _ => hr3, ha3, (((New.upd HAL.out).trans hU1).trans hU2).trans hU3⟩
          · rw [if_neg (fun q => hE3 q.1)] at M0
            have hEb : (E3 == 0) = false := by simpa using hE3
            have M := Bx.mk M0
            clear M0
            rw [← M.out]
            go_enter Try.func50, Try.ntmps50
            repeat' (first | (first
              | (have _m := hI2; (go_at_call 43; (with_reducible refine (CI.out hI2 hr2 ha2).mono ?_); rintro e w3 ⟨rfl, a3, hI3, hr3, ha3, hU3⟩; (have y0 := hU3.cell x0' HNG.out); dsimp only))
              | (have _m := hI1; (go_at_call 16; (with_reducible refine (G2.out hI1 hr1 ha1).mono ?_); rintro e w2 ⟨rfl, a2, hI2, hr2, ha2, hU2⟩; (have x0' := hU2.cell x0 HNG.out); (have x1' := hU2.cell x1 HNG.out); dsimp only))
              | (go_at_call 16; (with_reducible refine (G1.out).mono ?_); rintro e w1 ⟨rfl, a1, hI1, hr1, ha1, hU1⟩; (have x0 := hU1.cell HX0.out HNG.out); (have x1 := hU1.cell HX1.out HNG.out); dsimp only)) | go_values | go_skip | go_guarded | go_step | go_upon | go_back)
            go_returns
            exact ⟨rfl, a3, hI3, fun q => absurd q hE3, ha3, (((New.upd HAL.out).trans hU1).trans hU2).trans hU3⟩
        · rw [if_neg hv2] at M0
          have hv2i : ¬ (V2 : Int) = 0 := by omega
          have hv2b : ((V2 : Int) == 0) = false := by simpa using hv2i
          obtain ⟨E3, hE3⟩ : ∃ E3, Bi.getErr R2 4 = E3 := ⟨_, rfl⟩
          obtain ⟨V3, hV3⟩ : ∃ V3, Bi.getVal R2 4 = V3 := ⟨_, rfl⟩
          obtain ⟨R3, hR3⟩ : ∃ R3, Bi.getRest R2 4 = R3 := ⟨_, rfl⟩
          have hV16 : V3 < 16 := by rw [← hV3]; exact getVal_lt R2 4
          have G3 := Bx.mk (fun {w2 : World} {a2 : Nat} (hI2 : IsR w2 g v P a2) (hr2 : (Bi.bitsOf P).drop a2 = R2) (ha2 : a2 ≤ 8 * P.length) => Get_e hI2 R2 4 hr2 ha2 HPM.out (by omega) (by omega) V3 E3 (by rw [hV3]) hE3 R3 hR3)
          rw [hE3, hV3, hR3] at M0
          by_cases hz3 : E3 = 0
          · subst hz3
            rw [if_neg (by simp)] at M0
            have hzb := zag_bd (V3 + 1) (by omega)
            have CZ := Bx.mk (fun w => Zag_any (V3 + 1) w (by omega))
            obtain ⟨Z, hZ⟩ : ∃ Z, zag (V3 + 1) = Z := ⟨_, rfl⟩
            rw [hZ] at CZ M0 hzb
            have CR := Bx.mk (fun w => Range_any k (i : Int) w hk)
            generalize rngLo k (i : Int) = lo at *
            generalize rngHi k (i : Int) = hh at *
            generalize rngE k (i : Int) = re at *
            have w1' : IntKind.u64.wrap ((V3 : Int) + 1) = ((V3 + 1 : Nat) : Int) := by rw [IntKind.wrap_u64]; omega
            have w2' : IntKind.i64.wrap f = f := by rw [IntKind.wrap_i64]; omega
            have w3' : IntKind.i64.wrap (f + Z) = f + Z := by rw [IntKind.wrap_i64]; omega
            have w4' : IntKind.i64.wrap lo = lo := by rw [IntKind.wrap_i64]; omega
            have w5' : IntKind.i64.wrap hh = hh := by rw [IntKind.wrap_i64]; omega
            have w6' : IntKind.i32.wrap (f + Z) = f + Z := by rw [IntKind.wrap_i32]; omega
            clear hE1 hV1 hR1 hf hlo hhi hb hE2 hV2 hR2 hZ hzb hE3 hV3 hR3
            by_cases hrg : f + Z < lo ∨ hh < f + Z
            · rw [if_pos hrg] at M0
              have M := Bx.mk M0
              clear M0
              rw [← M.out]
              clear w6'
              by_cases hrl : f + Z < lo
              · clear hrg
                go_enter Try.func50, Try.ntmps50
                repeat' (first | (first
                  | (have _m := hI2; (go_at_call 16; (with_reducible refine (G3.out hI2 hr2 ha2).mono ?_); rintro e w3 ⟨rfl, a3, hI3, hr3, ha3, hU3⟩; (have y0 := hU3.cell x0' HNG.out); (have y1 := hU3.cell x1' HNG.out); dsimp only))
                  | (have _m := hI1; (go_at_call 16; (with_reducible refine (G2.out hI1 hr1 ha1).mono ?_); rintro e w2 ⟨rfl, a2, hI2, hr2, ha2, hU2⟩; (have x0' := hU2.cell x0 HNG.out); (have x1' := hU2.cell x1 HNG.out); dsimp only))
                  | (go_at_call 16; (with_reducible refine (G1.out).mono ?_); rintro e w1 ⟨rfl, a1, hI1, hr1, ha1, hU1⟩; (have x0 := hU1.cell HX0.out HNG.out); (have x1 := hU1.cell HX1.out HNG.out); dsimp only)) | go_values | go_skip | go_guarded | go_step | go_upon | go_back)
                refine wp_region_still_lit (by kernel_rfl) (by kernel_rfl) ?_
                repeat still_step
                still_call (CZ.out _)
                repeat still_step
                refine wpStill_nil ?_
                change Exit.then _ _ _ _ w3.drew
                have z1 : w3.drew.cell? ⟨w.heap.size, 0, none⟩ = some (.int .u8 k) := y1
                repeat' (first | (go_at_call 57; (with_reducible refine (CR.out _).mono ?_); rintro e w5 ⟨rfl, hu5⟩; dsimp only) | go_values | go_skip | go_guarded | go_step | go_upon | go_back)
                have hI5 := hI3.new (((Upd.refl Nowhere w3).drew).trans hu5)
                go_returns
                exact ⟨rfl, a3, hI5, (fun q => absurd q (by decide)), ha3, ((((New.upd HAL.out).trans hU1).trans hU2).trans hU3).trans (New.upd (((Upd.refl _ w3).drew).trans hu5))⟩
              · have hrh : hh < f + Z := hrg.resolve_left hrl
                clear hrg
                go_enter Try.func50, Try.ntmps50
                repeat' (first | (first
                  | (have _m := hI2; (go_at_call 16; (with_reducible refine (G3.out hI2 hr2 ha2).mono ?_); rintro e w3 ⟨rfl, a3, hI3, hr3, ha3, hU3⟩; (have y0 := hU3.cell x0' HNG.out); (have y1 := hU3.cell x1' HNG.out); dsimp only))
                  | (have _m := hI1; (go_at_call 16; (with_reducible refine (G2.out hI1 hr1 ha1).mono ?_); rintro e w2 ⟨rfl, a2, hI2, hr2, ha2, hU2⟩; (have x0' := hU2.cell x0 HNG.out); (have x1' := hU2.cell x1 HNG.out); dsimp only))
                  | (go_at_call 16; (with_reducible refine (G1.out).mono ?_); rintro e w1 ⟨rfl, a1, hI1, hr1, ha1, hU1⟩; (have x0 := hU1.cell HX0.out HNG.out); (have x1 := hU1.cell HX1.out HNG.out); dsimp only)) | go_values | go_skip | go_guarded | go_step | go_upon | go_back)
                refine wp_region_still_lit (by kernel_rfl) (by kernel_rfl) ?_
                repeat still_step
                still_call (CZ.out _)
                repeat still_step
                refine wpStill_nil ?_
                change Exit.then _ _ _ _ w3.drew
                have z1 : w3.drew.cell? ⟨w.heap.size, 0, none⟩ = some (.int .u8 k) := y1
                repeat' (first | (go_at_call 57; (with_reducible refine (CR.out _).mono ?_); rintro e w5 ⟨rfl, hu5⟩; dsimp only) | go_values | go_skip | go_guarded | go_step | go_upon | go_back)
                have hI5 := hI3.new (((Upd.refl Nowhere w3).drew).trans hu5)
                go_returns
                exact ⟨rfl, a3, hI5, (fun q => absurd q (by decide)), ha3, ((((New.upd HAL.out).trans hU1).trans hU2).trans hU3).trans (New.upd (((Upd.refl _ w3).drew).trans hu5))⟩
            · rw [if_neg hrg] at M0
              have hrl : ¬ f + Z < lo := fun q => hrg (.inl q)
              have hrh : ¬ hh < f + Z := fun q => hrg (.inr q)
              have M := Bx.mk M0
              clear M0 hrg
              rw [← M.out]
              go_enter Try.func50, Try.ntmps50
              repeat' (first | (first
                | (have _m := hI2; (go_at_call 16; (with_reducible refine (G3.out hI2 hr2 ha2).mono ?_); rintro e w3 ⟨rfl, a3, hI3, hr3, ha3, hU3⟩; (have y0 := hU3.cell x0' HNG.out); (have y1 := hU3.cell x1' HNG.out); dsimp only))
                | (have _m := hI1; (go_at_call 16; (with_reducible refine (G2.out hI1 hr1 ha1).mono ?_); rintro e w2 ⟨rfl, a2, hI2, hr2, ha2, hU2⟩; (have x0' := hU2.cell x0 HNG.out); (have x1' := hU2.cell x1 HNG.out); dsimp only))
                | (go_at_call 16; (with_reducible refine (G1.out).mono ?_); rintro e w1 ⟨rfl, a1, hI1, hr1, ha1, hU1⟩; (have x0 := hU1.cell HX0.out HNG.out); (have x1 := hU1.cell HX1.out HNG.out); dsimp only)) | go_values | go_skip | go_guarded | go_step | go_upon | go_back)
              refine wp_region_still_lit (by kernel_rfl) (by kernel_rfl) ?_
              repeat still_step
              still_call (CZ.out _)
              repeat still_step
              refine wpStill_nil ?_
              change Exit.then _ _ _ _ w3.drew
              have z1 : w3.drew.cell? ⟨w.heap.size, 0, none⟩ = some (.int .u8 k) := y1
              repeat' (first | (go_at_call 57; (with_reducible refine (CR.out _).mono ?_); rintro e w5 ⟨rfl, hu5⟩; dsimp only) | go_values | go_skip | go_guarded | go_step | go_upon | go_back)
              have hI5 := hI3.new (((Upd.refl Nowhere w3).drew).trans hu5)
              go_returns
              exact ⟨rfl, a3, hI5, fun _ => hr3, ha3, ((((New.upd HAL.out).trans hU1).trans hU2).trans hU3).trans (New.upd (((Upd.refl _ w3).drew).trans hu5))⟩
          · rw [if_pos hz3] at M0
            have hEb : (E3 == 0) = false := by simpa using hz3
            have M := Bx.mk M0
            clear M0 hE1 hV1 hR1 hf hlo hhi hb hE2 hV2 hR2 hE3 hV3 hR3
            rw [← M.out]
            go_enter Try.func50, Try.ntmps50
            repeat' (first | (first
              | (have _m := hI2; (go_at_call 16; (with_reducible refine (G3.out hI2 hr2 ha2).mono ?_); rintro e w3 ⟨rfl, a3, hI3, hr3, ha3, hU3⟩; dsimp only))
              | (have _m := hI1; (go_at_call 16; (with_reducible refine (G2.out hI1 hr1 ha1).mono ?_); rintro e w2 ⟨rfl, a2, hI2, hr2, ha2, hU2⟩; (have x0' := hU2.cell x0 HNG.out); dsimp only))
              | (go_at_call 16; (with_reducible refine (G1.out).mono ?_); rintro e w1 ⟨rfl, a1, hI1, hr1, ha1, hU1⟩; (have x0 := hU1.cell HX0.out HNG.out); dsimp only)) | go_values | go_skip | go_guarded | go_step | go_upon | go_back)
            go_returns
            exact ⟨rfl, a3, hI3, fun q => absurd q hz3, ha3, (((New.upd HAL.out).trans hU1).trans hU2).trans hU3⟩
      · rw [if_pos hz2] at M0
        have hEb : (E2 == 0) = false := by simpa using hz2
        have M := Bx.mk M0
        clear M0 hE1 hV1 hR1 hf hlo hhi hb hE2 hV2 hR2
        rw [← M.out]
        go_enter Try.func50, Try.ntmps50
        repeat' (first | (first
          | (have _m := hI1; (go_at_call 16; (with_reducible refine (G2.out hI1 hr1 ha1).mono ?_); rintro e w2 ⟨rfl, a2, hI2, hr2, ha2, hU2⟩; dsimp only))
          | (go_at_call 16; (with_reducible refine (G1.out).mono ?_); rintro e w1 ⟨rfl, a1, hI1, hr1, ha1, hU1⟩; (have x0 := hU1.cell HX0.out HNG.out); dsimp only)) | go_values | go_skip | go_guarded | go_step | go_upon | go_back)
        go_returns
        exact ⟨rfl, a2, hI2, fun q => absurd q hz2, ha2, ((New.upd HAL.out).trans hU1).trans hU2⟩
  · rw [if_pos hz1] at M0
    have hEb : (E1 == 0) = false := by simpa using hz1
    have M := Bx.mk M0
    clear M0 hE1 hV1 hR1 hf hlo hhi hb
    rw [← M.out]
    go_enter Try.func50, Try.ntmps50
    repeat' (first | (first
      | (go_at_call 16; (with_reducible refine (G1.out).mono ?_); rintro e w1 ⟨rfl, a1, hI1, hr1, ha1, hU1⟩; (have x0 := hU1.cell HX0.out HNG.out); dsimp only)) | go_values | go_skip | go_guarded | go_step | go_upon | go_back)
    go_returns
    exact ⟨rfl, a1, hI1, fun q => absurd q hz1, ha1, (New.upd HAL.out).trans hU1⟩
end Go.Proofs.Ytpfdbkfjjjiamaa
