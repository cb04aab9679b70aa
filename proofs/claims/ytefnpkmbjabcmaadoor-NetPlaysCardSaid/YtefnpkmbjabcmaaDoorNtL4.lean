/- NetPlays: walked where there is no bag; then whatever the number. -/
import Derived.Test.YtefnpkmbjabcmaaDoorNtL3
import Derived.Test.YtefnpkmbjabcmaaDoorBigM
namespace Go.Proofs.YtefnpkmbjabcmaaDoor
open Go.RowKit
theorem BagPutNil (w : World) (o : Value) (tq : Int) (A : Option Addr) (n c : Nat) (ho : o = .agg #[.int .i64 tq, .slice A n c]) :
    Calls Tryd.prog 12 #[.pointer none, o] w fun e w' => e = .returned (.int .i64 10) ∧ New w w' := by
  subst ho
  go_enter Tryd.func12, Tryd.ntmps12
  go_wp2
  go_ret
  exact ⟨rfl, (Upd.refl _ _).alloc _⟩
set_option maxRecDepth 100000 in
set_option maxHeartbeats 16000000 in
/-- where there is none -/
theorem NetPlays_none (m : Int) (hm : m < 1 ∨ m > 2048) (hm1 : -9223372036854775808 ≤ m) (hm2 : m ≤ 9223372036854775807) (A : Option Addr) (n c : Nat) (os : List OpIt) (w : World) (hl : os.length = n) (hnc : n ≤ c) (hx : IsOps w A os) (ht : IsTab w) :
    Calls Tryd.prog 6 #[.int .i64 m, .slice A n c] w fun e w' => e = .returned (.bool true) ∧ New w w' := by
  have HL := Bx.mk hl
  clear hl
  have hN1 : ∀ w, Calls Tryd.prog 11 #[.int .i64 m] w fun e w' => e = .returned (.tuple #[.pointer none, .int .i64 1]) ∧ w = w' := fun w => by
    refine (NetNew_any m w hm1 hm2).mono fun e w' h => ?_
    simp only [if_pos hm] at h
    exact ⟨h.1, h.2.symm⟩
  have hN2 : ∀ w, Calls Tryd.prog 17 #[.int .i64 m] w fun e w' => e = .returned (.tuple #[.pointer none, .int .i64 1]) ∧ w = w' := fun w => by
    refine (RefNew_any m w hm1 hm2).mono fun e w' h => ?_
    simp only [if_pos hm] at h
    exact ⟨h.1, h.2.symm⟩
  clear hm hm1 hm2
  go_enter Tryd.func6, Tryd.ntmps6
  go_upto_block 0 with (first
    | (go_at_call 7; (with_reducible refine (awake_any _ ht).mono ?_); rintro e w1 ⟨rfl, hu1⟩; dsimp only)
    | (go_at_call 11; (with_reducible refine (hN1 w1).mono ?_); rintro e w2 ⟨rfl, rfl⟩; dsimp only)
    | (go_at_call 17; (with_reducible refine (hN2 _).mono ?_); rintro e w3 ⟨rfl, rfl⟩; dsimp only))
  clear hN1 hN2
  have hW1 := Upd.refl Nowhere w1
  go_wp2
  refine wp_loopM [none, none, none, none, some 4, none, none, none, none, some 9, some 10, some 11, some 12, some 13, some 14, some 15, some 16, some 17, some 18, some 19, some 20, some 21, some 22, some 23, some 24, some 25, some 26, some 27, some 28, some 29, some 30, some 31, some 32, some 33, some 34, some 35, none, none, none, none, none, none, none, none, none, none, none, none, none, none, none, none, none, none, none, none, none, none, none, none, some 60, some 61, some 62, some 63, some 64, some 65, some 66, some 67, some 68, some 69, some 70, some 71, some 72, some 73, some 74, some 75, some 76, some 77, some 78, some 79, some 80, some 81, some 82, some 83, some 84, some 85, some 86, some 87, some 88, some 89, some 90, some 91, some 92, some 93, some 94, some 95, some 96, some 97, some 98, some 99, some 100, some 101, some 102, some 103, some 104, some 105, some 106, some 107, some 108, some 109, some 110, some 111, some 112, some 113, some 114, some 115, some 116, some 117, some 118, some 119, some 120, some 121, some 122, some 123, some 124, some 125, some 126, some 127, some 128, some 129, some 130, some 131, some 132, some 133, some 134, some 135, some 136, some 137, some 138, some 139, some 140, some 141, some 142, some 143, some 144, some 145, some 146, some 147, some 148, some 149, some 150, some 151, some 152, some 153, some 154, some 155, some 156, some 157, some 158, some 159, some 160, some 161, some 162, some 163, some 164, some 165, some 166, some 167, some 168, some 169, some 170, some 171, some 172, some 173, some 174, some 175, some 176, some 177, some 178, some 179, some 180, some 181, some 182, some 183, some 184, some 185, some 186, some 187, some 188, some 189, some 190, some 191, some 192, some 193, some 194, some 195, some 196, some 197, some 198, some 199, some 200, some 201, some 202, some 203, some 204, some 205, some 206, some 207, some 208, some 209, some 210, some 211, some 212, some 213, some 214, some 215, some 216, some 217, some 218, some 219, some 220, some 221, some 222, some 223, some 224, some 225, some 226, some 227, some 228, some 229, some 230, some 231, some 232, some 233, some 234, some 235, some 236, some 237, some 238, some 239, some 240, some 241, some 242, some 243, some 244, some 245, some 246, some 247, some 248, some 249, some 250, some 251, some 252, some 253, some 254, some 255, some 256, some 257, some 258, some 259, some 260, some 261, some 262, some 263, some 264, some 265, some 266, some 267, some 268, some 269, some 270, some 271, some 272, some 273, some 274, some 275, some 276, some 277, some 278, some 279, some 280, some 281, some 282, some 283, some 284, some 285, some 286, some 287, some 288, some 289, some 290, some 291, some 292, some 293, some 294, some 295, some 296, some 297, some 298, some 299, some 300, some 301, some 302, some 303, some 304, some 305, some 306, some 307, some 308, some 309, some 310, some 311, some 312, some 313, some 314, some 315, some 316, some 317, some 318, some 319, some 320, some 321, some 322, some 323, some 324, some 325, some 326, some 327, some 328, some 329, some 330, some 331, some 332, some 333, some 334, some 335, some 336, some 337] (fun fs wr d => (fun i wr d => ∃ (j : Nat), j ≤ n ∧ i = .int .i64 j ∧ New w1 wr ∧ d = n - j) (fs 60) wr d) (by kernel_rfl) ?atStart ?round
  case' atStart => simp only [slotsOf, List.getD_cons_succ, List.getD_cons_zero]
  case' round => (intro dM_ J_ K_ fs wr hrel hJ_ hK_; simp only [Mix]; generalize fs 60 = u60 at hrel ⊢; try dsimp only at hrel)
  case atStart => exact ⟨_, 0, by omega, rfl, hW1, rfl⟩
  case round =>
    clear hW1
    obtain ⟨j, hj, rfl, hN, rfl⟩ := hrel
    by_cases hlt : j < n
    · by_cases h80 : 80 ≤ j
      · have hji : (j : Int) < (n : Int) := by omega
        have h80i : (80 : Int) ≤ (j : Int) := by omega
        obtain ⟨b0, off, rfl, c0, c1, c2, c3, c4, c5, -⟩ := ((hx.new hu1).new hN).at_ j (by rw [HL.out]; exact hlt)
        go_wp2
        go_ret
        exact ⟨rfl, (hu1.trans hN).alloc _⟩
      · have hok := ((hx.new hu1).new hN).at_ j (by rw [HL.out]; exact hlt)
        have hokW := (hx.new hu1).each _ (List.getElem_mem (show j < os.length by rw [HL.out]; exact hlt))
        generalize os[j]'(by rw [HL.out]; exact hlt) = o at hok hokW
        obtain ⟨b0, off, rfl, c0, c1, c2, c3, c4, c5, hd256, hfc, hBn, hrB, hto, hI, hAt, hpat⟩ := hok
        have hrW := hokW.2.2.2.1
        clear hokW
        obtain ⟨d, tq, B, cf, f, I, At, pat⟩ := o
        dsimp only at *
        have h80' : j < 80 := by omega
        obtain ⟨k, hk⟩ : ∃ k, min f.length 40 = k := ⟨_, rfl⟩
        have hmin : min (f.length : Int) 40 = (k : Int) := by omega
        have hk40 : k ≤ 40 := by omega
        have hkf : (k : Int) ≤ (f.length : Int) := by omega
        have hkc : (k : Int) ≤ (cf : Int) := by omega
        have hr0 := hrB.take k
        rw [← u8s_take] at hr0
        replace hrW := hrW.take k
        rw [← u8s_take] at hrW
        have HPL := Bx.mk (show (f.take k).length = k by rw [List.length_take]; omega)
        have HBN := Bx.mk (show B = none → k = 0 from fun h => by have := hBn h; omega)
        generalize f.take k = P at *
        generalize f.length = lf at *
        clear hBn hrB hfc hk
        have hji : (j : Int) < (n : Int) := by omega
        have h80i : (j : Int) < 80 := by omega
        have hbox := heap_alloc_new wr (.cells #[.int .u8 d, .int .i64 tq, .slice B lf cf, .int .i64 I, .int .i64 At, .int .u32 pat] 48)
        have hnw : New wr (wr.alloc (.cells #[.int .u8 d, .int .i64 tq, .slice B lf cf, .int .i64 I, .int .i64 At, .int .u32 pat] 48)) := (Upd.refl _ _).alloc _
        have hN1 := hN.trans hnw
        have hr1 := hr0.new hnw
        obtain ⟨s0, s1, s2, s3, s4, s5⟩ := op_cells hbox
        have HBX := Bx.mk hbox
        clear hbox
        go_upto_block 2 with ((with_reducible refine at_wpList ?_); refine wpList_min rfl _ _ _ _ rfl _ _ _ _ _ hmin rfl rfl ?_)
        generalize wr.alloc (.cells #[.int .u8 d, .int .i64 tq, .slice B lf cf, .int .i64 I, .int .i64 At, .int .u32 pat] 48) = wB at *
        clear hr0 c0 c1 c2 c3 c4 c5 hnw hN
        generalize wr.heap.size = bx at *
        refine wp_cutM [none, none, none, none, some 4, none, none, none, none, some 9, none, some 11, some 12, some 13, some 14, some 15, some 16, some 17, some 18, some 19, some 20, some 21, some 22, some 23, some 24, some 25, some 26, some 27, some 28, some 29, some 30, some 31, some 32, some 33, some 34, some 35, none, none, none, none, none, none, none, none, none, none, none, none, none, none, none, none, none, none, none, none, none, none, none, none, none, some 61, some 62, some 63, some 64, some 65, some 66, some 67, some 68, some 69, some 70, some 71, some 72, some 73, some 74, some 75, some 76, some 77, some 78, some 79, some 80, some 81, some 82, some 83, some 84, some 85, some 86, some 87, some 88, some 89, some 90, some 91, some 92, some 93, some 94, some 95, some 96, some 97, some 98, some 99, some 100, some 101, some 102, some 103, some 104, some 105, some 106, some 107, some 108, some 109, some 110, some 111, some 112, some 113, some 114, some 115, some 116, some 117, some 118, some 119, some 120, some 121, some 122, some 123, some 124, some 125, some 126, some 127, some 128, some 129, some 130, some 131, some 132, some 133, some 134, some 135, some 136, some 137, some 138, some 139, some 140, some 141, some 142, some 143, some 144, some 145, some 146, some 147, some 148, some 149, some 150, some 151, some 152, some 153, some 154, some 155, some 156, some 157, some 158, some 159, some 160, some 161, some 162, some 163, some 164, some 165, some 166, some 167, some 168, some 169, some 170, some 171, some 172, some 173, some 174, some 175, some 176, some 177, some 178, some 179, some 180, some 181, some 182, some 183, some 184, some 185, some 186, some 187, some 188, some 189, some 190, some 191, some 192, some 193, some 194, some 195, some 196, some 197, some 198, some 199, some 200, some 201, some 202, some 203, some 204, some 205, some 206, some 207, some 208, some 209, some 210, some 211, some 212, some 213, some 214, some 215, some 216, some 217, some 218, some 219, some 220, some 221, some 222, some 223, some 224, some 225, some 226, some 227, some 228, some 229, some 230, some 231, some 232, some 233, some 234, some 235, some 236, some 237, some 238, some 239, some 240, some 241, some 242, some 243, some 244, some 245, some 246, some 247, some 248, some 249, some 250, some 251, some 252, some 253, some 254, some 255, some 256, some 257, some 258, some 259, some 260, some 261, some 262, some 263, some 264, some 265, some 266, some 267, some 268, some 269, some 270, some 271, some 272, some 273, some 274, some 275, some 276, some 277, some 278, some 279, some 280, some 281, some 282, some 283, some 284, some 285, some 286, some 287, some 288, some 289, some 290, some 291, some 292, some 293, some 294, some 295, some 296, some 297, some 298, some 299, some 300, some 301, some 302, some 303, some 304, some 305, some 306, some 307, some 308, some 309, some 310, some 311, some 312, some 313, some 314, some 315, some 316, some 317, some 318, some 319, some 320, some 321, some 322, some 323, some 324, some 325, some 326, some 327, some 328, some 329, some 330, some 331, some 332, some 333, some 334, some 335, some 336, some 337] (fun fs wx => (fun s12 wx => s12 = .bool true ∧ New w1 wx) (fs 12) wx) ?first ?rest
        case' first => intro _ _ _ _
        case' rest => (intro fs wc hcut; simp only [Mix]; generalize fs 12 = u12 at hcut ⊢; try dsimp only at hcut)
        case first =>
          have hd : d = 0 ∨ d = 1 ∨ d = 2 ∨ d = 3 ∨ d = 4 ∨ d = 5 ∨ d = 6 ∨ 6 < d := by omega
          rcases hd with rfl | rfl | rfl | rfl | rfl | rfl | rfl | hd
          iterate 2
            · have hl0 := own_lower (own_lit0 wB wB.heap.size 5 1 (Nat.le_refl _)) (Nat.le_refl _)
              have hs := (hr1.new ((Upd.refl _ wB).alloc (.cells #[] 5))).src (P := Tryd.prog) (n := k) (c := cf) (size := 1) Tryd.underlying22 HBN.out (by rw [u8s_length, HPL.out, Nat.mul_one]) (u8s_one P)
              go_upto_region 17 with (at_builtin; refine wpList_appN _ rfl _ _ 22 22 rfl _ 5 (.int .u8 0) 1 1 Tryd.underlying22 info8 rfl _ _ _ hl0 rfl _ _ _ hs rfl _ ((Upd.refl Nowhere wB).alloc _) ?c1 ?c2 ?_; (case c1 => unfold maxLen; omega); (case c2 => omega); intro v2 w3 ho3 hu3 hk3 hv3; simp only [Nat.zero_add, List.nil_append] at ho3; (obtain ⟨A2, c2, rfl, _, _, hr3, _⟩ := own_rd ho3))
              have hN3 : New wB w3 := lit_new hk3
              have hN3d := hN3.drew
              have hbx3 : w3.drew.heap[bx]? = _ := hN3.blk HBX.out (fun q => q)
              have s13 := (op_cells hbx3).2.1
              have ho3d := own_new ho3 ((Upd.refl Nowhere w3).drew)
              go_region_held3 (fun w' => w'.cell? ⟨bx, 1, none⟩ = some (.int .i64 tq)) (first | exact s13 | exact s14 | exact s15)
                (first
                  | ((go_at_call 12; (with_reducible refine (BagPutNil _ _ tq A2 k c2 rfl).mono ?_); rintro e w4 ⟨rfl, hN4⟩; dsimp only); have s14 := hN4.cell s13 (fun q => q); have hrm4 := own_new ho3d hN4)
                  | ((go_at_call 18; (with_reducible refine (RefPut_nil _ _ tq B k cf rfl).mono ?_); rintro e w5 ⟨rfl, hN5⟩; dsimp only); have s15 := hN5.cell s14 (fun q => q); have hrm5 := own_new hrm4 hN5; have hN35 := (hN3d.trans hN4).trans hN5)
                  | (obtain ⟨A9, c9, e9, _, _, hr9, _⟩ := own_rd hrm5; cases e9; (go_at_call 9; (with_reducible refine (Same_e _ _ k k _ _ P P _ HPL.out HPL.out hr9 (hr1.new hN35) true (decide_eq_true rfl)).mono ?_); rintro e w6 ⟨rfl, rfl⟩; dsimp only)))
              all_goals
                have hNz := hN1.trans hN35
                clear s13 s14 s15 hr3 ho3 ho3d hs hl0 hu3 hk3 hrm4 hN35 hN4 hN5 hbx3
                go_wp2
                refine wp_loopM [none, none, none, none, none, none, none, none, none, none, none, none, none, none, some 14, none, none, none, none, none, none, none, none, none, none, none, none, none, none, none, none, none, none, none, none, none, none, none, none, none, none, none, none, none, none, none, none, none, none, none, none, none, none, none, none, none, none, none, none, none, none, none, none, none, none, none, none, none, none, none, none, none, none, none, none, none, none, none, none, none, none, none, none, none, none, none, none, none, none, none, none, none, none, none, none, none, none, none, none, none, none, none, none, none, none, none, some 106, some 107, some 108, some 109, some 110, some 111, some 112, some 113, some 114, some 115, none, none, none, none, none, none, none, none, none, none, none, none, none, none, none, none, none, none, none, none, none, none, none, none, none, none, none, none, none, none, none, none, none, none, none, none, none, none, none, none, none, none, none, none, none, none, none, none, none, none, none, none, none, none, none, none, none, none, none, none, none, none, none, none, none, none, none, none, none, none, none, none, none, none, none, none, none, none, none, none, none, none, none, none, none, none, none, none, none, none, none, none, none, none, none, none, none, none, none, none, none, none, none, none, none, none, none, none, none, none, none, none, none, none, none, none, none, none, none, none, none, none, none, none, none, none, none, none, none, none, none, none, none, none, none, none, none, none, none, none, none, none, none, none, none, none, none, none, none, none, none, none, none, none, none, none, none, none, none, none, none, none, none, none, none, none, none, none, none, none, none, none, none, none, none, none, none, none, none, none, none, none, none, none, none, none, none, none, none, none, none, none, none, none, none, none, none, none, none, none, none, none, none, none, none, none, none, none, none, none, none, none, none, none, none, none, none, none, none, none, none, none] (fun fs wr d => (fun u106 wr d => ∃ (q : Nat) (L : List (BitVec 8)), q ≤ k ∧ u106 = .int .i64 q ∧ wr.ownsRow wB.heap.size 5 1 (.slice A2 k c2) k (u8s L) ∧ New w1 wr ∧ d = k - q) (fs 106) wr d) (by kernel_rfl) ?atStart ?round
                case' atStart => simp only [slotsOf, List.getD_cons_succ, List.getD_cons_zero]
                case' round => (intro dM_ J_ K_ fs wr hrel hJ_ hK_; simp only [Mix]; generalize fs 106 = u106 at hrel ⊢; try dsimp only at hrel)
                case atStart => exact ⟨_, 0, P, Nat.zero_le _, rfl, hrm5, hNz, rfl⟩
                case round =>
                  clear hNz hrm5
                  obtain ⟨q, L, hq, rfl, hrq, hNq, rfl⟩ := hrel
                  by_cases hlt : q < k
                  · have hqi : (q : Int) < (k : Int) := by omega
                    obtain ⟨gq, cq, hv, hg, hcell, hfz, hset⟩ := own_u8 hrq q hlt
                    obtain ⟨rfl, rfl⟩ : A2 = some ⟨gq, 0, none⟩ ∧ c2 = cq := by simpa using hv
                    have HSET := Bx.mk hset
                    have HG := Bx.mk (Nat.le_trans hN1.size hg)
                    clear hset
                    generalize L.getD q 0#8 = yb at *
                    have HF1 := Bx.mk (flip1 yb)
                    go_wp2
                    first | refine met_loop (by assumption) (by kernel_rfl) (by kernel_rfl) ?rel | refine met_cut (by assumption) (by kernel_rfl) (by kernel_rfl) ?rel
                    case' rel => simp only [slotsOf, List.getD_cons_succ, List.getD_cons_zero]
                    case rel => exact ⟨_, ⟨q + 1, L.set q (yb ^^^ 1#8), by omega, by go_num, by rw [HF1.out]; exact HSET.out _, hNq.setCell (p := ⟨gq, q, none⟩) (.inr HG.out) _, rfl⟩, by omega⟩
                  · obtain rfl : q = k := by omega
                    go_wp2
                    first | refine met_loop (by assumption) (by kernel_rfl) (by kernel_rfl) ?rel | refine met_cut (by assumption) (by kernel_rfl) (by kernel_rfl) ?rel
                    case' rel => simp only [slotsOf, List.getD_cons_succ, List.getD_cons_zero]
                    case rel => exact ⟨by trivial, hNq⟩
          · go_wp2_with (first
              | (go_at_call 16; (with_reducible refine (Take_nil _ I).mono ?_); rintro e w4 ⟨rfl, hN4⟩; have hal4 : New w4 (w4.alloc (.cells #[.int .i64 0, .slice none 0 0] 36)) := (Upd.refl _ _).alloc _; have hN4' := hN4.trans hal4; obtain ⟨_, _, _, s34, _, _⟩ := op_cells (hN4'.blk HBX.out (fun q => q)); have b15 := box_new w4 (.int .i64 0) (.slice none 0 0); dsimp only)
              | (go_at_call 19; (with_reducible refine (RefTake_nil _ I).mono ?_); rintro e w5 ⟨rfl, hN5⟩; have hal5 : New w5 (w5.alloc (.cells #[.int .i64 0, .slice none 0 0] 36)) := (Upd.refl _ _).alloc _; have b15' := (hN5.trans hal5).blk b15 (fun q => q); obtain ⟨p0, p1⟩ := out_box b15'; obtain ⟨p2, p3⟩ := out_box (box_new w5 (.int .i64 0) (.slice none 0 0)); have hN5' := hN4'.trans (hN5.trans hal5); dsimp only)
              | (go_at_call 20; (with_reducible refine (same_yes _ 0 0 none none 0 0 0 0 [] [] rfl rfl (rd_nil8 _ _) (rd_nil8 _ _) rfl rfl).mono ?_); rintro e w6 ⟨rfl, hN6⟩; have hN6' := hN5'.trans hN6; obtain ⟨p4, p5⟩ := out_box (hN6.blk b15' (fun q => q)); dsimp only))
            first | refine met_loop (by assumption) (by kernel_rfl) (by kernel_rfl) ?rel | refine met_cut (by assumption) (by kernel_rfl) (by kernel_rfl) ?rel
            case' rel => simp only [slotsOf, List.getD_cons_succ, List.getD_cons_zero]
            case rel => exact ⟨by trivial, hN1.trans hN6'⟩
          · go_wp2_with (first
              | (go_at_call 14; (with_reducible refine (Peek_nil _ I).mono ?_); rintro e w4 ⟨rfl, hN4⟩; have hal4 : New w4 (w4.alloc (.cells #[.int .i64 0, .slice none 0 0] 36)) := (Upd.refl _ _).alloc _; have hN4' := hN4.trans hal4; obtain ⟨_, _, _, s34, _, _⟩ := op_cells (hN4'.blk HBX.out (fun q => q)); have b15 := box_new w4 (.int .i64 0) (.slice none 0 0); dsimp only)
              | (go_at_call 21; (with_reducible refine (RefPeek_nil _ I).mono ?_); rintro e w5 ⟨rfl, hN5⟩; have hal5 : New w5 (w5.alloc (.cells #[.int .i64 0, .slice none 0 0] 36)) := (Upd.refl _ _).alloc _; have b15' := (hN5.trans hal5).blk b15 (fun q => q); obtain ⟨p0, p1⟩ := out_box b15'; obtain ⟨p2, p3⟩ := out_box (box_new w5 (.int .i64 0) (.slice none 0 0)); have hN5' := hN4'.trans (hN5.trans hal5); dsimp only)
              | (go_at_call 20; (with_reducible refine (same_yes _ 0 0 none none 0 0 0 0 [] [] rfl rfl (rd_nil8 _ _) (rd_nil8 _ _) rfl rfl).mono ?_); rintro e w6 ⟨rfl, hN6⟩; have hN6' := hN5'.trans hN6; obtain ⟨p4, p5⟩ := out_box (hN6.blk b15' (fun q => q)); dsimp only))
            refine wp_loop_rounds 1 ?_
            rw [rounds_succ]
            go_wp2
            first | refine met_loop (by assumption) (by kernel_rfl) (by kernel_rfl) ?rel | refine met_cut (by assumption) (by kernel_rfl) (by kernel_rfl) ?rel
            case' rel => simp only [slotsOf, List.getD_cons_succ, List.getD_cons_zero]
            case rel => exact ⟨by trivial, hN1.trans hN6'⟩
          · go_wp2_with (first
              | (go_at_call 21; (with_reducible refine (RefPeek_nil _ I).mono ?_); rintro e w5 ⟨rfl, hN5⟩; have hal5 : New w5 (w5.alloc (.cells #[.int .i64 0, .slice none 0 0] 36)) := (Upd.refl _ _).alloc _; have hN5' := hN5.trans hal5; obtain ⟨_, _, _, s34, _, _⟩ := op_cells (hN5'.blk HBX.out (fun q => q)); dsimp only)
              | (go_at_call 15; (with_reducible refine (Copy_nil _ I).mono ?_); rintro e w4 ⟨rfl, hN4⟩; have hN6' := hN5'.trans hN4; dsimp only))
            first | refine met_loop (by assumption) (by kernel_rfl) (by kernel_rfl) ?rel | refine met_cut (by assumption) (by kernel_rfl) (by kernel_rfl) ?rel
            case' rel => simp only [slotsOf, List.getD_cons_succ, List.getD_cons_zero]
            case rel => exact ⟨by trivial, hN1.trans hN6'⟩
          · go_wp2_with (first
              | (go_at_call 19; (with_reducible refine (RefTake_nil _ I).mono ?_); rintro e w5 ⟨rfl, hN5⟩; have hal5 : New w5 (w5.alloc (.cells #[.int .i64 0, .slice none 0 0] 36)) := (Upd.refl _ _).alloc _; have hN5' := hN5.trans hal5; obtain ⟨_, _, _, s34, _, _⟩ := op_cells (hN5'.blk HBX.out (fun q => q)); dsimp only)
              | (go_at_call 22; (with_reducible refine (Drop_nil _ I).mono ?_); rintro e w4 ⟨rfl, hN4⟩; have hN6' := hN5'.trans hN4; dsimp only))
            first | refine met_loop (by assumption) (by kernel_rfl) (by kernel_rfl) ?rel | refine met_cut (by assumption) (by kernel_rfl) (by kernel_rfl) ?rel
            case' rel => simp only [slotsOf, List.getD_cons_succ, List.getD_cons_zero]
            case rel => exact ⟨by trivial, hN1.trans hN6'⟩
          · go_wp2_with (first
              | (go_at_call 21; (with_reducible refine (RefPeek_nil _ I).mono ?_); rintro e w5 ⟨rfl, hN5⟩; have hal5 : New w5 (w5.alloc (.cells #[.int .i64 0, .slice none 0 0] 36)) := (Upd.refl _ _).alloc _; have hN5' := hN5.trans hal5; obtain ⟨_, _, _, s34, s35, s36⟩ := op_cells (hN5'.blk HBX.out (fun q => q)); dsimp only)
              | (go_at_call 23; (with_reducible refine (Turn_nil _ I At (pat : Int)).mono ?_); rintro e w4 ⟨rfl, rfl⟩; dsimp only))
            first | refine met_loop (by assumption) (by kernel_rfl) (by kernel_rfl) ?rel | refine met_cut (by assumption) (by kernel_rfl) (by kernel_rfl) ?rel
            case' rel => simp only [slotsOf, List.getD_cons_succ, List.getD_cons_zero]
            case rel => exact ⟨by trivial, hN1.trans hN5'⟩
          · have e0 : ((d : Int) == 0) = false := by simp; omega
            have e1 : ((d : Int) == 1) = false := by simp; omega
            have e2 : ((d : Int) == 2) = false := by simp; omega
            have e3 : ((d : Int) == 3) = false := by simp; omega
            have e4 : ((d : Int) == 4) = false := by simp; omega
            have e5 : ((d : Int) == 5) = false := by simp; omega
            have e6 : ((d : Int) == 6) = false := by simp; omega
            go_wp2
            first | refine met_loop (by assumption) (by kernel_rfl) (by kernel_rfl) ?rel | refine met_cut (by assumption) (by kernel_rfl) (by kernel_rfl) ?rel
            case' rel => simp only [slotsOf, List.getD_cons_succ, List.getD_cons_zero]
            case rel => exact ⟨by trivial, hN1⟩
        case rest =>
          obtain ⟨rfl, hN2⟩ := hcut
          go_wp2_with (first
            | (go_at_call 13; (with_reducible refine (BagLen_nil _).mono ?_); rintro e w4 ⟨rfl, rfl⟩; dsimp only)
            | (go_at_call 24; (with_reducible refine (To_nil _ 0).mono ?_); rintro e w4 ⟨rfl, rfl⟩; dsimp only))
          first | refine met_loop (by assumption) (by kernel_rfl) (by kernel_rfl) ?rel | refine met_cut (by assumption) (by kernel_rfl) (by kernel_rfl) ?rel
          case' rel => simp only [slotsOf, List.getD_cons_succ, List.getD_cons_zero]
          case rel => exact ⟨_, ⟨j + 1, by omega, by go_num, hN2, rfl⟩, by omega⟩
    · obtain rfl : j = n := by omega
      go_wp2
      go_ret
      exact ⟨rfl, hu1.trans hN⟩
theorem NetPlays_any (m : Int) (hm1 : -9223372036854775808 ≤ m) (hm2 : m ≤ 9223372036854775807) (A : Option Addr) (n c : Nat) (os : List OpIt) (w : World) (hl : os.length = n) (hnc : n ≤ c) (hx : IsOps w A os) (ht : IsTab w) :
    Calls Tryd.prog 6 #[.int .i64 m, .slice A n c] w fun e w' => e = .returned (.bool true) ∧ New w w' := by
  by_cases hm : m < 1 ∨ m > 2048
  · exact NetPlays_none m hm hm1 hm2 A n c os w hl hnc hx ht
  · obtain ⟨k, rfl⟩ := Int.eq_ofNat_of_zero_le (show 0 ≤ m by omega)
    exact NetPlays_bag k (by omega) (by omega) A n c os w hl hnc hx ht
end Go.Proofs.YtefnpkmbjabcmaaDoor
