/- NetPlays: walked. -/
import Derived.Test.YtefnpkmbjabcmaaDoorNt13
import Derived.Test.YtefnpkmbjabcmaaDoorBigM
import Derived.Test.YtefnpkmbjabcmaaDoorCalm
import Derived.Deep.DeepCutAuto
import Derived.Deep.CutBlock
namespace Go.Proofs.YtefnpkmbjabcmaaDoor
open Go.RowKit
theorem op_cells {w : World} {B : Nat} {a0 a1 a2 a3 a4 a5 : Value} (h : w.heap[B]? = some (.cells #[a0, a1, a2, a3, a4, a5] 48 (0, 0))) : w.cell? ⟨B, 0, none⟩ = some a0 ∧ w.cell? ⟨B, 1, none⟩ = some a1 ∧ w.cell? ⟨B, 2, none⟩ = some a2 ∧ w.cell? ⟨B, 3, none⟩ = some a3 ∧ w.cell? ⟨B, 4, none⟩ = some a4 ∧ w.cell? ⟨B, 5, none⟩ = some a5 := by
  refine ⟨?_, ?_, ?_, ?_, ?_, ?_⟩ <;> (rw [World.cell?, h]; rfl)
set_option maxRecDepth 100000 in
set_option maxHeartbeats 16000000 in
/-- where there is a bag -/
theorem NetPlays_bag (m : Nat) (h1 : 1 ≤ m) (h2 : m ≤ 2048) (A : Option Addr) (n c : Nat) (os : List OpIt) (w : World) (hl : os.length = n) (hnc : n ≤ c) (hx : IsOps w A os) (ht : IsTab w) :
    Calls Tryd.prog 6 #[.int .i64 m, .slice A n c] w fun e w' => e = .returned (.bool true) ∧ New w w' := by
  have HL := Bx.mk hl
  clear hl
  have hN1 : ∀ w, Calls Tryd.prog 11 #[.int .i64 m] w fun e w' => e = .returned (.tuple #[.pointer (some ⟨w.heap.size, 0, none⟩), .int .i64 0]) ∧ New w w' ∧ IsBag w' w.heap.size (.slice none 0 0) m [] := fun w => NetNew_n m w h1 h2 _ rfl
  have hN2 : ∀ w, Calls Tryd.prog 17 #[.int .i64 m] w fun e w' => e = .returned (.tuple #[.pointer (some ⟨w.heap.size, 0, none⟩), .int .i64 0]) ∧ New w w' ∧ IsRef w' w.heap.size (.slice none 0 0) m [] := fun w => by
    refine (RefNew_any m w (by omega) (by omega)).mono fun e w' h => ?_
    simp only [show ¬ ((m : Int) < 1 ∨ (m : Int) > 2048) by omega, if_false, Int.toNat_natCast] at h
    exact h
  go_enter Tryd.func6, Tryd.ntmps6
  go_upto_block 0 with (first
    | (go_at_call 7; (with_reducible refine (awake_any _ ht).mono ?_); rintro e w1 ⟨rfl, hu1⟩; dsimp only)
    | (go_at_call 11; (with_reducible refine (hN1 w1).mono ?_); rintro e w2 ⟨rfl, hu2, hB2⟩; dsimp only)
    | (go_at_call 17; (with_reducible refine (hN2 w2).mono ?_); rintro e w3 ⟨rfl, hu3, hR3⟩; dsimp only))
  have hT := Two.made hu2 hB2 hu3 hR3
  have hA0 : Alike m [] [] := ⟨rfl, Nat.zero_le _, fun _ h => by cases h⟩
  clear hN1 hN2 hB2 hR3
  go_wp2
  refine wp_loopM [none, none, none, none, some 4, none, none, none, none, some 9, some 10, some 11, some 12, some 13, some 14, some 15, some 16, some 17, some 18, some 19, some 20, some 21, some 22, some 23, some 24, some 25, some 26, some 27, some 28, some 29, some 30, some 31, some 32, some 33, some 34, some 35, none, none, none, none, none, none, none, none, none, none, none, none, none, none, none, none, none, none, none, none, none, none, none, none, some 60, some 61, some 62, some 63, some 64, some 65, some 66, some 67, some 68, some 69, some 70, some 71, some 72, some 73, some 74, some 75, some 76, some 77, some 78, some 79, some 80, some 81, some 82, some 83, some 84, some 85, some 86, some 87, some 88, some 89, some 90, some 91, some 92, some 93, some 94, some 95, some 96, some 97, some 98, some 99, some 100, some 101, some 102, some 103, some 104, some 105, some 106, some 107, some 108, some 109, some 110, some 111, some 112, some 113, some 114, some 115, some 116, some 117, some 118, some 119, some 120, some 121, some 122, some 123, some 124, some 125, some 126, some 127, some 128, some 129, some 130, some 131, some 132, some 133, some 134, some 135, some 136, some 137, some 138, some 139, some 140, some 141, some 142, some 143, some 144, some 145, some 146, some 147, some 148, some 149, some 150, some 151, some 152, some 153, some 154, some 155, some 156, some 157, some 158, some 159, some 160, some 161, some 162, some 163, some 164, some 165, some 166, some 167, some 168, some 169, some 170, some 171, some 172, some 173, some 174, some 175, some 176, some 177, some 178, some 179, some 180, some 181, some 182, some 183, some 184, some 185, some 186, some 187, some 188, some 189, some 190, some 191, some 192, some 193, some 194, some 195, some 196, some 197, some 198, some 199, some 200, some 201, some 202, some 203, some 204, some 205, some 206, some 207, some 208, some 209, some 210, some 211, some 212, some 213, some 214, some 215, some 216, some 217, some 218, some 219, some 220, some 221, some 222, some 223, some 224, some 225, some 226, some 227, some 228, some 229, some 230, some 231, some 232, some 233, some 234, some 235, some 236, some 237, some 238, some 239, some 240, some 241, some 242, some 243, some 244, some 245, some 246, some 247, some 248, some 249, some 250, some 251, some 252, some 253, some 254, some 255, some 256, some 257, some 258, some 259, some 260, some 261, some 262, some 263, some 264, some 265, some 266, some 267, some 268, some 269, some 270, some 271, some 272, some 273, some 274, some 275, some 276, some 277, some 278, some 279, some 280, some 281, some 282, some 283, some 284, some 285, some 286, some 287, some 288, some 289, some 290, some 291, some 292, some 293, some 294, some 295, some 296, some 297, some 298, some 299, some 300, some 301, some 302, some 303, some 304, some 305, some 306, some 307, some 308, some 309, some 310, some 311, some 312, some 313, some 314, some 315, some 316, some 317, some 318, some 319, some 320, some 321, some 322, some 323, some 324, some 325, some 326, some 327, some 328, some 329, some 330, some 331, some 332, some 333, some 334, some 335, some 336, some 337] (fun fs wr d => (fun i wr d => ∃ (j : Nat) (vb vr : Value) (xs ys : List It), j ≤ n ∧ i = .int .i64 j ∧ Two w1 wr w1.heap.size w2.heap.size m vb vr xs ys ∧ Bx (Alike m xs ys) ∧ d = n - j) (fs 60) wr d) (by kernel_rfl) ?atStart ?round
  case' atStart => simp only [slotsOf, List.getD_cons_succ, List.getD_cons_zero]
  case' round => (intro dM_ J_ K_ fs wr hrel hJ_ hK_; simp only [Mix]; generalize fs 60 = u60 at hrel ⊢; try dsimp only at hrel)
  case atStart => exact ⟨_, 0, _, _, [], [], by omega, rfl, hT, ⟨hA0⟩, rfl⟩
  case round =>
    clear hT hA0
    obtain ⟨j, vb, vr, xs, ys, hj, rfl, hT, HA, rfl⟩ := hrel
    by_cases hlt : j < n
    · by_cases h80 : 80 ≤ j
      · have hji : (j : Int) < (n : Int) := by omega
        have h80i : (80 : Int) ≤ (j : Int) := by omega
        obtain ⟨b0, off, rfl, c0, c1, c2, c3, c4, c5, -⟩ := ((hx.new hu1).new hT.new).at_ j (by rw [HL.out]; exact hlt)
        go_wp2
        go_ret
        exact ⟨rfl, (hu1.trans hT.new).alloc _⟩
      · have hok := ((hx.new hu1).new hT.new).at_ j (by rw [HL.out]; exact hlt)
        have hokW := (hx.new hu1).each _ (List.getElem_mem (show j < os.length by rw [HL.out]; exact hlt))
        generalize os[j]'(by rw [HL.out]; exact hlt) = o at hok hokW
        obtain ⟨b0, off, rfl, c0, c1, c2, c3, c4, c5, hd256, hfc, hBn, hrB, hto, hI, hAt, hpat⟩ := hok
        have hrW := hokW.2.2.2.1
        clear hokW
        obtain ⟨d, tq, B, cf, f, I, At, pat⟩ := o
        dsimp only at *
        have h80' : j < 80 := by omega
        obtain ⟨k, hk⟩ : ∃ k, min f.length 40 = k := ⟨_, rfl⟩
        have hmin : min (f.length : Int) 40 = (k : Int) := by omega
        have hk40 : k ≤ 40 := by omega
        have hkf : (k : Int) ≤ (f.length : Int) := by omega
        have hkc : (k : Int) ≤ (cf : Int) := by omega
        have hr0 := hrB.take k
        rw [← u8s_take] at hr0
        replace hrW := hrW.take k
        rw [← u8s_take] at hrW
        have HPL := Bx.mk (show (f.take k).length = k by rw [List.length_take]; omega)
        have HBN := Bx.mk (show B = none → k = 0 from fun h => by have := hBn h; omega)
        generalize f.take k = P at *
        generalize f.length = lf at *
        clear hBn hrB hfc hk
        have hji : (j : Int) < (n : Int) := by omega
        have h80i : (j : Int) < 80 := by omega
        have hbox := heap_alloc_new wr (.cells #[.int .u8 d, .int .i64 tq, .slice B lf cf, .int .i64 I, .int .i64 At, .int .u32 pat] 48)
        have hnw : New wr (wr.alloc (.cells #[.int .u8 d, .int .i64 tq, .slice B lf cf, .int .i64 I, .int .i64 At, .int .u32 pat] 48)) := (Upd.refl _ _).alloc _
        have hT1 := hT.next hnw
        have hr1 := hr0.new hnw
        obtain ⟨s0, s1, s2, s3, s4, s5⟩ := op_cells hbox
        have HBX := Bx.mk hbox
        clear hbox
        go_upto_block 2 with ((with_reducible refine at_wpList ?_); refine wpList_min rfl _ _ _ _ rfl _ _ _ _ _ hmin rfl rfl ?_)
        generalize wr.alloc (.cells #[.int .u8 d, .int .i64 tq, .slice B lf cf, .int .i64 I, .int .i64 At, .int .u32 pat] 48) = wB at *
        have hN0 : New w wB := hu1.trans hT1.new
        clear hT hr0 c0 c1 c2 c3 c4 c5 hnw
        generalize wr.heap.size = bx at *
        refine wp_cutM [none, none, none, none, some 4, none, none, none, none, some 9, none, some 11, some 12, some 13, some 14, some 15, some 16, some 17, some 18, some 19, some 20, some 21, some 22, some 23, some 24, some 25, some 26, some 27, some 28, some 29, some 30, some 31, some 32, some 33, some 34, some 35, none, none, none, none, none, none, none, none, none, none, none, none, none, none, none, none, none, none, none, none, none, none, none, none, none, some 61, some 62, some 63, some 64, some 65, some 66, some 67, some 68, some 69, some 70, some 71, some 72, some 73, some 74, some 75, some 76, some 77, some 78, some 79, some 80, some 81, some 82, some 83, some 84, some 85, some 86, some 87, some 88, some 89, some 90, some 91, some 92, some 93, some 94, some 95, some 96, some 97, some 98, some 99, some 100, some 101, some 102, some 103, some 104, some 105, some 106, some 107, some 108, some 109, some 110, some 111, some 112, some 113, some 114, some 115, some 116, some 117, some 118, some 119, some 120, some 121, some 122, some 123, some 124, some 125, some 126, some 127, some 128, some 129, some 130, some 131, some 132, some 133, some 134, some 135, some 136, some 137, some 138, some 139, some 140, some 141, some 142, some 143, some 144, some 145, some 146, some 147, some 148, some 149, some 150, some 151, some 152, some 153, some 154, some 155, some 156, some 157, some 158, some 159, some 160, some 161, some 162, some 163, some 164, some 165, some 166, some 167, some 168, some 169, some 170, some 171, some 172, some 173, some 174, some 175, some 176, some 177, some 178, some 179, some 180, some 181, some 182, some 183, some 184, some 185, some 186, some 187, some 188, some 189, some 190, some 191, some 192, some 193, some 194, some 195, some 196, some 197, some 198, some 199, some 200, some 201, some 202, some 203, some 204, some 205, some 206, some 207, some 208, some 209, some 210, some 211, some 212, some 213, some 214, some 215, some 216, some 217, some 218, some 219, some 220, some 221, some 222, some 223, some 224, some 225, some 226, some 227, some 228, some 229, some 230, some 231, some 232, some 233, some 234, some 235, some 236, some 237, some 238, some 239, some 240, some 241, some 242, some 243, some 244, some 245, some 246, some 247, some 248, some 249, some 250, some 251, some 252, some 253, some 254, some 255, some 256, some 257, some 258, some 259, some 260, some 261, some 262, some 263, some 264, some 265, some 266, some 267, some 268, some 269, some 270, some 271, some 272, some 273, some 274, some 275, some 276, some 277, some 278, some 279, some 280, some 281, some 282, some 283, some 284, some 285, some 286, some 287, some 288, some 289, some 290, some 291, some 292, some 293, some 294, some 295, some 296, some 297, some 298, some 299, some 300, some 301, some 302, some 303, some 304, some 305, some 306, some 307, some 308, some 309, some 310, some 311, some 312, some 313, some 314, some 315, some 316, some 317, some 318, some 319, some 320, some 321, some 322, some 323, some 324, some 325, some 326, some 327, some 328, some 329, some 330, some 331, some 332, some 333, some 334, some 335, some 336, some 337] (fun fs wx => (fun s12 wx => s12 = .bool true ∧ ∃ (vb vr : Value) (xs ys : List It), Two w1 wx w1.heap.size w2.heap.size m vb vr xs ys ∧ Bx (Alike m xs ys) ∧ Bx (wx.heap[bx]? = some (.cells #[.int .u8 d, .int .i64 tq, .slice B lf cf, .int .i64 I, .int .i64 At, .int .u32 pat] 48 (0, 0)))) (fs 12) wx) ?first ?rest
        case' first => intro _ _ _ _
        case' rest => (intro fs wc hcut; simp only [Mix]; generalize fs 12 = u12 at hcut ⊢; try dsimp only at hcut)
        case first =>
          have hd : d = 0 ∨ d = 1 ∨ d = 2 ∨ d = 3 ∨ d = 4 ∨ d = 5 ∨ d = 6 ∨ 6 < d := by omega
          rcases hd with rfl | rfl | rfl | rfl | rfl | rfl | rfl | hd
          iterate 2
            · have hl0 := own_lower (own_lit0 wB wB.heap.size 5 1 (Nat.le_refl _)) (Nat.le_refl _)
              have hs := (hr1.new ((Upd.refl _ wB).alloc (.cells #[] 5))).src (P := Tryd.prog) (n := k) (c := cf) (size := 1) Tryd.underlying22 HBN.out (by rw [u8s_length, HPL.out, Nat.mul_one]) (u8s_one P)
              go_upto_region 17 with (at_builtin; refine wpList_appN _ rfl _ _ 22 22 rfl _ 5 (.int .u8 0) 1 1 Tryd.underlying22 info8 rfl _ _ _ hl0 rfl _ _ _ hs rfl _ ((Upd.refl Nowhere wB).alloc _) ?c1 ?c2 ?_; (case c1 => unfold maxLen; omega); (case c2 => omega); intro v2 w3 ho3 hu3 hk3 hv3; simp only [Nat.zero_add, List.nil_append] at ho3; (obtain ⟨A2, c2, rfl, _, _, hr3, _⟩ := own_rd ho3))
              have hN3 : New wB w3 := lit_new hk3
              have hT3 := (hT1.next hN3).next ((Upd.refl _ w3).drew)
              have hbx3 : w3.drew.heap[bx]? = _ := hN3.blk HBX.out (fun q => q)
              have hr3d := hr3.new ((Upd.refl Nowhere w3).drew)
              have s13 := (op_cells hbx3).2.1
              have ho3d := own_new ho3 ((Upd.refl Nowhere w3).drew)
              by_cases hfull : xs.length < m
              · have hyl : ys.length < m := by rw [HA.out.length]; exact hfull
                go_region_held3 (fun w' => w'.cell? ⟨bx, 1, none⟩ = some (.int .i64 tq)) (first | exact s13 | exact s14 | exact s15)
                  (first
                    | ((go_at_call 12; (with_reducible refine (Put_ok hT3.held.bag hfull (by omega) _ tq A2 k c2 P rfl HPL.out (by omega) hr3d).mono ?_); rintro e w4 ⟨rfl, vb4, x4, hx1, hx2, hx3, hB4, hW4⟩; dsimp only); have hT4 := hT3.bag hB4 hW4; have hbx4 := hT3.box_bag hW4 hbx3 (by decide) (by decide); have s14 := (op_cells hbx4).2.1; have hrm4 := hT3.row_bag hW4 ho3d)
                    | ((go_at_call 18; (with_reducible refine (RefPut_ok hT4.ref hyl (by omega) _ tq B k cf P rfl HPL.out (by omega) HBN.out (hrW.new hT4.new)).mono ?_); rintro e w5 ⟨rfl, vr5, y5, hy1, hy2, hy3, hR5, hW5⟩; dsimp only); have hT5 := hT4.rf hR5 hW5; have hbx5 := hT4.box_rf hW5 hbx4 (by decide); have s15 := (op_cells hbx5).2.1; have hrm5 := hT4.row_rf hW5 hrm4)
                    | (obtain ⟨A9, c9, e9, _, _, hr9, _⟩ := own_rd hrm5; cases e9; (go_at_call 9; (with_reducible refine (Same_e _ _ k k _ _ P P _ HPL.out HPL.out hr9 (hrW.new hT5.new) true (decide_eq_true rfl)).mono ?_); rintro e w6 ⟨rfl, rfl⟩; dsimp only)))
                all_goals
                  have hfar : ∀ b, (Value.slice A2 k c2).ownBlock = some b → wB.heap.size ≤ b ∧ b < w3.heap.size := fun b hb => ⟨own_ge ho3 b hb, own_lt ho3 b hb⟩
                  obtain ⟨vbz, vrz, xz, yz, hTz, HAz, hbz, hrz, hfx, hfy⟩ : ∃ vbz vrz xz yz, Two w1 w5 w1.heap.size w2.heap.size m vbz vrz xz yz ∧ Bx (Alike m xz yz) ∧ w5.heap[bx]? = some (.cells _ 48 (0, 0)) ∧ w5.ownsRow wB.heap.size 5 1 (.slice A2 k c2) k (u8s P) ∧ (∀ b, (Value.slice A2 k c2).ownBlock = some b → ∀ x ∈ xz, ¬ x.v.ownBlock = some b) ∧ (∀ b, (Value.slice A2 k c2).ownBlock = some b → ∀ x ∈ yz, ¬ x.v.ownBlock = some b) := by
                    have h34 : w3.heap.size ≤ w4.heap.size := hW4.upd.size
                    refine ⟨_, _, _, _, hT5, ⟨HA.out.put (x := x4) (y := y5) (by rw [hx1, hy1]) (by rw [hx2, hy2]) (by rw [hx2, HPL.out]; exact hk40) hfull⟩, hbx5, hrm5, ?_, ?_⟩
                    · intro b hb x hx q
                      have hfb := hfar b hb
                      rcases List.mem_append.1 hx with hx | hx
                      · have := own_lt (hT1.held.bag.frs x hx) b q; omega
                      · obtain rfl := List.mem_singleton.1 hx
                        have : w3.heap.size ≤ b := hx3 b q
                        omega
                    · intro b hb x hx q
                      have hfb := hfar b hb
                      rcases List.mem_append.1 hx with hx | hx
                      · have := own_lt (hT1.ref.frs x hx) b q; omega
                      · obtain rfl := List.mem_singleton.1 hx
                        have := hy3 b q
                        omega
                  clear hT3 hT4 hT5 hB4 hR5 hW4 hW5 hbx3 hbx4 hbx5 hrm4 hrm5 s13 s14 s15 hr3 hr3d ho3 ho3d hs hl0 hu3 hk3
                  go_wp2
                  refine wp_loopM [none, none, none, none, none, none, none, none, none, none, none, none, none, none, some 14, none, none, none, none, none, none, none, none, none, none, none, none, none, none, none, none, none, none, none, none, none, none, none, none, none, none, none, none, none, none, none, none, none, none, none, none, none, none, none, none, none, none, none, none, none, none, none, none, none, none, none, none, none, none, none, none, none, none, none, none, none, none, none, none, none, none, none, none, none, none, none, none, none, none, none, none, none, none, none, none, none, none, none, none, none, none, none, none, none, none, none, some 106, some 107, some 108, some 109, some 110, some 111, some 112, some 113, some 114, some 115, none, none, none, none, none, none, none, none, none, none, none, none, none, none, none, none, none, none, none, none, none, none, none, none, none, none, none, none, none, none, none, none, none, none, none, none, none, none, none, none, none, none, none, none, none, none, none, none, none, none, none, none, none, none, none, none, none, none, none, none, none, none, none, none, none, none, none, none, none, none, none, none, none, none, none, none, none, none, none, none, none, none, none, none, none, none, none, none, none, none, none, none, none, none, none, none, none, none, none, none, none, none, none, none, none, none, none, none, none, none, none, none, none, none, none, none, none, none, none, none, none, none, none, none, none, none, none, none, none, none, none, none, none, none, none, none, none, none, none, none, none, none, none, none, none, none, none, none, none, none, none, none, none, none, none, none, none, none, none, none, none, none, none, none, none, none, none, none, none, none, none, none, none, none, none, none, none, none, none, none, none, none, none, none, none, none, none, none, none, none, none, none, none, none, none, none, none, none, none, none, none, none, none, none, none, none, none, none, none, none, none, none, none, none, none, none, none, none, none, none, none, none] (fun fs wr d => (fun u106 wr d => ∃ (q : Nat) (L : List (BitVec 8)), q ≤ k ∧ u106 = .int .i64 q ∧ wr.ownsRow wB.heap.size 5 1 (.slice A2 k c2) k (u8s L) ∧ Two w1 wr w1.heap.size w2.heap.size m vbz vrz xz yz ∧ Bx (wr.heap[bx]? = w5.heap[bx]?) ∧ d = k - q) (fs 106) wr d) (by kernel_rfl) ?atStart ?round
                  case' atStart => simp only [slotsOf, List.getD_cons_succ, List.getD_cons_zero]
                  case' round => (intro dM_ J_ K_ fs wr hrel hJ_ hK_; simp only [Mix]; generalize fs 106 = u106 at hrel ⊢; try dsimp only at hrel)
                  case atStart => exact ⟨_, 0, P, Nat.zero_le _, rfl, hrz, hTz, ⟨by trivial⟩, rfl⟩
                  case round =>
                    clear hTz hrz
                    obtain ⟨q, L, hq, rfl, hrq, hTq, HBE, rfl⟩ := hrel
                    have HBQ := Bx.mk (HBE.out.trans hbz)
                    have HBZ := Bx.mk hbz.symm
                    clear hbz HBE
                    by_cases hlt : q < k
                    · have hqi : (q : Int) < (k : Int) := by omega
                      obtain ⟨gq, cq, hv, hg, hcell, hfz, hset⟩ := own_u8 hrq q hlt
                      obtain ⟨rfl, rfl⟩ : A2 = some ⟨gq, 0, none⟩ ∧ c2 = cq := by simpa using hv
                      have hTn := fun u => hTq.flip (Nat.le_trans hT1.new.size hg) hrq (fun x hx => hfx gq rfl x hx) (fun x hx => hfy gq rfl x hx) q u
                      have hBn := fun u => box_flip HBQ.out hrq (by decide) q u
                      have HSET := Bx.mk hset
                      have HTN := Bx.mk hTn
                      have HBN2 := Bx.mk hBn
                      clear hset hTn hBn
                      generalize L.getD q 0#8 = yb at *
                      have HF1 := Bx.mk (flip1 yb)
                      go_wp2
                      first | refine met_loop (by assumption) (by kernel_rfl) (by kernel_rfl) ?rel | refine met_cut (by assumption) (by kernel_rfl) (by kernel_rfl) ?rel
                      case' rel => simp only [slotsOf, List.getD_cons_succ, List.getD_cons_zero]
                      case rel => exact ⟨_, ⟨q + 1, L.set q (yb ^^^ 1#8), by omega, by go_num, by rw [HF1.out]; exact HSET.out _, HTN.out _, ⟨(HBN2.out _).trans HBZ.out⟩, rfl⟩, by omega⟩
                    · obtain rfl : q = k := by omega
                      go_wp2
                      first | refine met_loop (by assumption) (by kernel_rfl) (by kernel_rfl) ?rel | refine met_cut (by assumption) (by kernel_rfl) (by kernel_rfl) ?rel
                      case' rel => simp only [slotsOf, List.getD_cons_succ, List.getD_cons_zero]
                      case rel => exact ⟨by trivial, vbz, vrz, xz, yz, hTq, HAz, HBQ⟩
              · have hxm : xs.length = m := by have := HA.out.len; omega
                have hym : ys.length = m := by rw [HA.out.length, hxm]
                have hmx : m ≤ xs.length := by omega
                clear hfull
                go_region_held3 (fun w' => w'.cell? ⟨bx, 1, none⟩ = some (.int .i64 tq)) (first | exact s13 | exact s14 | exact s15)
                  (first
                    | ((go_at_call 12; (with_reducible refine (Put_full hT3.held.bag hmx _ tq A2 k c2 rfl).mono ?_); rintro e w4 ⟨rfl, hN4⟩; dsimp only); have hT4 := hT3.next hN4; have hbx4 := hN4.blk hbx3 (fun q => q); have s14 := (op_cells hbx4).2.1; have hrm4 := own_new ho3d hN4)
                    | ((go_at_call 18; (with_reducible refine (RefPut_full hT4.ref hym _ tq B k cf rfl).mono ?_); rintro e w5 ⟨rfl, hN5⟩; dsimp only); have hT5 := hT4.next hN5; have hbx5 := hN5.blk hbx4 (fun q => q); have s15 := (op_cells hbx5).2.1; have hrm5 := own_new hrm4 hN5)
                    | (obtain ⟨A9, c9, e9, _, _, hr9, _⟩ := own_rd hrm5; cases e9; (go_at_call 9; (with_reducible refine (Same_e _ _ k k _ _ P P _ HPL.out HPL.out hr9 (hrW.new hT5.new) true (decide_eq_true rfl)).mono ?_); rintro e w6 ⟨rfl, rfl⟩; dsimp only)))
                all_goals
                  have hfar : ∀ b, (Value.slice A2 k c2).ownBlock = some b → wB.heap.size ≤ b ∧ b < w3.heap.size := fun b hb => ⟨own_ge ho3 b hb, own_lt ho3 b hb⟩
                  obtain ⟨vbz, vrz, xz, yz, hTz, HAz, hbz, hrz, hfx, hfy⟩ : ∃ vbz vrz xz yz, Two w1 w5 w1.heap.size w2.heap.size m vbz vrz xz yz ∧ Bx (Alike m xz yz) ∧ w5.heap[bx]? = some (.cells _ 48 (0, 0)) ∧ w5.ownsRow wB.heap.size 5 1 (.slice A2 k c2) k (u8s P) ∧ (∀ b, (Value.slice A2 k c2).ownBlock = some b → ∀ x ∈ xz, ¬ x.v.ownBlock = some b) ∧ (∀ b, (Value.slice A2 k c2).ownBlock = some b → ∀ x ∈ yz, ¬ x.v.ownBlock = some b) := by
                    refine ⟨_, _, _, _, hT5, HA, hbx5, hrm5, ?_, ?_⟩
                    · intro b hb x hx q
                      have hfb := hfar b hb
                      have := own_lt (hT1.held.bag.frs x hx) b q; omega
                    · intro b hb x hx q
                      have hfb := hfar b hb
                      have := own_lt (hT1.ref.frs x hx) b q; omega
                  clear hT3 hT4 hT5 hN4 hN5 hbx3 hbx4 hbx5 hrm4 hrm5 s13 s14 s15 hr3 hr3d ho3 ho3d hs hl0 hu3 hk3
                  go_wp2
                  refine wp_loopM [none, none, none, none, none, none, none, none, none, none, none, none, none, none, some 14, none, none, none, none, none, none, none, none, none, none, none, none, none, none, none, none, none, none, none, none, none, none, none, none, none, none, none, none, none, none, none, none, none, none, none, none, none, none, none, none, none, none, none, none, none, none, none, none, none, none, none, none, none, none, none, none, none, none, none, none, none, none, none, none, none, none, none, none, none, none, none, none, none, none, none, none, none, none, none, none, none, none, none, none, none, none, none, none, none, none, none, some 106, some 107, some 108, some 109, some 110, some 111, some 112, some 113, some 114, some 115, none, none, none, none, none, none, none, none, none, none, none, none, none, none, none, none, none, none, none, none, none, none, none, none, none, none, none, none, none, none, none, none, none, none, none, none, none, none, none, none, none, none, none, none, none, none, none, none, none, none, none, none, none, none, none, none, none, none, none, none, none, none, none, none, none, none, none, none, none, none, none, none, none, none, none, none, none, none, none, none, none, none, none, none, none, none, none, none, none, none, none, none, none, none, none, none, none, none, none, none, none, none, none, none, none, none, none, none, none, none, none, none, none, none, none, none, none, none, none, none, none, none, none, none, none, none, none, none, none, none, none, none, none, none, none, none, none, none, none, none, none, none, none, none, none, none, none, none, none, none, none, none, none, none, none, none, none, none, none, none, none, none, none, none, none, none, none, none, none, none, none, none, none, none, none, none, none, none, none, none, none, none, none, none, none, none, none, none, none, none, none, none, none, none, none, none, none, none, none, none, none, none, none, none, none, none, none, none, none, none, none, none, none, none, none, none, none, none, none, none, none, none] (fun fs wr d => (fun u106 wr d => ∃ (q : Nat) (L : List (BitVec 8)), q ≤ k ∧ u106 = .int .i64 q ∧ wr.ownsRow wB.heap.size 5 1 (.slice A2 k c2) k (u8s L) ∧ Two w1 wr w1.heap.size w2.heap.size m vbz vrz xz yz ∧ Bx (wr.heap[bx]? = w5.heap[bx]?) ∧ d = k - q) (fs 106) wr d) (by kernel_rfl) ?atStart ?round
                  case' atStart => simp only [slotsOf, List.getD_cons_succ, List.getD_cons_zero]
                  case' round => (intro dM_ J_ K_ fs wr hrel hJ_ hK_; simp only [Mix]; generalize fs 106 = u106 at hrel ⊢; try dsimp only at hrel)
                  case atStart => exact ⟨_, 0, P, Nat.zero_le _, rfl, hrz, hTz, ⟨by trivial⟩, rfl⟩
                  case round =>
                    clear hTz hrz
                    obtain ⟨q, L, hq, rfl, hrq, hTq, HBE, rfl⟩ := hrel
                    have HBQ := Bx.mk (HBE.out.trans hbz)
                    have HBZ := Bx.mk hbz.symm
                    clear hbz HBE
                    by_cases hlt : q < k
                    · have hqi : (q : Int) < (k : Int) := by omega
                      obtain ⟨gq, cq, hv, hg, hcell, hfz, hset⟩ := own_u8 hrq q hlt
                      obtain ⟨rfl, rfl⟩ : A2 = some ⟨gq, 0, none⟩ ∧ c2 = cq := by simpa using hv
                      have hTn := fun u => hTq.flip (Nat.le_trans hT1.new.size hg) hrq (fun x hx => hfx gq rfl x hx) (fun x hx => hfy gq rfl x hx) q u
                      have hBn := fun u => box_flip HBQ.out hrq (by decide) q u
                      have HSET := Bx.mk hset
                      have HTN := Bx.mk hTn
                      have HBN2 := Bx.mk hBn
                      clear hset hTn hBn
                      generalize L.getD q 0#8 = yb at *
                      have HF1 := Bx.mk (flip1 yb)
                      go_wp2
                      first | refine met_loop (by assumption) (by kernel_rfl) (by kernel_rfl) ?rel | refine met_cut (by assumption) (by kernel_rfl) (by kernel_rfl) ?rel
                      case' rel => simp only [slotsOf, List.getD_cons_succ, List.getD_cons_zero]
                      case rel => exact ⟨_, ⟨q + 1, L.set q (yb ^^^ 1#8), by omega, by go_num, by rw [HF1.out]; exact HSET.out _, HTN.out _, ⟨(HBN2.out _).trans HBZ.out⟩, rfl⟩, by omega⟩
                    · obtain rfl : q = k := by omega
                      go_wp2
                      first | refine met_loop (by assumption) (by kernel_rfl) (by kernel_rfl) ?rel | refine met_cut (by assumption) (by kernel_rfl) (by kernel_rfl) ?rel
                      case' rel => simp only [slotsOf, List.getD_cons_succ, List.getD_cons_zero]
                      case rel => exact ⟨by trivial, vbz, vrz, xz, yz, hTq, HAz, HBQ⟩
          · by_cases hin : 0 ≤ I ∧ I < (xs.length : Int)
            · obtain ⟨i, hI'⟩ := Int.eq_ofNat_of_zero_le hin.1
              have hi : i < xs.length := by omega
              have hi2 : i < ys.length := by rw [HA.out.length]; exact hi
              have hsz : xs.length ≤ 4096 := by have := HA.out.len; omega
              have hsz2 : ys.length ≤ 4096 := by rw [HA.out.length]; exact hsz
              obtain ⟨x, y, tv, F, l, Ay, cy, hx', hy', ht1, ht2, hf1, hf2, hFl, hl40, hyv, hym, hyn⟩ := hT1.pick HA.out i hi
              have HTK := Bx.mk (Take_J hT1.held.bag i hi hsz x hx' I tv F l hI'.symm ht1 hf1 hFl hl40)
              have HRT := fun (w' : World) (h : ∃ vb xs, Two w1 w' w1.heap.size w2.heap.size m vb vr xs ys) => RefTake_J (h.elim fun _ h => h.elim fun _ h => h.ref) i hi2 hsz2 y hy' I tv (.slice Ay l cy) hI'.symm ht2 hyv
              have HFR := fun (w' : World) (vb : Value) (xs : List It) (h : Two w1 w' w1.heap.size w2.heap.size m vb vr xs ys) => h.frame hym hf2 hFl hyv
              have HFL := Bx.mk hFl
              clear hI' hx' hy' ht1 ht2 hf1 hf2 hFl hyv hin
              go_wp2_with (first
                | (go_at_call 16; (with_reducible refine (HTK.out).mono ?_); rintro e w4 ⟨vr4, vb4, rfl, ho4, hB4, hW4⟩; obtain ⟨A4, c4, rfl, _⟩ := own_rd ho4; have hT4 := hT1.bag hB4 hW4; have hb4 := hT1.box_bag hW4 HBX.out (by decide) (by decide); have hal4 : New w4 (w4.alloc (.cells #[.int .i64 tv, .slice A4 l c4] 36)) := (Upd.refl _ _).alloc _; have hT4' := hT4.next hal4; have hb4' := hal4.blk hb4 (fun q => q); obtain ⟨_, _, _, s34, _, _⟩ := op_cells hb4'; have b15 := box_new w4 (.int .i64 tv) (.slice A4 l c4); dsimp only)
                | (go_at_call 19; (with_reducible refine (HRT _ ⟨_, _, hT4'⟩).mono ?_); rintro e w5 ⟨rfl, vr5, hR5, hW5⟩; have hT5 := hT4'.rf hR5 hW5; have hb5 := hT4'.box_rf hW5 hb4' (by decide); have b15' := hT4'.box_rf hW5 b15 (by decide); have hal5 : New w5 (w5.alloc (.cells #[.int .i64 tv, .slice Ay l cy] 36)) := (Upd.refl _ _).alloc _; have hT5' := hT5.next hal5; have hb5' := hal5.blk hb5 (fun q => q); have b15'' := hal5.blk b15' (fun q => q); obtain ⟨p0, p1⟩ := out_box b15''; have b17 := box_new w5 (.int .i64 tv) (.slice Ay l cy); obtain ⟨p2, p3⟩ := out_box b17; have ra := row_rd (own_new (hT4'.row_rf hW5 (own_new ho4 hal4)) hal5); have rb := row_rd (own_new (hT4'.row_rf hW5 (HFR _ _ _ hT4')) hal5); dsimp only)
                | (go_at_call 20; (with_reducible refine (same_yes _ tv tv A4 Ay l l c4 cy F F HFL.out HFL.out ra rb rfl rfl).mono ?_); rintro e w6 ⟨rfl, hN6⟩; have hT6 := hT5'.next hN6; have hb6 := hN6.blk hb5' (fun q => q); dsimp only))
              first | refine met_loop (by assumption) (by kernel_rfl) (by kernel_rfl) ?rel | refine met_cut (by assumption) (by kernel_rfl) (by kernel_rfl) ?rel
              case' rel => simp only [slotsOf, List.getD_cons_succ, List.getD_cons_zero]
              case rel => exact ⟨by trivial, _, _, _, _, hT6, ⟨HA.out.cut i⟩, ⟨hb6⟩⟩
            · have hin2 : ¬ (0 ≤ I ∧ I < (ys.length : Int)) := by rw [HA.out.length]; exact hin
              have HTK := Bx.mk (Take_no hT1.held.bag I hin)
              have HRT := fun (w' : World) (h : New wB w') => RefTake_no (hT1.ref.new h) I hin2
              clear hin hin2
              go_wp2_with (first
                | (go_at_call 16; (with_reducible refine (HTK.out).mono ?_); rintro e w4 ⟨rfl, hN4⟩; have hal4 : New w4 (w4.alloc (.cells #[.int .i64 0, .slice none 0 0] 36)) := (Upd.refl _ _).alloc _; have hN4' := hN4.trans hal4; obtain ⟨_, _, _, s34, _, _⟩ := op_cells (hN4'.blk HBX.out (fun q => q)); have b15 := box_new w4 (.int .i64 0) (.slice none 0 0); dsimp only)
                | (go_at_call 19; (with_reducible refine (HRT _ hN4').mono ?_); rintro e w5 ⟨rfl, hN5⟩; have hal5 : New w5 (w5.alloc (.cells #[.int .i64 0, .slice none 0 0] 36)) := (Upd.refl _ _).alloc _; obtain ⟨p0, p1⟩ := out_box ((hN5.trans hal5).blk b15 (fun q => q)); obtain ⟨p2, p3⟩ := out_box (box_new w5 (.int .i64 0) (.slice none 0 0)); have hN5' := hN4'.trans (hN5.trans hal5); dsimp only)
                | (go_at_call 20; (with_reducible refine (same_yes _ 0 0 none none 0 0 0 0 [] [] rfl rfl (rd_nil8 _ _) (rd_nil8 _ _) rfl rfl).mono ?_); rintro e w6 ⟨rfl, hN6⟩; have hN6' := hN5'.trans hN6; dsimp only))
              first | refine met_loop (by assumption) (by kernel_rfl) (by kernel_rfl) ?rel | refine met_cut (by assumption) (by kernel_rfl) (by kernel_rfl) ?rel
              case' rel => simp only [slotsOf, List.getD_cons_succ, List.getD_cons_zero]
              case rel => exact ⟨by trivial, _, _, _, _, hT1.next hN6', HA, ⟨hN6'.blk HBX.out (fun q => q)⟩⟩
          · by_cases hin : 0 ≤ I ∧ I < (xs.length : Int)
            · obtain ⟨i, hI'⟩ := Int.eq_ofNat_of_zero_le hin.1
              have hi : i < xs.length := by omega
              have hi2 : i < ys.length := by rw [HA.out.length]; exact hi
              have hsz : xs.length ≤ 4096 := by have := HA.out.len; omega
              have hsz2 : ys.length ≤ 4096 := by rw [HA.out.length]; exact hsz
              obtain ⟨x, y, tv, F, l, Ay, cy, hx', hy', ht1, ht2, hf1, hf2, hFl, hl40, hyv, hym, hyn⟩ := hT1.pick HA.out i hi
              have HTK := Bx.mk (Peek_J hT1.held.bag i hi hsz x hx' I tv F l hI'.symm ht1 hf1 hFl hl40)
              have HRT := fun (w' : World) (h : New wB w') => RefPeek_J (hT1.ref.new h) i hi2 y hy' I tv (.slice Ay l cy) hI'.symm ht2 hyv
              have HFR := Bx.mk (hT1.frame hym hf2 hFl hyv)
              have HFL := Bx.mk hFl
              clear hI' hx' hy' ht1 ht2 hf1 hf2 hFl hyv hin
              go_wp2_with (first
                | (go_at_call 14; (with_reducible refine (HTK.out).mono ?_); rintro e w4 ⟨vr4, rfl, ho4, hN4⟩; obtain ⟨A4, c4, rfl, _⟩ := own_rd ho4; have hal4 : New w4 (w4.alloc (.cells #[.int .i64 tv, .slice A4 l c4] 36)) := (Upd.refl _ _).alloc _; have hN4' := hN4.trans hal4; obtain ⟨_, _, _, s34, _, _⟩ := op_cells (hN4'.blk HBX.out (fun q => q)); have b15 := box_new w4 (.int .i64 tv) (.slice A4 l c4); dsimp only)
                | (go_at_call 21; (with_reducible refine (HRT _ hN4').mono ?_); rintro e w5 ⟨rfl, hN5⟩; have hal5 : New w5 (w5.alloc (.cells #[.int .i64 tv, .slice Ay l cy] 36)) := (Upd.refl _ _).alloc _; have hN45 := hN5.trans hal5; have b15' := hN45.blk b15 (fun q => q); obtain ⟨p0, p1⟩ := out_box b15'; obtain ⟨p2, p3⟩ := out_box (box_new w5 (.int .i64 tv) (.slice Ay l cy)); have hN5' := hN4'.trans hN45; have ra := row_rd (own_new ho4 (hal4.trans hN45)); have rb := row_rd (own_new HFR.out hN5'); dsimp only)
                | (go_at_call 20; (with_reducible refine (same_yes _ tv tv A4 Ay l l c4 cy F F HFL.out HFL.out ra rb rfl rfl).mono ?_); rintro e w6 ⟨rfl, hN6⟩; have hN6' := hN5'.trans hN6; have hb6 := hN6.blk b15' (fun q => q); obtain ⟨p4, p5⟩ := out_box hb6; have hrz := own_new ho4 ((hal4.trans hN45).trans hN6); dsimp only))
              have hTz := hT1.next hN6'
              have hbz := hN6'.blk HBX.out (fun q => q)
              have HB19 := Bx.mk hb6
              have hfx : ∀ b, wB.heap.size ≤ b → ∀ x ∈ xs, ¬ x.v.ownBlock = some b := fun b hb x hx q => by have := own_lt (hT1.held.bag.frs x hx) b q; omega
              have hfy : ∀ b, wB.heap.size ≤ b → ∀ x ∈ ys, ¬ x.v.ownBlock = some b := fun b hb x hx q => by have := own_lt (hT1.ref.frs x hx) b q; omega
              clear p0 p1 p2 p3 p4 p5 ra rb hb6 b15 b15' s34
              refine wp_loopM [none, none, none, none, none, none, none, none, none, none, none, none, none, none, none, none, none, none, none, none, none, none, none, some 23, none, none, none, none, none, none, none, none, none, none, none, none, none, none, none, none, none, none, none, none, none, none, none, none, none, none, none, none, none, none, none, none, none, none, none, none, none, none, none, none, none, none, none, none, none, none, none, none, none, none, none, none, none, none, none, none, none, none, none, none, none, none, none, none, none, none, none, none, none, none, none, none, none, none, none, none, none, none, none, none, none, none, none, none, none, none, none, none, none, none, none, none, none, none, none, none, none, none, none, none, none, none, none, none, none, none, none, none, none, none, none, none, none, none, none, none, none, none, none, none, none, none, none, none, none, none, none, none, none, none, none, none, none, none, none, none, none, none, none, none, none, none, none, some 167, some 168, some 169, some 170, some 171, some 172, some 173, some 174, some 175, some 176, some 177, none, none, none, none, none, none, none, none, none, none, none, none, none, none, none, none, none, none, none, none, none, none, none, none, none, none, none, none, none, none, none, none, none, none, none, none, none, none, none, none, none, none, none, none, none, none, none, none, none, none, none, none, none, none, none, none, none, none, none, none, none, none, none, none, none, none, none, none, none, none, none, none, none, none, none, none, none, none, none, none, none, none, none, none, none, none, none, none, none, none, none, none, none, none, none, none, none, none, none, none, none, none, none, none, none, none, none, none, none, none, none, none, none, none, none, none, none, none, none, none, none, none, none, none, none, none, none, none, none, none, none, none, none, none, none, none, none, none, none, none, none, none, none, none, none, none, none, none, none, none, none, none, none, none, none, none, none, none, none, none] (fun fs wr d => (fun u167 wr d => ∃ (q : Nat) (L : List (BitVec 8)), q ≤ l ∧ u167 = .int .i64 q ∧ wr.ownsRow wB.heap.size 5 1 (.slice A4 l c4) l (u8s L) ∧ Two w1 wr w1.heap.size w2.heap.size m vb vr xs ys ∧ Bx (wr.heap[bx]? = w6.heap[bx]?) ∧ Bx (wr.heap[w4.heap.size]? = some (.cells #[.int .i64 tv, .slice A4 l c4] 36 (0, 0))) ∧ d = l - q) (fs 167) wr d) (by kernel_rfl) ?atStart ?round
              case' atStart => simp only [slotsOf, List.getD_cons_succ, List.getD_cons_zero]
              case' round => (intro dM_ J_ K_ fs wr hrel hJ_ hK_; simp only [Mix]; generalize fs 167 = u167 at hrel ⊢; try dsimp only at hrel)
              case atStart => exact ⟨_, 0, F, Nat.zero_le _, rfl, hrz, hTz, ⟨by trivial⟩, HB19, rfl⟩
              case round =>
                clear hTz hrz HB19
                obtain ⟨q, L, hq, rfl, hrq, hTq, HBE, HB9, rfl⟩ := hrel
                have HBQ := Bx.mk (HBE.out.trans hbz)
                have HBZ := Bx.mk hbz.symm
                clear hbz HBE
                by_cases hlt : q < l
                · have hqi : (q : Int) < (l : Int) := by omega
                  obtain ⟨gq, cq, hv, hg, hcell, hfz, hset⟩ := own_u8 hrq q hlt
                  obtain ⟨rfl, rfl⟩ : A4 = some ⟨gq, 0, none⟩ ∧ c4 = cq := by simpa using hv
                  have hTn := fun u => hTq.flip (Nat.le_trans hT1.new.size hg) hrq (hfx gq hg) (hfy gq hg) q u
                  have hBn := fun u => box_flip HBQ.out hrq (by decide) q u
                  have hB9n := fun u => box_flip HB9.out hrq (by decide) q u
                  obtain ⟨p0, p1⟩ := out_box HB9.out
                  have HSET := Bx.mk hset
                  have HTN := Bx.mk hTn
                  have HBN2 := Bx.mk hBn
                  have HBN9 := Bx.mk hB9n
                  clear hset hTn hBn hB9n
                  generalize L.getD q 0#8 = yb at *
                  have HF1 := Bx.mk (flip1 yb)
                  go_wp2
                  first | refine met_loop (by assumption) (by kernel_rfl) (by kernel_rfl) ?rel | refine met_cut (by assumption) (by kernel_rfl) (by kernel_rfl) ?rel
                  case' rel => simp only [slotsOf, List.getD_cons_succ, List.getD_cons_zero]
                  case rel => exact ⟨_, ⟨q + 1, L.set q (yb ^^^ 1#8), by omega, by go_num, by rw [HF1.out]; exact HSET.out _, HTN.out _, ⟨(HBN2.out _).trans HBZ.out⟩, ⟨HBN9.out _⟩, rfl⟩, by omega⟩
                · obtain rfl : q = l := by omega
                  go_wp2
                  first | refine met_loop (by assumption) (by kernel_rfl) (by kernel_rfl) ?rel | refine met_cut (by assumption) (by kernel_rfl) (by kernel_rfl) ?rel
                  case' rel => simp only [slotsOf, List.getD_cons_succ, List.getD_cons_zero]
                  case rel => exact ⟨by trivial, vb, vr, xs, ys, hTq, HA, HBQ⟩
            · have hin2 : ¬ (0 ≤ I ∧ I < (ys.length : Int)) := by rw [HA.out.length]; exact hin
              have HTK := Bx.mk (Peek_no hT1.held.bag I hin)
              have HRT := fun (w' : World) (h : New wB w') => RefPeek_no (hT1.ref.new h) I hin2
              clear hin hin2
              go_wp2_with (first
                | (go_at_call 14; (with_reducible refine (HTK.out).mono ?_); rintro e w4 ⟨rfl, hN4⟩; have hal4 : New w4 (w4.alloc (.cells #[.int .i64 0, .slice none 0 0] 36)) := (Upd.refl _ _).alloc _; have hN4' := hN4.trans hal4; obtain ⟨_, _, _, s34, _, _⟩ := op_cells (hN4'.blk HBX.out (fun q => q)); have b15 := box_new w4 (.int .i64 0) (.slice none 0 0); dsimp only)
                | (go_at_call 21; (with_reducible refine (HRT _ hN4').mono ?_); rintro e w5 ⟨rfl, hN5⟩; have hal5 : New w5 (w5.alloc (.cells #[.int .i64 0, .slice none 0 0] 36)) := (Upd.refl _ _).alloc _; have b15' := (hN5.trans hal5).blk b15 (fun q => q); obtain ⟨p0, p1⟩ := out_box b15'; obtain ⟨p2, p3⟩ := out_box (box_new w5 (.int .i64 0) (.slice none 0 0)); have hN5' := hN4'.trans (hN5.trans hal5); dsimp only)
                | (go_at_call 20; (with_reducible refine (same_yes _ 0 0 none none 0 0 0 0 [] [] rfl rfl (rd_nil8 _ _) (rd_nil8 _ _) rfl rfl).mono ?_); rintro e w6 ⟨rfl, hN6⟩; have hN6' := hN5'.trans hN6; obtain ⟨p4, p5⟩ := out_box (hN6.blk b15' (fun q => q)); dsimp only))
              refine wp_loop_rounds 1 ?_
              rw [rounds_succ]
              go_wp2
              first | refine met_loop (by assumption) (by kernel_rfl) (by kernel_rfl) ?rel | refine met_cut (by assumption) (by kernel_rfl) (by kernel_rfl) ?rel
              case' rel => simp only [slotsOf, List.getD_cons_succ, List.getD_cons_zero]
              case rel => exact ⟨by trivial, _, _, _, _, hT1.next hN6', HA, ⟨hN6'.blk HBX.out (fun q => q)⟩⟩
          · by_cases hin : 0 ≤ I ∧ I < (xs.length : Int)
            · obtain ⟨i, hI'⟩ := Int.eq_ofNat_of_zero_le hin.1
              have hi : i < xs.length := by omega
              have hi2 : i < ys.length := by rw [HA.out.length]; exact hi
              have hsz : xs.length ≤ 4096 := by have := HA.out.len; omega
              have hsz2 : ys.length ≤ 4096 := by rw [HA.out.length]; exact hsz
              obtain ⟨x, y, tv, F, l, Ay, cy, hx', hy', ht1, ht2, hf1, hf2, hFl, hl40, hyv, hym, hyn⟩ := hT1.pick HA.out i hi
              have HRT := Bx.mk (RefPeek_J hT1.ref i hi2 y hy' I tv (.slice Ay l cy) hI'.symm ht2 hyv)
              have HFR := Bx.mk (hT1.frame hym hf2 hFl hyv)
              have HFL := Bx.mk hFl
              by_cases hfull : xs.length < m
              · have hyl : ys.length < m := by rw [HA.out.length]; exact hfull
                have HTK := fun (w' : World) (h : ∃ vr ys, Two w1 w' w1.heap.size w2.heap.size m vb vr xs ys) => Copy_J (h.elim fun _ h => h.elim fun _ h => h.held.bag) hfull (by omega) i hi x hx' I tv F l hI'.symm ht1 hf1 hFl hl40
                clear hI' hx' hy' ht1 ht2 hf1 hf2 hFl hyv hin
                go_wp2_with (first
                | (go_at_call 21; (with_reducible refine (HRT.out).mono ?_); rintro e w5 ⟨rfl, hN5⟩; have hal5 : New w5 (w5.alloc (.cells #[.int .i64 tv, .slice Ay l cy] 36)) := (Upd.refl _ _).alloc _; have hN5' := hN5.trans hal5; have hT5 := hT1.next hN5'; have hb5 := hN5'.blk HBX.out (fun q => q); obtain ⟨_, _, _, s34, _, _⟩ := op_cells hb5; obtain ⟨p0, p1⟩ := out_box (box_new w5 (.int .i64 tv) (.slice Ay l cy)); have rb := row_rd (own_new HFR.out hN5'); dsimp only)
                | (go_at_call 18; (with_reducible refine (RefPut_ok hT5.ref hyl (by omega) _ tv Ay l cy F rfl HFL.out (by omega) hyn rb).mono ?_); rintro e w6 ⟨rfl, vr6, y6, hy1, hy2, hy3, hR6, hW6⟩; have hT6 := hT5.rf hR6 hW6; have hb6 := hT5.box_rf hW6 hb5 (by decide); obtain ⟨_, _, _, s36, _, _⟩ := op_cells hb6; dsimp only)
                | (go_at_call 15; (with_reducible refine (HTK _ ⟨_, _, hT6⟩).mono ?_); rintro e w7 ⟨rfl, vb7, x7, hx1, hx2, hx3, hB7, hW7⟩; have hT7 := hT6.bag hB7 hW7; have hb7 := hT6.box_bag hW7 hb6 (by decide) (by decide); dsimp only))
                first | refine met_loop (by assumption) (by kernel_rfl) (by kernel_rfl) ?rel | refine met_cut (by assumption) (by kernel_rfl) (by kernel_rfl) ?rel
                case' rel => simp only [slotsOf, List.getD_cons_succ, List.getD_cons_zero]
                case rel => exact ⟨by trivial, _, _, _, _, hT7, ⟨HA.out.put (x := x7) (y := y6) (by rw [hx1, hy1]) (by rw [hx2, hy2]) (by rw [hx2, HFL.out]; exact hl40) hfull⟩, ⟨hb7⟩⟩
              · have hxm : xs.length = m := by have := HA.out.len; omega
                have hym2 : ys.length = m := by rw [HA.out.length, hxm]
                have HTK := fun (w' : World) (h : ∃ vr ys, Two w1 w' w1.heap.size w2.heap.size m vb vr xs ys) => CopyF_J (h.elim fun _ h => h.elim fun _ h => h.held.bag) (show m ≤ xs.length by omega) i hi hsz x hx' I F l hI'.symm hf1 hFl hl40
                clear hI' hx' hy' ht1 ht2 hf1 hf2 hFl hyv hin hfull
                go_wp2_with (first
                | (go_at_call 21; (with_reducible refine (HRT.out).mono ?_); rintro e w5 ⟨rfl, hN5⟩; have hal5 : New w5 (w5.alloc (.cells #[.int .i64 tv, .slice Ay l cy] 36)) := (Upd.refl _ _).alloc _; have hN5' := hN5.trans hal5; have hT5 := hT1.next hN5'; have hb5 := hN5'.blk HBX.out (fun q => q); obtain ⟨_, _, _, s34, _, _⟩ := op_cells hb5; obtain ⟨p0, p1⟩ := out_box (box_new w5 (.int .i64 tv) (.slice Ay l cy)); have rb := row_rd (own_new HFR.out hN5'); dsimp only)
                | (go_at_call 18; (with_reducible refine (RefPut_full hT5.ref hym2 _ tv Ay l cy rfl).mono ?_); rintro e w6 ⟨rfl, hN6⟩; have hT6 := hT5.next hN6; have hb6 := hN6.blk hb5 (fun q => q); obtain ⟨_, _, _, s36, _, _⟩ := op_cells hb6; dsimp only)
                | (go_at_call 15; (with_reducible refine (HTK _ ⟨_, _, hT6⟩).mono ?_); rintro e w7 ⟨rfl, hN7⟩; have hT7 := hT6.next hN7; have hb7 := hN7.blk hb6 (fun q => q); dsimp only))
                first | refine met_loop (by assumption) (by kernel_rfl) (by kernel_rfl) ?rel | refine met_cut (by assumption) (by kernel_rfl) (by kernel_rfl) ?rel
                case' rel => simp only [slotsOf, List.getD_cons_succ, List.getD_cons_zero]
                case rel => exact ⟨by trivial, _, _, _, _, hT7, HA, ⟨hb7⟩⟩
            · have hin2 : ¬ (0 ≤ I ∧ I < (ys.length : Int)) := by rw [HA.out.length]; exact hin
              have HTK := fun (w' : World) (h : New wB w') => Copy_no (hT1.held.bag.new h) I hin
              have HRT := Bx.mk (RefPeek_no hT1.ref I hin2)
              clear hin hin2
              go_wp2_with (first
                | (go_at_call 21; (with_reducible refine (HRT.out).mono ?_); rintro e w5 ⟨rfl, hN5⟩; have hal5 : New w5 (w5.alloc (.cells #[.int .i64 0, .slice none 0 0] 36)) := (Upd.refl _ _).alloc _; have hN5' := hN5.trans hal5; obtain ⟨_, _, _, s34, _, _⟩ := op_cells (hN5'.blk HBX.out (fun q => q)); dsimp only)
                | (go_at_call 15; (with_reducible refine (HTK _ hN5').mono ?_); rintro e w4 ⟨rfl, hN4⟩; have hN6' := hN5'.trans hN4; dsimp only))
              first | refine met_loop (by assumption) (by kernel_rfl) (by kernel_rfl) ?rel | refine met_cut (by assumption) (by kernel_rfl) (by kernel_rfl) ?rel
              case' rel => simp only [slotsOf, List.getD_cons_succ, List.getD_cons_zero]
              case rel => exact ⟨by trivial, _, _, _, _, hT1.next hN6', HA, ⟨hN6'.blk HBX.out (fun q => q)⟩⟩
          · by_cases hin : 0 ≤ I ∧ I < (xs.length : Int)
            · obtain ⟨i, hI'⟩ := Int.eq_ofNat_of_zero_le hin.1
              have hi : i < xs.length := by omega
              have hi2 : i < ys.length := by rw [HA.out.length]; exact hi
              have hsz : xs.length ≤ 4096 := by have := HA.out.len; omega
              have hsz2 : ys.length ≤ 4096 := by rw [HA.out.length]; exact hsz
              obtain ⟨x, y, tv, F, l, Ay, cy, hx', hy', ht1, ht2, hf1, hf2, hFl, hl40, hyv, hym, hyn⟩ := hT1.pick HA.out i hi
              have HRT := Bx.mk (RefTake_J hT1.ref i hi2 hsz2 y hy' I tv (.slice Ay l cy) hI'.symm ht2 hyv)
              have HTK := fun (w' : World) (h : ∃ vr ys, Two w1 w' w1.heap.size w2.heap.size m vb vr xs ys) => Drop_J (h.elim fun _ h => h.elim fun _ h => h.held.bag) i hi hsz x hx' I F l hI'.symm hf1 hFl hl40
              clear hI' hx' hy' ht1 ht2 hf1 hf2 hFl hyv hin
              go_wp2_with (first
                | (go_at_call 19; (with_reducible refine (HRT.out).mono ?_); rintro e w5 ⟨rfl, vr5, hR5, hW5⟩; have hT5 := hT1.rf hR5 hW5; have hb5 := hT1.box_rf hW5 HBX.out (by decide); have hal5 : New w5 (w5.alloc (.cells #[.int .i64 tv, .slice Ay l cy] 36)) := (Upd.refl _ _).alloc _; have hT5' := hT5.next hal5; have hb5' := hal5.blk hb5 (fun q => q); obtain ⟨_, _, _, s34, _, _⟩ := op_cells hb5'; dsimp only)
                | (go_at_call 22; (with_reducible refine (HTK _ ⟨_, _, hT5'⟩).mono ?_); rintro e w4 ⟨vb4, rfl, hB4, hW4⟩; have hT6 := hT5'.bag hB4 hW4; have hb6 := hT5'.box_bag hW4 hb5' (by decide) (by decide); dsimp only))
              first | refine met_loop (by assumption) (by kernel_rfl) (by kernel_rfl) ?rel | refine met_cut (by assumption) (by kernel_rfl) (by kernel_rfl) ?rel
              case' rel => simp only [slotsOf, List.getD_cons_succ, List.getD_cons_zero]
              case rel => exact ⟨by trivial, _, _, _, _, hT6, ⟨HA.out.cut i⟩, ⟨hb6⟩⟩
            · have hin2 : ¬ (0 ≤ I ∧ I < (ys.length : Int)) := by rw [HA.out.length]; exact hin
              have HTK := fun (w' : World) (h : New wB w') => Drop_no (hT1.held.bag.new h) I hin
              have HRT := Bx.mk (RefTake_no hT1.ref I hin2)
              clear hin hin2
              go_wp2_with (first
                | (go_at_call 19; (with_reducible refine (HRT.out).mono ?_); rintro e w5 ⟨rfl, hN5⟩; have hal5 : New w5 (w5.alloc (.cells #[.int .i64 0, .slice none 0 0] 36)) := (Upd.refl _ _).alloc _; have hN5' := hN5.trans hal5; obtain ⟨_, _, _, s34, _, _⟩ := op_cells (hN5'.blk HBX.out (fun q => q)); dsimp only)
                | (go_at_call 22; (with_reducible refine (HTK _ hN5').mono ?_); rintro e w4 ⟨rfl, hN4⟩; have hN6' := hN5'.trans hN4; dsimp only))
              first | refine met_loop (by assumption) (by kernel_rfl) (by kernel_rfl) ?rel | refine met_cut (by assumption) (by kernel_rfl) (by kernel_rfl) ?rel
              case' rel => simp only [slotsOf, List.getD_cons_succ, List.getD_cons_zero]
              case rel => exact ⟨by trivial, _, _, _, _, hT1.next hN6', HA, ⟨hN6'.blk HBX.out (fun q => q)⟩⟩
          · by_cases hin : 0 ≤ I ∧ I < (xs.length : Int)
            · obtain ⟨i, hI'⟩ := Int.eq_ofNat_of_zero_le hin.1
              have hi : i < xs.length := by omega
              have hi2 : i < ys.length := by rw [HA.out.length]; exact hi
              have hsz : xs.length ≤ 4096 := by have := HA.out.len; omega
              have hsz2 : ys.length ≤ 4096 := by rw [HA.out.length]; exact hsz
              obtain ⟨x, y, tv, F, l, Ay, cy, hx', hy', ht1, ht2, hf1, hf2, hFl, hl40, hyv, hym, hyn⟩ := hT1.pick HA.out i hi
              subst hI'
              have HRT := Bx.mk (RefPeek_J hT1.ref i hi2 y hy' i tv (.slice Ay l cy) rfl ht2 hyv)
              have HFR := Bx.mk (hT1.frame hym hf2 hFl hyv)
              have HFL := Bx.mk hFl
              have HTK := fun (w' : World) (h : ∃ vr ys, Two w1 w' w1.heap.size w2.heap.size m vb vr xs ys) => Turn_J (h.elim fun _ h => h.elim fun _ h => h.held.bag) i hi hsz x hx' i tv F l rfl ht1 hf1 hFl hl40 At pat hAt hpat (ht.new (hu1.trans (h.elim fun _ h => h.elim fun _ h => h.new)))
              obtain ⟨Ar, cr, hvr, hlc, hcm, hrr, hrn⟩ := hT1.ref.slice
              subst hvr
              have HOL := Bx.mk (outs_length ys)
              have HOO := Bx.mk (outs_one ys hT1.ref.frs)
              have HI2 := Bx.mk hi2
              have hT1' := hT1
              generalize hly : ys.length = ly at *
              have HLY := Bx.mk hly
              clear hx' hy' ht1 ht2 hf1 hf2 hFl hyv hin hly
              go_upto_region 47 with ((go_at_call 21; (with_reducible refine (HRT.out).mono ?_); rintro e w5 ⟨rfl, hN5⟩; have hal5 : New w5 (w5.alloc (.cells #[.int .i64 tv, .slice Ay l cy] 36)) := (Upd.refl _ _).alloc _; have hN5' := hN5.trans hal5; have b28 := box_new w5 (.int .i64 tv) (.slice Ay l cy); dsimp only))
              clear hal5
              generalize w5.alloc (.cells #[.int .i64 tv, .slice Ay l cy] 36) = wA at *
              have hT5 := hT1.next hN5'
              have hb5 := hN5'.blk HBX.out (fun q => q)
              have hl0 := own_lit0 wA wA.heap.size 36 2 (Nat.le_refl _)
              have hal6 : New wA (wA.alloc (.cells #[] 36)) := (Upd.refl _ _).alloc _
              have k61 := hal6.cell hT5.ref.c1 (fun q => q)
              have hs := (hrr.new (hN5'.trans hal6)).src (P := Tryd.prog) (n := ly) (c := cr) (size := 2) Tryd.underlying53 hrn HOL.out HOO.out
              go_upto_region 48 with (at_builtin; refine wpList_appB rfl _ _ 53 53 rfl _ 36 (.agg #[.int .i64 0, .slice none 0 0]) 2 32 Tryd.underlying53 infoOut rfl _ 0 _ hl0 rfl _ ly _ hs rfl (hal6.size) (by have : maxLen = 9223372036854775807 := rfl; omega) (by omega) ?_; intro v6 w6 ho6 hk6 _; simp only [Nat.zero_add, List.nil_append] at ho6; obtain ⟨A6, c6, rfl, _⟩ := own_rd ho6; have hN6 : New wA w6 := lit_new hk6; have hR6 := hT5.ref.new hN6; have c61 := hR6.c1; have f61 := hR6.fz 1)
              have HRE := ref_end (ys := ys) (v5 := .slice A6 ly c6) hT5.ref hN6 (by rw [HLY.out]; exact ho6) (Nat.le_refl _) (fun y hy => own_new (hT5.ref.frs y hy) hN6)
              obtain ⟨g6, c6', e6, -⟩ := own_some ho6 (by have := HI2.out; omega)
              obtain ⟨rfl, rfl⟩ : A6 = some ⟨g6, 0, none⟩ ∧ c6 = c6' := by simpa using e6
              have hT6 := hT5.rf HRE.1 HRE.2
              have hb6 := hT5.box_rf HRE.2 hb5 (by decide)
              have b286 := hT5.box_rf HRE.2 b28 (by decide)
              clear HRE hR6 c61 f61 hs k61 hal6 hl0 ho6 hk6 b28 hb5
              have hFR6 := own_upd (own_new HFR.out (hN5'.trans hN6)) (Upd.set1 w6 ⟨w2.heap.size, 1, none⟩ (.slice (some ⟨g6, 0, none⟩) ly c6)) (fun b hb q => obj_apart (hT5.ref.new hN6).obj (own_new HFR.out (hN5'.trans hN6)) (by decide) (by rw [← (show b = w2.heap.size from q)]; exact hb))
              have hNW := hT6.new
              generalize w6.setCell ⟨w2.heap.size, 1, none⟩ (.slice (some ⟨g6, 0, none⟩) ly c6) = wW at *
              have hdW : New wW wW.drew := (Upd.refl _ wW).drew
              have hT6d := hT6.next hdW
              have hb6d := hdW.blk hb6 (fun q => q)
              have b286d := hdW.blk b286 (fun q => q)
              obtain ⟨z0, z1, z2, z3, z4, z5⟩ := op_cells hb6d
              obtain ⟨p0, p1⟩ := out_box b286d
              have k6 := hT6d.ref.c1
              have hrd6 := row_rd (own_new hFR6 hdW)
              have hil : (i : Int) < (ly : Int) := by have := HI2.out; omega
              obtain ⟨gq, cq, eq1, -, -, -, i0, i1, -⟩ := hT6d.ref.item i (by rw [HLY.out]; exact HI2.out)
              have eg : g6 = gq := by
                simp only [Value.slice.injEq, Option.some.injEq, Addr.mk.injEq, and_true] at eq1
                exact eq1.1
              subst eg
              clear eq1
              refine wp_region_any (by kernel_rfl) ?_
              refine wp_free 17 338 (TurnΦ wW.drew.heap.size w2.heap.size g6 ly c6 i bx w5.heap.size l cy tv At pat Ay (Nt.turned F At pat)) (TurnΦ_new _ _ _ _ _ _ _ _ _ _ _ _ _ _ _) (by kernel_rfl) (by kernel_rfl) (by kernel_rfl) (by kernel_rfl) ?_ ?_
              · intro a w' K jj o hjj ho met hK
                have hj' : jj = 0 ∨ jj = 1 ∨ jj = 2 ∨ jj = 3 ∨ jj = 4 ∨ jj = 5 ∨ jj = 6 ∨ jj = 7 ∨ jj = 8 ∨ jj = 9 ∨ jj = 10 ∨ jj = 11 ∨ jj = 12 ∨ jj = 13 ∨ jj = 14 ∨ jj = 15 ∨ jj = 16 := by have := (mem_heads.1 hjj).1; omega
                have hN := met.new
                have q0 := hN.cell k6 (fun q => q)
                have q1 := hN.cell z3 (fun q => q)
                have q2 := hN.cell z4 (fun q => q)
                have q3 := hN.cell z5 (fun q => q)
                have q4 := hN.cell p0 (fun q => q)
                have q5 := hN.cell p1 (fun q => q)
                rcases hj' with rfl | rfl | rfl | rfl | rfl | rfl | rfl | rfl | rfl | rfl | rfl | rfl | rfl | rfl | rfl | rfl | rfl
                all_goals cases ho
                · have e0 := met.b 7 (.pointer (some ⟨w2.heap.size, 0, none⟩)) rfl (by kernel_rfl)
                  refine free_run (.pointer (some ⟨w2.heap.size, 0, none⟩)) w' (by unfold execOp; go_simp) (hK _ _ (Upd.refl _ _) rfl)
                · have e0 : a.tmps[233]?.getD undef = _ := met.d 0 233 (by kernel_rfl)
                  refine free_run (.pointer (some ⟨w2.heap.size, 0, none⟩)) w' (by unfold execOp; go_simp) (hK _ _ (Upd.refl _ _) rfl)
                · have e0 : a.tmps[234]?.getD undef = _ := met.d 1 234 (by kernel_rfl)
                  refine free_run (.pointer (some ⟨w2.heap.size, 1, none⟩)) w' (by unfold execOp; go_simp) (hK _ _ (Upd.refl _ _) rfl)
                · have e0 : a.tmps[235]?.getD undef = _ := met.d 2 235 (by kernel_rfl)
                  refine free_run (.slice (some ⟨g6, 0, none⟩) ly c6) w' (by unfold execOp; go_simp) (hK _ _ (Upd.refl _ _) rfl)
                · have e0 := met.b 10 (.pointer (some ⟨bx, 0, none⟩)) rfl (by kernel_rfl)
                  refine free_run (.pointer (some ⟨bx, 3, none⟩)) w' (by unfold execOp; go_simp) (hK _ _ (Upd.refl _ _) rfl)
                · have e0 : a.tmps[237]?.getD undef = _ := met.d 4 237 (by kernel_rfl)
                  refine free_run (.int .i64 i) w' (by unfold execOp; go_simp) (hK _ _ (Upd.refl _ _) rfl)
                · have e0 := met.b 28 (.pointer (some ⟨w5.heap.size, 0, none⟩)) rfl (by kernel_rfl)
                  refine free_run (.pointer (some ⟨w5.heap.size, 0, none⟩)) w' (by unfold execOp; go_simp) (hK _ _ (Upd.refl _ _) rfl)
                · have e0 : a.tmps[239]?.getD undef = _ := met.d 6 239 (by kernel_rfl)
                  refine free_run (.int .i64 tv) w' (by unfold execOp; go_simp) (hK _ _ (Upd.refl _ _) rfl)
                · have e0 := met.b 28 (.pointer (some ⟨w5.heap.size, 0, none⟩)) rfl (by kernel_rfl)
                  refine free_run (.pointer (some ⟨w5.heap.size, 1, none⟩)) w' (by unfold execOp; go_simp) (hK _ _ (Upd.refl _ _) rfl)
                · have e0 : a.tmps[241]?.getD undef = _ := met.d 8 241 (by kernel_rfl)
                  refine free_run (.slice Ay l cy) w' (by unfold execOp; go_simp) (hK _ _ (Upd.refl _ _) rfl)
                · have e0 := met.b 10 (.pointer (some ⟨bx, 0, none⟩)) rfl (by kernel_rfl)
                  refine free_run (.pointer (some ⟨bx, 4, none⟩)) w' (by unfold execOp; go_simp) (hK _ _ (Upd.refl _ _) rfl)
                · have e0 : a.tmps[243]?.getD undef = _ := met.d 10 243 (by kernel_rfl)
                  refine free_run (.int .i64 At) w' (by unfold execOp; go_simp) (hK _ _ (Upd.refl _ _) rfl)
                · have e0 := met.b 10 (.pointer (some ⟨bx, 0, none⟩)) rfl (by kernel_rfl)
                  refine free_run (.pointer (some ⟨bx, 5, none⟩)) w' (by unfold execOp; go_simp) (hK _ _ (Upd.refl _ _) rfl)
                · have e0 : a.tmps[245]?.getD undef = _ := met.d 12 245 (by kernel_rfl)
                  refine free_run (.int .u32 pat) w' (by unfold execOp; go_simp) (hK _ _ (Upd.refl _ _) rfl)
                · have e0 : a.tmps[242]?.getD undef = _ := met.d 9 242 (by kernel_rfl)
                  have e1 : a.tmps[244]?.getD undef = _ := met.d 11 244 (by kernel_rfl)
                  have e2 : a.tmps[246]?.getD undef = _ := met.d 13 246 (by kernel_rfl)
                  have HTN6 := Bx.mk (refTurned_any Ay l cy F At pat w' HFL.out (by omega) (hrd6.new hN) hAt hpat)
                  have HSZ6 := Bx.mk (show wW.drew.heap.size ≤ w'.heap.size from hN.size)
                  clear hN
                  unfold Oper.wp execOp
                  go_simp
                  (go_at_call 10; (with_reducible refine (HTN6.out).mono ?_); rintro e w7 ⟨v7, rfl, ho7, hN7⟩; dsimp only)
                  exact hK _ _ hN7 (own_lower ho7 HSZ6.out)
                · have e0 : a.tmps[240]?.getD undef = _ := met.d 7 240 (by kernel_rfl)
                  have o1 : TurnΦ _ _ _ _ _ _ _ _ _ _ _ _ _ _ _ 14 (a.tmps[247]?.getD undef) w' := met.d 14 247 (by kernel_rfl)
                  obtain ⟨A2, c2, e1, _⟩ := own_rd (show w'.ownsRow _ _ 1 _ l (u8s (Nt.turned F At pat)) from o1)
                  rw [e1] at o1
                  refine free_run (.agg #[.int .i64 tv, .slice A2 l c2]) w' (by unfold execOp; go_simp) (hK _ _ (Upd.refl _ _) ⟨_, _, rfl, o1⟩)
                · have e0 : a.tmps[236]?.getD undef = _ := met.d 3 236 (by kernel_rfl)
                  have e1 : a.tmps[238]?.getD undef = _ := met.d 5 238 (by kernel_rfl)
                  refine free_run (.pointer (some ⟨g6, i * 2, none⟩)) w' (by unfold execOp; go_simp) (hK _ _ (Upd.refl _ _) rfl)
              · intro vs w7 hN7 hΦ
                have e16 : vs 16 = _ := hΦ 16 (by simp [heads])
                obtain ⟨A7, c7, e15, ho7⟩ := hΦ 15 (by simp [heads])
                refine tail_at [(0, some 233), (1, some 234), (2, some 235), (3, some 236), (4, some 237), (5, some 238), (6, some 239), (7, some 240), (8, some 241), (9, some 242), (10, some 243), (11, some 244), (12, some 245), (13, some 246), (14, some 247), (15, some 248), (16, some 249)] vs (by kernel_rfl) ?_
                simp only [List.map, putAll, e15, e16]
                generalize vs 0 = v0; generalize vs 1 = v1; generalize vs 2 = v2; generalize vs 3 = v3; generalize vs 4 = v4; generalize vs 5 = v5; generalize vs 6 = v6; generalize vs 7 = v7; generalize vs 8 = v8; generalize vs 9 = v9; generalize vs 10 = v10; generalize vs 11 = v11; generalize vs 12 = v12; generalize vs 13 = v13; generalize vs 14 = v14
                clear hΦ e15 e16 vs
                have hT7 := hT6d.next hN7
                have hro7 := hT7.ref.row
                rw [HLY.out] at hro7
                have fr0 := hro7.frozenAt (i * 2)
                have fr1 := hro7.frozenAt (i * 2 + 1)
                have i07 := hN7.cell i0 (fun q => q)
                have i17 := hN7.cell i1 (fun q => q)
                go_simp
                have HTL := Nt.turned_length F At pat
                have hin7 : It.In w7 ⟨tv, .slice A7 l c7, Nt.turned F At pat⟩ := by unfold It.In; dsimp only; rw [HTL, HFL.out]; exact own_lower ho7 (Nat.zero_le _)
                have hT7' : Two w1 w7 w1.heap.size w2.heap.size m vb (.slice (some ⟨g6, 0, none⟩) ys.length c6) xs ys := by rw [HLY.out]; exact hT7
                obtain ⟨-, -, hT8, hu8⟩ := hT7'.refset i (by rw [HLY.out]; exact HI2.out) ⟨tv, .slice A7 l c7, Nt.turned F At pat⟩ hin7
                have hb8 := hu8.blk (hN7.blk hb6d (fun q => q)) (fun q => obj_apart (hN7.blk hb6d (fun q => q)) hT7.ref.row (by decide) (by rw [show bx = g6 from q]; rfl))
                dsimp only at hT8 hb8
                clear z0 z1 z2 z3 z4 z5 p0 p1 k6 i0 i1 hro7 hu8
                obtain ⟨z0, z1, z2, z3, z4, z5⟩ := op_cells hb8
                go_wp2_with (first
                  | (go_at_call 23; (with_reducible refine (HTK _ ⟨_, _, hT8⟩).mono ?_); rintro e w9 ⟨rfl, x9, hx1, hx2, -, hB9, hW9⟩; have hT9 := hT8.bag hB9 hW9; have hb9 := hT8.box_bag hW9 hb8 (by decide) (by decide); dsimp only))
                first | refine met_loop (by assumption) (by kernel_rfl) (by kernel_rfl) ?rel | refine met_cut (by assumption) (by kernel_rfl) (by kernel_rfl) ?rel
                case' rel => simp only [slotsOf, List.getD_cons_succ, List.getD_cons_zero]
                case rel => exact ⟨by trivial, _, _, _, _, hT9, ⟨HA.out.set i hx1 hx2 (by rw [hx2, HTL, HFL.out]; exact hl40)⟩, ⟨hb9⟩⟩
            · have hin2 : ¬ (0 ≤ I ∧ I < (ys.length : Int)) := by rw [HA.out.length]; exact hin
              have HTK := fun (w' : World) (h : New wB w') => Turn_no (hT1.held.bag.new h) I hin At (pat : Int)
              have HRT := Bx.mk (RefPeek_no hT1.ref I hin2)
              clear hin hin2
              go_wp2_with (first
                | (go_at_call 21; (with_reducible refine (HRT.out).mono ?_); rintro e w5 ⟨rfl, hN5⟩; have hal5 : New w5 (w5.alloc (.cells #[.int .i64 0, .slice none 0 0] 36)) := (Upd.refl _ _).alloc _; have hN5' := hN5.trans hal5; obtain ⟨_, _, _, s34, s35, s36⟩ := op_cells (hN5'.blk HBX.out (fun q => q)); dsimp only)
                | (go_at_call 23; (with_reducible refine (HTK _ hN5').mono ?_); rintro e w4 ⟨rfl, rfl⟩; dsimp only))
              first | refine met_loop (by assumption) (by kernel_rfl) (by kernel_rfl) ?rel | refine met_cut (by assumption) (by kernel_rfl) (by kernel_rfl) ?rel
              case' rel => simp only [slotsOf, List.getD_cons_succ, List.getD_cons_zero]
              case rel => exact ⟨by trivial, _, _, _, _, hT1.next hN5', HA, ⟨hN5'.blk HBX.out (fun q => q)⟩⟩
          · have e0 : ((d : Int) == 0) = false := by simp; omega
            have e1 : ((d : Int) == 1) = false := by simp; omega
            have e2 : ((d : Int) == 2) = false := by simp; omega
            have e3 : ((d : Int) == 3) = false := by simp; omega
            have e4 : ((d : Int) == 4) = false := by simp; omega
            have e5 : ((d : Int) == 5) = false := by simp; omega
            have e6 : ((d : Int) == 6) = false := by simp; omega
            go_wp2
            first | refine met_loop (by assumption) (by kernel_rfl) (by kernel_rfl) ?rel | refine met_cut (by assumption) (by kernel_rfl) (by kernel_rfl) ?rel
            case' rel => simp only [slotsOf, List.getD_cons_succ, List.getD_cons_zero]
            case rel => exact ⟨by trivial, vb, vr, xs, ys, hT1, HA, HBX⟩
        case rest =>
          obtain ⟨rfl, vb', vr', xs', ys', hT2, HA2, HB2⟩ := hcut
          clear hT1 HA HBX s0 s1 s2 s3 s4 s5
          obtain ⟨s0, s1, s2, s3, s4, s5⟩ := op_cells HB2.out
          obtain ⟨l, hl⟩ : ∃ l, xs'.length = l := ⟨_, rfl⟩
          have hlm : l ≤ 2048 := by have := HA2.out.len; omega
          have HXL := Bx.mk hl
          have HYL := Bx.mk (show ys'.length = l by rw [HA2.out.length, hl])
          have hcx := hT2.ref.c1
          obtain ⟨Ar, cr, rfl, hlc, hcm, hrr, hrn⟩ := hT2.ref.slice
          rw [HYL.out] at hcx hlc hrn
          have HTO := Bx.mk (To_any hT2.held.bag (by omega) tq)
          have HOC := Bx.mk (natCells_one (tos xs' tq xs'.length))
          have HTE := Bx.mk (show (tos xs' tq xs'.length).length = (tos xs' tq l).length by rw [hl])
          have HTA := Bx.mk (fun q h => tos_at xs' tq q h)
          have HTN := Bx.mk (fun q h => tos_not xs' tq q h)
          have htl : (tos xs' tq xs'.length).length ≤ l := by rw [← hl]; exact tos_le _ _ _ (Nat.le_refl _)
          generalize hT0 : tos xs' tq xs'.length = T at *
          have HT0 := Bx.mk hT0
          generalize htt : T.length = t at *
          clear hl hT0
          have HTT := Bx.mk htt
          clear htt
          go_wp2_with (go_at_call 24; (with_reducible refine (HTO.out).mono ?_); rintro e wT ⟨vT, rfl, hoT, hNT⟩; obtain ⟨AT, cT, rfl, _, _, hrT, _⟩ := own_rd hoT; have cx := hNT.cell hcx (fun q => q); dsimp only)
          refine wp_loopM [none, none, none, none, some 4, none, none, none, none, none, none, none, none, none, none, none, none, none, none, none, none, none, none, none, none, none, none, none, none, none, none, some 31, some 32, some 33, some 34, some 35, none, none, none, none, none, none, none, none, none, none, none, none, none, none, none, none, none, none, none, none, none, none, none, none, none, none, none, none, none, none, none, none, none, none, none, none, none, none, none, none, none, none, none, none, none, none, none, none, none, none, none, none, none, none, none, none, none, none, none, none, none, none, none, none, none, none, none, none, none, none, none, none, none, none, none, none, none, none, none, none, none, none, none, none, none, none, none, none, none, none, none, none, none, none, none, none, none, none, none, none, none, none, none, none, none, none, none, none, none, none, none, none, none, none, none, none, none, none, none, none, none, none, none, none, none, none, none, none, none, none, none, none, none, none, none, none, none, none, none, none, none, none, none, none, none, none, none, none, none, none, none, none, none, none, none, none, none, none, none, none, none, none, none, none, none, none, none, none, none, none, none, none, none, none, none, none, none, none, none, none, none, none, none, none, none, none, none, none, none, none, none, none, none, none, none, none, none, none, none, none, none, none, none, none, none, none, none, none, none, none, none, none, none, none, none, none, none, none, none, none, none, none, none, none, none, none, none, none, none, none, none, none, none, none, none, none, none, none, none, none, none, none, none, none, none, none, none, some 283, some 284, some 285, some 286, some 287, some 288, some 289, some 290, some 291, some 292, some 293, some 294, some 295, some 296, some 297, some 298, some 299, some 300, some 301, some 302, some 303, some 304, some 305, some 306, some 307, some 308, some 309, some 310, some 311, some 312, some 313, some 314, some 315, some 316, some 317, some 318, some 319, some 320, some 321, some 322, none, none, none, none, none, none, none, none, none, none, none, none, none, none, none] (fun fs wr d => (fun u31 u283 wr d => ∃ q : Nat, q ≤ l ∧ u283 = .int .i64 q ∧ u31 = .int .i64 ((tos xs' tq q).length : Int) ∧ New wT wr ∧ d = l - q) (fs 31) (fs 283) wr d) (by kernel_rfl) ?atStart ?round
          case' atStart => simp only [slotsOf, List.getD_cons_succ, List.getD_cons_zero]
          case' round => (intro dM_ J_ K_ fs wr hrel hJ_ hK_; simp only [Mix]; generalize fs 31 = u31 at hrel ⊢; generalize fs 283 = u283 at hrel ⊢; try dsimp only at hrel)
          case atStart => exact ⟨_, 0, Nat.zero_le _, rfl, rfl, Upd.refl _ _, rfl⟩
          case round =>
            obtain ⟨q, hq, rfl, rfl, hNq, rfl⟩ := hrel
            have hNcq := hNT.trans hNq
            by_cases hql : q < l
            · have hqi : (q : Int) < (l : Int) := by omega
              obtain ⟨x, y, hxx, hyy, hto', hfr', hfl⟩ := HA2.out.at_ q (by rw [HXL.out]; exact hql)
              obtain ⟨gl, c', hvv, -, -, -, m0, m1, hyin⟩ := (hT2.ref.new hNcq).item q (by rw [HYL.out]; exact hql)
              cases hvv
              have hyq : ys'[q]'(by rw [HYL.out]; exact hql) = y := by rw [List.getElem?_eq_getElem (by rw [HYL.out]; exact hql)] at hyy; exact Option.some.inj hyy
              rw [hyq] at m0 m1 hyin
              obtain ⟨Ay, cy, hyv, -, -, hry, -⟩ := In.slice hyin
              rw [hyv] at m1
              have hxq : xs'[q]'(by rw [HXL.out]; exact hql) = x := by rw [List.getElem?_eq_getElem (by rw [HXL.out]; exact hql)] at hxx; exact Option.some.inj hxx
              have hnB : New wr (wr.alloc (.cells #[.int .i64 y.to, .slice Ay y.fr.length cy] 36)) := (Upd.refl _ _).alloc _
              have hb33 := box_new wr (.int .i64 y.to) (.slice Ay y.fr.length cy)
              have HP := Bx.mk (Peek_ok ((hT2.held.bag.new hNcq).new hnB) q (by rw [HXL.out]; exact hql) (by rw [HXL.out]; omega) x hxx (by omega))
              have HS1 := hNcq.cell s1 (fun q => q)
              have HFR := Bx.mk hfr'
              have HNB := Bx.mk hnB
              have HRY := Bx.mk (hry.new hnB)
              have hxlt : q < xs'.length := by rw [HXL.out]; exact hql
              rw [hto'] at HP
              have HXT := Bx.mk (show (xs'[q]'hxlt).to = y.to by rw [hxq, hto'])
              clear hto' hfr' hxq hyq hyy hxx hyv hyin
              generalize y.to = tv at *
              by_cases hto : tv = tq
              · obtain ⟨ha1, ha2, ha3⟩ := HTA.out q hxlt (HXT.out.trans hto)
                have hkT : ((tos xs' tq q).length : Int) < (t : Int) := by omega
                obtain ⟨bT, oT, rfl, hcT⟩ : ∃ b off, AT = some ⟨b, off, none⟩ ∧ wT.cell? ⟨b, off + (tos xs' tq q).length, none⟩ = some (.int .i64 q) := by
                  rcases hrT with h0 | ⟨b, off, hA, hcl⟩
                  · rw [h0] at ha3; cases ha3
                  · exact ⟨b, off, hA, hcl _ _ ha3⟩
                have HA1 := Bx.mk ha1
                have hKL : (tos xs' tq q).length ≤ q := tos_le _ _ _ (by omega)
                clear ha1 ha3 HTA HTN
                subst hto
                generalize (tos xs' tv q).length = kk at *
                repeat' (first | (first
                | (go_at_call 14; (with_reducible refine (HP.out).mono ?_); rintro e w4 ⟨v4, rfl, ho4, hu4⟩; obtain ⟨A4, c4, rfl, _, _, hr4, _⟩ := own_rd ho4; have hb4 := hu4.blk hb33 (fun q => q); have hal4 : New w4 (w4.alloc (.cells #[.int .i64 tv, .slice A4 x.fr.length c4] 36)) := (Upd.refl _ _).alloc _; have hb34 := box_new w4 (.int .i64 tv) (.slice A4 x.fr.length c4); have hb35 := hal4.blk hb4 (fun q => q); obtain ⟨p0, p1⟩ := out_cells hb34; obtain ⟨p2, p3⟩ := out_cells hb35; have hs1 := hal4.cell (hu4.cell (HNB.out.cell HS1 (fun q => q)) (fun q => q)) (fun q => q); have hNN := ((hNcq.trans HNB.out).trans hu4).trans hal4; dsimp only)
                | (go_at_call 20; (with_reducible refine (same_yes _ tv tv A4 Ay _ _ c4 cy x.fr y.fr rfl rfl (hr4.new hal4) ((HRY.out.new hu4).new hal4) rfl HFR.out).mono ?_); rintro e w5 ⟨rfl, hu5⟩; have p4 := hu5.cell p2 (fun q => q); have p5 := hu5.cell hs1 (fun q => q); have p6 := hu5.cell (hal4.cell (hu4.cell (HNB.out.cell (hNq.cell hcT (fun q => q)) (fun q => q)) (fun q => q)) (fun q => q)) (fun q => q); dsimp only)) | go_values | go_skip | go_guarded | go_step | go_upon | go_back)
                first | refine met_loop (by assumption) (by kernel_rfl) (by kernel_rfl) ?rel | refine met_cut (by assumption) (by kernel_rfl) (by kernel_rfl) ?rel
                case' rel => simp only [slotsOf, List.getD_cons_succ, List.getD_cons_zero]
                case rel => exact ⟨_, ⟨q + 1, by omega, by go_num, by rw [HA1.out]; go_num, ((hNq.trans HNB.out).trans hu4).trans (hal4.trans hu5), rfl⟩, by omega⟩
              · have ha1 := HTN.out q hxlt (by rw [HXT.out]; exact hto)
                have HA1 := Bx.mk ha1
                clear ha1 HTA HTN
                repeat' (first | (first
                | (go_at_call 14; (with_reducible refine (HP.out).mono ?_); rintro e w4 ⟨v4, rfl, ho4, hu4⟩; obtain ⟨A4, c4, rfl, _, _, hr4, _⟩ := own_rd ho4; have hb4 := hu4.blk hb33 (fun q => q); have hal4 : New w4 (w4.alloc (.cells #[.int .i64 tv, .slice A4 x.fr.length c4] 36)) := (Upd.refl _ _).alloc _; have hb34 := box_new w4 (.int .i64 tv) (.slice A4 x.fr.length c4); have hb35 := hal4.blk hb4 (fun q => q); obtain ⟨p0, p1⟩ := out_cells hb34; obtain ⟨p2, p3⟩ := out_cells hb35; have hs1 := hal4.cell (hu4.cell (HNB.out.cell HS1 (fun q => q)) (fun q => q)) (fun q => q); have hNN := ((hNcq.trans HNB.out).trans hu4).trans hal4; dsimp only)
                | (go_at_call 20; (with_reducible refine (same_yes _ tv tv A4 Ay _ _ c4 cy x.fr y.fr rfl rfl (hr4.new hal4) ((HRY.out.new hu4).new hal4) rfl HFR.out).mono ?_); rintro e w5 ⟨rfl, hu5⟩; have p4 := hu5.cell p2 (fun q => q); have p5 := hu5.cell hs1 (fun q => q); dsimp only)) | go_values | go_skip | go_guarded | go_step | go_upon | go_back)
                first | refine met_loop (by assumption) (by kernel_rfl) (by kernel_rfl) ?rel | refine met_cut (by assumption) (by kernel_rfl) (by kernel_rfl) ?rel
                case' rel => simp only [slotsOf, List.getD_cons_succ, List.getD_cons_zero]
                case rel => exact ⟨_, ⟨q + 1, by omega, by go_num, by rw [HA1.out], ((hNq.trans HNB.out).trans hu4).trans (hal4.trans hu5), rfl⟩, by omega⟩
            · obtain rfl : q = l := by omega
              rw [← HTE.out]
              have hcr : ∀ z : After wr, z.to.cell? ⟨w2.heap.size, 1, none⟩ = some (.slice Ar q cr) := fun z => z.h.cell (hNq.cell cx (fun q => q)) (fun q => q)
              have hLN : ∀ z : After wr, Calls Tryd.prog 13 #[.pointer (some ⟨w1.heap.size, 0, none⟩)] z.to fun e w' => e = .returned (.int .i64 (q : Int)) ∧ w' = z.to := fun z => (BagLen_e (((hT2.held.bag.new hNcq).new z.h)) q HXL.out _ rfl).mono fun e w' ⟨h1, h2⟩ => ⟨h1, h2.symm⟩
              go_wp2
              (refine wp_region_calm (by kernel_rfl) (by kernel_rfl) ?_; (repeat (go_big_quiet_step ((go_at_call 13; refine Calls.calm_same (hLN _))))); refine wpQuiet_nil ?_; intro wq hq)
              go_wp2
              first | refine met_loop (by assumption) (by kernel_rfl) (by kernel_rfl) ?rel | refine met_cut (by assumption) (by kernel_rfl) (by kernel_rfl) ?rel
              case' rel => simp only [slotsOf, List.getD_cons_succ, List.getD_cons_zero]
              case rel => exact ⟨_, ⟨j + 1, _, _, xs', ys', by omega, by go_num, hT2.next (hNcq.trans hq), HA2, rfl⟩, by omega⟩
    · obtain rfl : j = n := by omega
      go_wp2
      go_ret
      exact ⟨rfl, hu1.trans hT.new⟩
end Go.Proofs.YtefnpkmbjabcmaaDoor
