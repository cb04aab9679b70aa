/- RingPlays: walked. -/
import Derived.Test.YtkcepmalahmkiaaRgPl
namespace Go.Proofs.Ytkcepmalahmkiaa
open Go.RowKit
set_option maxRecDepth 100000 in
set_option maxHeartbeats 16000000 in
theorem RingPlays_ok (m : Nat) (h1 : 1 ≤ m) (h2 : m ≤ 64) (A : Option Addr) (n c : Nat) (os : List ROp) (w : World) (hl : os.length = n) (hn : n ≤ 9223372036854775807) (hx : Rd w A (os.flatMap opc)) (hd : ∀ o ∈ os, o.d < 256 ∧ o.t < 4294967296) :
    Calls Try.prog 6 #[.int .i64 m, .slice A n c] w fun e w' => e = .returned (.bool true) ∧ New w w' := by
  have HL := Bx.mk hl
  have HX := Bx.mk hx
  have HD := Bx.mk hd
  clear hl hx hd
  go_enter Try.func6, Try.ntmps6
  go_wp2_with (first
    | (go_at_call 7; (with_reducible refine (awake_any _).mono ?_); rintro e w1 ⟨rfl, N1⟩; dsimp only)
    | (go_at_call 23; (with_reducible refine (LAt.of_new (m : Int) m rfl _ h1 h2).mono ?_); rintro e w2 ⟨rfl, N2, hL2⟩; dsimp only)
    | (go_at_call 24; (with_reducible refine (RfAt.of_new m _ h1 h2).mono ?_); rintro e w3 ⟨rfl, N3, hR3⟩; dsimp only))
  have hL3 := hL2.next N3
  have N03 := (N1.trans N2).trans N3
  have HS1 := Bx.mk N1.size
  have HS2 := Bx.mk (N1.trans N2).size
  go_loopw [39] (fun i wr => ∃ (j : Nat) (xs : List (Rit Int)), j ≤ n ∧ i = .int .i64 j ∧ Bx (LAt w1 wr w1.heap.size m xs) ∧ Bx (RfAt w2 wr w2.heap.size m xs) ∧ New w wr) (fun i _ => n - (intOf i).toNat)
  case atStart => exact ⟨0, [], Nat.zero_le _, rfl, ⟨hL3⟩, ⟨hR3⟩, N03⟩
  case round =>
    clear hL2 hL3 hR3 N03 N2 N3
    obtain ⟨j, xs, hj, rfl, hL, hR, hN⟩ := hrel
    by_cases hlt : j < n
    · have hjx : j < os.length := by rw [HL.out]; exact hlt
      obtain ⟨b, off, rfl, c0, c1, c2⟩ := op_at (HX.out.new hN) j hjx
      have hdd := HD.out _ (List.getElem_mem hjx)
      generalize os[j] = o at *
      obtain ⟨d, t, v⟩ := o
      dsimp only at c0 c1 c2 hdd
      obtain ⟨hd256, ht⟩ := hdd
      have hji : (j : Int) < (n : Int) := by omega
      by_cases h120 : 120 ≤ j
      · have h120i : (120 : Int) ≤ (j : Int) := by omega
        go_wp2
        go_ret
        exact ⟨rfl, hN.alloc _⟩
      · have h120i : ¬ (120 : Int) ≤ (j : Int) := by omega
        obtain ⟨hz, hbx⟩ := op_box wr d t v
        have L4 := Bx.mk (hL.out.next hz)
        have R4 := Bx.mk (hR.out.next hz)
        have N4 := hN.trans hz
        have HBX := Bx.mk hbx
        clear hbx hz
        go_upto_block 2 with (fail)
        generalize wr.alloc (.cells #[.int .u8 d, .int .u32 t, .int .i64 v] 68) = wB at *
        generalize wr.heap.size = bx at *
        clear c0 c1 c2 hL hR hN
        go_cut [] (fun wx => ∃ (ys : List (Rit Int)), Bx (LAt w1 wx w1.heap.size m ys) ∧ Bx (RfAt w2 wx w2.heap.size m ys) ∧ New w wx)
        case first =>
          obtain ⟨b0, b1, b2⟩ := op_cells HBX.out
          have hd5 : d = 0 ∨ d = 1 ∨ d = 2 ∨ d = 3 ∨ d = 4 ∨ 4 < d := by omega
          rcases hd5 with rfl | rfl | rfl | rfl | rfl | hd5
          iterate 2
            · repeat' (first | fail | go_values | go_skip | go_guarded | go_step | go_upon | go_back)
              have L4d := Bx.mk (L4.out.next (Upd.refl Nowhere wB).drew)
              have R4d := Bx.mk (R4.out.next (Upd.refl Nowhere wB).drew)
              have N4d : New w wB.drew := N4.drew
              have hbd : wB.drew.heap[bx]? = _ := HBX.out
              have s1 : wB.drew.cell? ⟨bx, 1, none⟩ = some (.int .u32 t) ∧ wB.drew.cell? ⟨bx, 2, none⟩ = some (.int .i64 v) := ⟨b1, b2⟩
              obtain ⟨E, hE⟩ : ∃ E, putE xs t = E := ⟨_, rfl⟩
              have HE := Bx.mk hE
              clear hE
              go_region_held3 (fun w' => w'.cell? ⟨bx, 1, none⟩ = some (.int .u32 t) ∧ w'.cell? ⟨bx, 2, none⟩ = some (.int .i64 v)) (first | exact s1 | exact s2 | exact s3)
                (first
                  | ((go_at_call 25; (with_reducible refine (L4d.out.put t t rfl v ht).mono ?_); rintro e w5 ⟨rfl, hL5, hU5⟩; rw [HE.out]; dsimp only); have N5 := LBlk.new hU5 N4d HS1.out; have R5 := Bx.mk (LBlk_Rf R4d.out hU5); have hb5 := LBlk_op hbd hU5; have s2 := (op_cells hb5).2)
                  | ((go_at_call 26; (with_reducible refine (R5.out.put t v ht).mono ?_); rintro e w6 ⟨rfl, hR6, hU6⟩; rw [HE.out]; dsimp only); have N6 := RfBlk.new hU6 N5 HS2.out; have L6 := Bx.mk (RfBlk_L hL5 hU6); have hb6 := RfBlk_op hb5 hU6; have s3 := (op_cells hb6).2))
              all_goals
                go_wp2
                go_meet
                case rel => exact ⟨_, L6, ⟨hR6⟩, N6⟩
          · obtain ⟨F, hF⟩ : ∃ F, found xs t = F := ⟨_, rfl⟩
            have HF := Bx.mk hF
            clear hF
            cases F with
            | none =>
              repeat' (first | (first
                | (go_at_call 27; (with_reducible refine (L4.out.get t).mono ?_); rintro e w5 ⟨rfl, hN5⟩; rw [HF.out]; rw [show valL none = .int .i64 0 from rfl, show (none : Option Int).isSome = false from rfl]; have N5 := N4.trans hN5; have L5 := Bx.mk (L4.out.next hN5); have R5 := Bx.mk (R4.out.next hN5); have d1 := hN5.cell b1 (fun q => q); dsimp only)
                | (go_at_call 28; (with_reducible refine (R5.out.get t).mono ?_); rintro e w6 ⟨rfl, hN6⟩; rw [HF.out]; rw [show (none : Option Int).getD 0 = 0 from rfl, show (none : Option Int).isSome = false from rfl]; have N6 := N5.trans hN6; dsimp only)) | go_values | go_skip | go_guarded | go_step | go_upon | go_back)
              go_meet
              case rel => exact ⟨_, ⟨L5.out.next hN6⟩, ⟨R5.out.next hN6⟩, N6⟩
            | some x =>
              repeat' (first | (first
                | (go_at_call 27; (with_reducible refine (L4.out.get t).mono ?_); rintro e w5 ⟨rfl, hN5⟩; rw [HF.out]; rw [show valL (some x) = .int .i64 x from rfl, show (some x).isSome = true from rfl]; have N5 := N4.trans hN5; have L5 := Bx.mk (L4.out.next hN5); have R5 := Bx.mk (R4.out.next hN5); have d1 := hN5.cell b1 (fun q => q); dsimp only)
                | (go_at_call 28; (with_reducible refine (R5.out.get t).mono ?_); rintro e w6 ⟨rfl, hN6⟩; rw [HF.out]; rw [show (some x).getD 0 = x from rfl, show (some x).isSome = true from rfl]; have N6 := N5.trans hN6; dsimp only)) | go_values | go_skip | go_guarded | go_step | go_upon | go_back)
              go_meet
              case rel => exact ⟨_, ⟨L5.out.next hN6⟩, ⟨R5.out.next hN6⟩, N6⟩
          · repeat' (first | fail | go_values | go_skip | go_guarded | go_step | go_upon | go_back)
            have L4d := Bx.mk (L4.out.next (Upd.refl Nowhere wB).drew)
            have R4d := Bx.mk (R4.out.next (Upd.refl Nowhere wB).drew)
            have N4d : New w wB.drew := N4.drew
            have hbd : wB.drew.heap[bx]? = _ := HBX.out
            have s1 : wB.drew.cell? ⟨bx, 1, none⟩ = some (.int .u32 t) := b1
            obtain ⟨E, hE⟩ : ∃ E, lb xs t = E := ⟨_, rfl⟩
            have HE := Bx.mk hE
            clear hE
            go_region_held3 (fun w' => w'.cell? ⟨bx, 1, none⟩ = some (.int .u32 t)) (first | exact s1 | exact s2 | exact s3)
              (first
                | ((go_at_call 29; (with_reducible refine (L4d.out.cut t t rfl).mono ?_); rintro e w5 ⟨rfl, hL5, hU5⟩; rw [HE.out]; dsimp only); have N5 := LBlk.new hU5 N4d HS1.out; have R5 := Bx.mk (LBlk_Rf R4d.out hU5); have hb5 := LBlk_op hbd hU5; have s2 := (op_cells hb5).2.1)
                | ((go_at_call 30; (with_reducible refine (R5.out.cut t).mono ?_); rintro e w6 ⟨rfl, hR6, hU6⟩; rw [HE.out]; dsimp only); have N6 := RfBlk.new hU6 N5 HS2.out; have L6 := Bx.mk (RfBlk_L hL5 hU6); have hb6 := RfBlk_op hb5 hU6; have s3 := (op_cells hb6).2.1))
            all_goals
              go_wp2
              go_meet
              case rel => exact ⟨_, L6, ⟨hR6⟩, N6⟩
          · repeat' (first | (go_at_call 31; (with_reducible refine (L4.out.clear).mono ?_); rintro e w5 ⟨rfl, hL5, hU5⟩; have N5 := LBlk.new hU5 N4 HS1.out; have R5 := Bx.mk (LBlk_Rf R4.out hU5); (obtain ⟨A9, c9, hg9, _⟩ := R5.out.blk); (obtain ⟨_, q1, q2⟩ := ring_cell hg9); dsimp only) | go_values | go_skip | go_guarded | go_step | go_upon | go_back)
            obtain ⟨hR6, hU6⟩ := R5.out.clear
            go_meet
            case rel => exact ⟨_, ⟨RfBlk_L hL5 hU6⟩, ⟨hR6⟩, RfBlk.new hU6 N5 HS2.out⟩
          · have g0 : ¬ (d : Int) = 0 := by omega
            have g1 : ¬ (d : Int) = 1 := by omega
            have g2 : ¬ (d : Int) = 2 := by omega
            have g3 : ¬ (d : Int) = 3 := by omega
            have g4 : ¬ (d : Int) = 4 := by omega
            repeat' (first | fail | go_values | go_skip | go_guarded | go_step | go_upon | go_back)
            go_meet
            case rel => exact ⟨_, L4, R4, N4⟩
        case rest =>
          obtain ⟨ys, hL, hR, hN⟩ := hcut
          go_wp2_with (go_at_call 32; (with_reducible refine (same_any hL.out hR.out).mono ?_); rintro e w7 ⟨rfl, hN7⟩; dsimp only)
          go_roundw
          case rel => exact ⟨j + 1, ys, by omega, by go_num, ⟨hL.out.next hN7⟩, ⟨hR.out.next hN7⟩, hN.trans hN7⟩
          case measure => simp [intOf]; omega
    · obtain rfl : j = n := by omega
      repeat' (first | fail | go_values | go_skip | go_guarded | go_step | go_upon | go_back)
      go_ret
      exact ⟨rfl, hN⟩
set_option maxRecDepth 100000 in
set_option maxHeartbeats 16000000 in
theorem RingPlays_nil (m : Int) (h0 : m < 1 ∨ m > 64) (hm1 : -9223372036854775808 ≤ m) (hm2 : m ≤ 9223372036854775807) (A : Option Addr) (n c : Nat) (os : List ROp) (w : World) (hl : os.length = n) (hn : n ≤ 9223372036854775807) (hx : Rd w A (os.flatMap opc)) (hd : ∀ o ∈ os, o.d < 256 ∧ o.t < 4294967296) :
    Calls Try.prog 6 #[.int .i64 m, .slice A n c] w fun e w' => e = .returned (.bool true) ∧ New w w' := by
  have HL := Bx.mk hl
  have HX := Bx.mk hx
  have HD := Bx.mk hd
  have HN1 : ∀ w, Calls Try.prog 23 #[.int .i64 m] w fun e w' => e = .returned (.tuple #[.pointer none, .int .i64 1]) ∧ w' = w := fun w => by
    have := NewL_any m w hm1 hm2
    simpa only [if_pos h0] using this
  have B1 := Bx.mk HN1
  have B2 := Bx.mk (fun w => RfNil_New m w h0)
  clear hl hx hd HN1 h0 hm1 hm2
  go_enter Try.func6, Try.ntmps6
  repeat' (first | (first
    | (go_at_call 7; (with_reducible refine (awake_any _).mono ?_); rintro e w1 ⟨rfl, N1⟩; dsimp only)
    | (go_at_call 23; (with_reducible refine (B1.out _).mono ?_); rintro e w2 ⟨rfl, e2⟩; subst e2; dsimp only)
    | (go_at_call 24; (with_reducible refine (B2.out _).mono ?_); rintro e w3 ⟨rfl, e3⟩; subst e3; dsimp only)) | go_values | go_skip | go_guarded | go_step | go_upon | go_back)
  go_loopw [39] (fun i wr => ∃ (j : Nat), j ≤ n ∧ i = .int .i64 j ∧ New w wr) (fun i _ => n - (intOf i).toNat)
  case atStart => exact ⟨0, Nat.zero_le _, rfl, N1⟩
  case round =>
    obtain ⟨j, hj, rfl, hN⟩ := hrel
    by_cases hlt : j < n
    · have hjx : j < os.length := by rw [HL.out]; exact hlt
      obtain ⟨b, off, rfl, c0, c1, c2⟩ := op_at (HX.out.new hN) j hjx
      have hdd := HD.out _ (List.getElem_mem hjx)
      generalize os[j] = o at *
      obtain ⟨d, t, v⟩ := o
      dsimp only at c0 c1 c2 hdd
      obtain ⟨hd256, ht⟩ := hdd
      have hji : (j : Int) < (n : Int) := by omega
      by_cases h120 : 120 ≤ j
      · have h120i : (120 : Int) ≤ (j : Int) := by omega
        repeat' (first | fail | go_values | go_skip | go_guarded | go_step | go_upon | go_back)
        go_ret
        exact ⟨rfl, hN.alloc _⟩
      · have h120i : ¬ (120 : Int) ≤ (j : Int) := by omega
        obtain ⟨hz, hbx⟩ := op_box wr d t v
        have N4 := hN.trans hz
        have HBX := Bx.mk hbx
        clear hbx hz
        go_upto_block 2 with (fail)
        generalize wr.alloc (.cells #[.int .u8 d, .int .u32 t, .int .i64 v] 68) = wB at *
        generalize wr.heap.size = bx at *
        clear c0 c1 c2 hN
        go_cut [] (fun wx => New w wx)
        case first =>
          obtain ⟨b0, b1, b2⟩ := op_cells HBX.out
          have hd5 : d = 0 ∨ d = 1 ∨ d = 2 ∨ d = 3 ∨ d = 4 ∨ 4 < d := by omega
          rcases hd5 with rfl | rfl | rfl | rfl | rfl | hd5
          iterate 2
            · repeat' (first | fail | go_values | go_skip | go_guarded | go_step | go_upon | go_back)
              have N4d : New w wB.drew := N4.drew
              have hbd : wB.drew.heap[bx]? = _ := HBX.out
              have s1 : wB.drew.cell? ⟨bx, 1, none⟩ = some (.int .u32 t) ∧ wB.drew.cell? ⟨bx, 2, none⟩ = some (.int .i64 v) := ⟨b1, b2⟩
              go_region_held3 (fun w' => w'.cell? ⟨bx, 1, none⟩ = some (.int .u32 t) ∧ w'.cell? ⟨bx, 2, none⟩ = some (.int .i64 v)) (first | exact s1 | exact s2 | exact s3)
                (first
                  | ((go_at_call 25; (with_reducible refine (PutNilL _ t v).mono ?_); rintro e w5 ⟨rfl, hN5⟩; dsimp only); have N5 := N4d.trans hN5; have hb5 := hN5.blk hbd (fun q => q); have s2 := (op_cells hb5).2)
                  | ((go_at_call 26; (with_reducible refine (RefPutNil t v _).mono ?_); rintro e w6 ⟨rfl, hN6⟩; dsimp only); have N6 := N5.trans hN6; have hb6 := hN6.blk hb5 (fun q => q); have s3 := (op_cells hb6).2))
              all_goals
                go_wp2
                go_meet
                case rel => exact N6
          · repeat' (first | (first
                | (go_at_call 27; (with_reducible refine (GetNilL _ t).mono ?_); rintro e w5 ⟨rfl, hN5⟩; have N5 := N4.trans hN5; have d1 := hN5.cell b1 (fun q => q); dsimp only)
                | (go_at_call 28; (with_reducible refine (RefGetNil t _).mono ?_); rintro e w6 ⟨rfl, hN6⟩; have N6 := N5.trans hN6; dsimp only)) | go_values | go_skip | go_guarded | go_step | go_upon | go_back)
            go_meet
            case rel => exact N6
          · repeat' (first | fail | go_values | go_skip | go_guarded | go_step | go_upon | go_back)
            have N4d : New w wB.drew := N4.drew
            have s1 : wB.drew.cell? ⟨bx, 1, none⟩ = some (.int .u32 t) := b1
            go_region_held3 (fun w' => w'.cell? ⟨bx, 1, none⟩ = some (.int .u32 t)) (first | exact s1 | exact s3)
              (first
                | ((go_at_call 29; (with_reducible refine (CutNilL _ t).mono ?_); rintro e w5 ⟨rfl, e5⟩; dsimp only); subst e5)
                | ((go_at_call 30; (with_reducible refine (RefCutNil t _).mono ?_); rintro e w6 ⟨rfl, hN6⟩; dsimp only); have N6 := N4d.trans hN6; have s3 := hN6.cell s1 (fun q => q)))
            all_goals
              go_wp2
              go_meet
              case rel => exact N6
          · repeat' (first | (go_at_call 31; (with_reducible refine (ClearNilL _).mono ?_); rintro e w5 ⟨rfl, e5⟩; subst e5; dsimp only) | go_values | go_skip | go_guarded | go_step | go_upon | go_back)
            go_meet
            case rel => exact N4
          · have g0 : ¬ (d : Int) = 0 := by omega
            have g1 : ¬ (d : Int) = 1 := by omega
            have g2 : ¬ (d : Int) = 2 := by omega
            have g3 : ¬ (d : Int) = 3 := by omega
            have g4 : ¬ (d : Int) = 4 := by omega
            repeat' (first | fail | go_values | go_skip | go_guarded | go_step | go_upon | go_back)
            go_meet
            case rel => exact N4
        case rest =>
          go_wp2_with (go_at_call 32; (with_reducible refine (same_nil _).mono ?_); rintro e w7 ⟨rfl, hN7⟩; dsimp only)
          go_roundw
          case rel => exact ⟨j + 1, by omega, by go_num, hcut.trans hN7⟩
          case measure => simp [intOf]; omega
    · obtain rfl : j = n := by omega
      repeat' (first | fail | go_values | go_skip | go_guarded | go_step | go_upon | go_back)
      go_ret
      exact ⟨rfl, hN⟩
end Go.Proofs.Ytkcepmalahmkiaa
