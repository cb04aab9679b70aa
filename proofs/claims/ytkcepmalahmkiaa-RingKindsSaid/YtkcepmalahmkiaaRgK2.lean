/- RingKinds: walked. -/
import Derived.Test.YtkcepmalahmkiaaRgK
namespace Go.Proofs.Ytkcepmalahmkiaa
open Go.RowKit
set_option maxRecDepth 100000 in
set_option maxHeartbeats 8000000 in
theorem RingKinds_any (A : Option Addr) (n c : Nat) (ts : List Nat) (B : Option Addr) (m cb : Nat) (ps : List (Int × Bool)) (w : World) (hl : ts.length = n) (hn : n ≤ 9223372036854775807) (hx : Rd w A (k32s ts)) (ht : ∀ t ∈ ts, t < 4294967296) (hlb : ps.length = m) (hm : m ≤ cb) (hy : Rd w B (prs ps)) :
    Calls Try.prog 3 #[.slice A n c, .slice B m cb] w fun e w' => e = .returned (.bool true) ∧ New w w' := by
  have HL := Bx.mk hl
  have HT := Bx.mk ht
  have HX := Bx.mk hx
  have HLB := Bx.mk hlb
  have HY := Bx.mk hy
  clear hl ht hx hlb hy
  go_enter Try.func3, Try.ntmps3
  go_wp2_with (first
    | (go_at_call 7; go_loud ((with_reducible refine (awake_any _).mono ?_); rintro e w1 ⟨rfl, N1⟩; dsimp only))
    | (go_at_call 8; go_loud ((with_reducible refine (PAt.of_new 64 64 rfl _ (by omega) (by omega)).mono ?_); rintro e w2 ⟨rfl, N2, hP2⟩; dsimp only))
    | (go_at_call 9; go_loud ((with_reducible refine (SAt.of_new 64 64 rfl _ (by omega) (by omega)).mono ?_); rintro e w3 ⟨rfl, N3, hS3⟩; dsimp only)))
  have hP3 := hP2.next N3
  go_loopw [35] (fun i wr => ∃ (j : Nat) (xs : List (Rit (Int × Bool))) (ys : List (Rit (Option Addr × Nat × Nat))), j ≤ n ∧ i = .int .i64 j ∧ Bx (PAt w1 wr w1.heap.size 64 xs) ∧ Bx (SAt w2 wr w2.heap.size 64 ys) ∧ Bx (xs.map (·.tick) = ys.map (·.tick)) ∧ New w wr) (fun i _ => n - (intOf i).toNat)
  case atStart => exact ⟨0, [], [], Nat.zero_le _, rfl, ⟨hP3⟩, ⟨hS3⟩, ⟨rfl⟩, (N1.trans N2).trans N3⟩
  case round =>
    obtain ⟨j, xs, ys, hj, rfl, hP, hS, hE, hN⟩ := hrel
    by_cases hlt : j < n
    · obtain ⟨b, off, rfl, hc⟩ := k32_at (HX.out.new hN) j (by rw [HL.out]; exact hlt)
      have htt := HT.out _ (List.getElem_mem (show j < ts.length by rw [HL.out]; exact hlt))
      generalize ts[j]'(by rw [HL.out]; exact hlt) = t at *
      by_cases hm1 : m ≤ j
      · have hmi : (m : Int) ≤ (j : Int) := by omega
        repeat' (first | fail | go_values | go_skip | go_guarded | go_step | go_upon | go_back)
        go_ret
        exact ⟨rfl, hN⟩
      · by_cases h60 : 60 ≤ j
        · have hmi : ¬ (m : Int) ≤ (j : Int) := by omega
          have h6i : (60 : Int) ≤ (j : Int) := by omega
          repeat' (first | fail | go_values | go_skip | go_guarded | go_step | go_upon | go_back)
          go_ret
          exact ⟨rfl, hN⟩
        · have hmi : ¬ (m : Int) ≤ (j : Int) := by omega
          have h6i : ¬ (60 : Int) ≤ (j : Int) := by omega
          have hjm : (j : Int) < (m : Int) := by omega
          obtain ⟨b2, off2, rfl, hw1, hw2⟩ := HY.out.pr j (by rw [HLB.out]; omega)
          generalize ps[j]'(by rw [HLB.out]; omega) = p at *
          obtain ⟨pa, pb⟩ := p
          dsimp only at hw1 hw2
          have hd1 := hN.cell hw1 (fun q => q)
          have hd2 := hN.cell hw2 (fun q => q)
          have HW := Bx.mk (fun w' (k : New w w') => And.intro (k.cell hw1 (fun q => q)) (k.cell hw2 (fun q => q)))
          clear hw1 hw2
          repeat' (first | fail | go_values | go_skip | go_guarded | go_step | go_upon | go_back)
          have hPd := Bx.mk (hP.out.next (Upd.refl Nowhere wr).drew)
          have hSd := Bx.mk (hS.out.next (Upd.refl Nowhere wr).drew)
          have hNd : New w wr.drew := hN.drew
          have s1 : wr.drew.cell? ⟨b2, off2 + j * 2, none⟩ = some (.int .i32 pa) ∧ wr.drew.cell? ⟨b2, off2 + j * 2 + 1, none⟩ = some (.bool pb) := ⟨hd1, hd2⟩
          have hjcb : (j : Int) + 1 ≤ (cb : Int) := by omega
          have hj01 : (0 : Int) ≤ (j : Int) + 1 := by omega
          have hjw : IntKind.i64.wrap ((j : Int) + 1) = (j : Int) + 1 := by rw [IntKind.wrap_i64]; omega
          obtain ⟨hold1, hold2⟩ := And.intro (World.block_lt_of_cell? _ _ hd1) (World.block_lt_of_cell? _ _ hd2)
          go_region_held3 (fun w' => w'.cell? ⟨b2, off2 + j * 2, none⟩ = some (.int .i32 pa) ∧ w'.cell? ⟨b2, off2 + j * 2 + 1, none⟩ = some (.bool pb)) (first | exact s1 | exact s2 | exact s3)
            (first
              | (have _m := hP4; (go_at_call 11; go_loud ((with_reducible refine (hS4.out.put t t rfl (some ⟨b2, off2, none⟩, j + 1, cb) htt).mono ?_); rintro e w5 ⟨rfl, hS5, hU5⟩; dsimp only)); have N5 := SBlk.new hU5 N4 (Nat.le_trans N1.size N2.size); have hP5 := Bx.mk (SBlk_P hP4 hU5); have s3 := HW.out _ N5)
              | ((go_at_call 10; go_loud ((with_reducible refine (hPd.out.put t t rfl (pa, pb) htt).mono ?_); rintro e w4 ⟨rfl, hP4, hU4⟩; dsimp only)); have N4 := PBlk.new hU4 hNd N1.size; have hS4 := Bx.mk (PBlk_S hSd.out hU4); have s2 := HW.out _ N4))
          all_goals
            have hTk := putL_ticks (most := 64) (t := t) (v := ((pa, pb) : Int × Bool)) (u := ((some ⟨b2, off2, none⟩, j + 1, cb) : Option Addr × Nat × Nat)) hE.out
            have hRX := hP5.out.rising
            have hRY := hS5.rising
            have HS5 := Bx.mk hS5
            have BE := Bx.mk hTk.1
            rw [← hTk.2.1]
            have BST := Bx.mk hTk.2.2
            clear hTk hP4 hS4 hP2 hP3 hS3 hS5 hU5 hU4 hd1 hd2 s1 s2
            by_cases hst : stale xs t = true
            · rw [show putE xs t = 12 from if_pos hst]
              clear hst
              repeat' (first | fail | go_values | go_skip | go_guarded | go_step | go_upon | go_back)
              go_roundw
              case rel => exact ⟨j + 1, _, _, by omega, by go_num, hP5, HS5, BE, N5⟩
              case measure => simp [intOf]; omega
            · rw [show putE xs t = 0 from if_neg hst]
              have hst' : stale xs t = false := by simpa using hst
              have FX := Bx.mk (found_put hRX hst')
              have FY := Bx.mk (found_put hRY (BST.out ▸ hst'))
              clear hst hst' hRX hRY
              repeat' (first | (first
                | (have _m := N6; (go_at_call 13; go_loud ((with_reducible refine ((HS5.out.next hN6p).get t).mono ?_); rintro e w7 ⟨rfl, hN7⟩; rw [FY.out]; rw [show valS (some ((some ⟨b2, off2, none⟩, j + 1, cb) : Option Addr × Nat × Nat)) = .slice (some ⟨b2, off2, none⟩) (j + 1) cb from rfl, show (some ((some ⟨b2, off2, none⟩, j + 1, cb) : Option Addr × Nat × Nat)).isSome = true from rfl]; have N7 := N6.trans hN7; have s7 := HW.out _ N7; have m7 := hN7.blk m6 (fun q => q); dsimp only)))
                | (go_at_call 12; go_loud ((with_reducible refine (hP5.out.get t).mono ?_); rintro e w6 ⟨rfl, hN6⟩; rw [FX.out]; rw [show valP (some ((pa, pb) : Int × Bool)) = .agg #[.int .i32 pa, .bool pb] from rfl, show (some ((pa, pb) : Int × Bool)).isSome = true from rfl]; (obtain ⟨hz, m6⟩ := new_pair w6 pa pb); have hN6p := hN6.trans hz; have N6 := N5.trans hN6p; dsimp only))) | go_values | go_skip | go_guarded | go_step | go_upon | go_back)
              obtain ⟨c70, c71, _, _⟩ := pair_cells m7
              obtain ⟨c72, c73⟩ := s7
              have hjj : (j : Int) < (j : Int) + 1 := by omega
              have hjj2 : (j : Int) < ((j + 1 : Nat) : Int) := by omega
              have hce := fun w => pair_neq w pa pb
              have P7 := Bx.mk ((hP5.out.next hN6p).next hN7)
              have S7 := Bx.mk ((HS5.out.next hN6p).next hN7)
              clear hN7 hN6 hz hN6p m6 m7 N6 hPd hSd hNd hN hP hS hE hold1 hold2 N4 HW HX HY FX FY BST hc htt
              go_quiet (fail)
              go_wp2
              go_roundw
              case rel => exact ⟨j + 1, _, _, by omega, by go_num, ⟨P7.out.next ((Upd.refl Nowhere w7).drewN _)⟩, ⟨S7.out.next ((Upd.refl Nowhere w7).drewN _)⟩, BE, N7.drewN _⟩
              case measure => simp [intOf]; omega
    · obtain rfl : j = n := by omega
      repeat' (first | fail | go_values | go_skip | go_guarded | go_step | go_upon | go_back)
      go_ret
      exact ⟨rfl, hN⟩
end Go.Proofs.Ytkcepmalahmkiaa
