/- Components as parts: step. -/
import Derived.Test.YtpfdbkfjjjiamaaCm3
namespace Go.Proofs.Ytpfdbkfjjjiamaa
open Go.RowKit

def stepP (k : Nat) (W F : List Int) (i : Nat) : List (Nat × Nat) := if dz W F i = 0 then [(0, 1)] else if dz W F i ≤ 16 then [(1, 1), (1, 1), (dz W F i - 1, 4)] else [(1, 1), (0, 1), fldP k F i]
def stepTo (k : Nat) (W F : List Int) (j : Nat) : List (Nat × Nat) := (List.range j).flatMap (stepP k W F)
theorem stepTo_succ (k : Nat) (W F : List Int) (j : Nat) : stepTo k W F (j + 1) = stepTo k W F j ++ stepP k W F j := by simp [stepTo, List.range_succ]
theorem stepP_le (k : Nat) (W F : List Int) (i : Nat) : (stepP k W F i).length ≤ 3 := by unfold stepP; split; simp; split <;> simp
theorem stepTo_le (k : Nat) (W F : List Int) (j : Nat) : (stepTo k W F j).length ≤ 3 * j := by
  induction j with
  | zero => simp [stepTo]
  | succ j ih => rw [stepTo_succ, List.length_append]; have := stepP_le k W F j; omega

set_option maxHeartbeats 4000000 in
theorem step_any (k : Nat) (a b c a' b' c' : Int) (w : World) (hk : k < 256) (hg : chk k [a, b, c] = 0) (hg' : chk k [a', b', c'] = 0) :
    Calls Try.prog 35 #[.agg #[.int .u8 k, .int .i32 a, .int .i32 b, .int .i32 c], .agg #[.int .u8 k, .int .i32 a', .int .i32 b', .int .i32 c']] w (RetRow 93 2 (stepTo k [a, b, c] [a', b', c'] (flds k).length).length (pcells (stepTo k [a, b, c] [a', b', c'] (flds k).length)) w) := by
  obtain ⟨g0, g1, -⟩ := chk_good k a b c hg
  obtain ⟨-, g1', -⟩ := chk_good k a' b' c' hg'
  have h3 := flds_len k
  have HF := Bx.mk (fun i x d w (hi : i < (flds k).length) hx => field_any k a' b' c' i x d w hk hi (g1' i hi).1 (g1' i hi).2 hx)
  have HM := Bx.mk (fun i w (hi : i < (flds k).length) => more_any k k a b c a' b' c' i w (by omega) (by have := g1 i hi; have := rng_bd k i hi; omega) (by have := g1 i hi; have := rng_bd k i hi; omega) (by have := g1' i hi; have := rng_bd k i hi; omega) (by have := g1' i hi; have := rng_bd k i hi; omega))
  have HDz := Bx.mk (fun i (hi : i < (flds k).length) => (show dz [a, b, c] [a', b', c'] i ≤ 4000001 by
    have := g1 i hi; have := g1' i hi; have := rng_bd k i hi; have e := dz_eq [a, b, c] [a', b', c'] i; unfold zig at e; split at e <;> omega))
  have HC := Bx.mk (fun w => Count_any k w hk)
  have HP := Bx.mk (fun i => (show stepP k [a, b, c] [a', b', c'] i = if dz [a, b, c] [a', b', c'] i = 0 then [(0, 1)] else if dz [a, b, c] [a', b', c'] i ≤ 16 then [(1, 1), (1, 1), (dz [a, b, c] [a', b', c'] i - 1, 4)] else [(1, 1), (0, 1), fldP k [a', b', c'] i] from rfl))
  have HT := Bx.mk (stepTo_succ k [a, b, c] [a', b', c'])
  have HLn := Bx.mk (stepTo_le k [a, b, c] [a', b', c'])
  generalize dz [a, b, c] [a', b', c'] = dd at *
  generalize stepP k [a, b, c] [a', b', c'] = sp at *
  generalize stepTo k [a, b, c] [a', b', c'] = st at *
  generalize (flds k).length = n at *
  clear g0 g1 g1' hg hg'
  have hB1 := rd_new w [.int .u8 k, .int .i32 a, .int .i32 b, .int .i32 c] 24
  have hNN : New (w.alloc (.cells #[.int .u8 k, .int .i32 a, .int .i32 b, .int .i32 c] 24)) ((w.alloc (.cells #[.int .u8 k, .int .i32 a, .int .i32 b, .int .i32 c] 24)).alloc (.cells #[.int .u8 k, .int .i32 a', .int .i32 b', .int .i32 c'] 24)) := (Upd.refl _ _).alloc _
  have HB2 := Bx.mk (hB1.new hNN)
  have hB3 := rd_new (w.alloc (.cells #[.int .u8 k, .int .i32 a, .int .i32 b, .int .i32 c] 24)) [.int .u8 k, .int .i32 a', .int .i32 b', .int .i32 c'] 24
  rw [show (w.alloc (.cells #[.int .u8 k, .int .i32 a, .int .i32 b, .int .i32 c] 24)).heap.size = w.heap.size + 1 by simp] at hB3
  have HB4 := Bx.mk hB3
  have hk0 := (four_cells hB3).1
  clear hB1 hB3
  go_enter Try.func35, Try.ntmps35
  repeat' (first | (go_at_call 40; (with_reducible refine (HC.out _).mono ?_); rintro e w1 ⟨rfl, hu1⟩; dsimp only) | go_values | go_skip | go_guarded | go_step | go_upon | go_back)
  have hN1 : New w w1 := (((Upd.refl _ w).alloc _).alloc _).trans hu1
  have HR1 := Bx.mk (HB2.out.new hu1)
  have HR2 := Bx.mk (HB4.out.new hu1)
  clear hk0 HB2 HB4 hNN
  go_loopw [5, 11] (fun s i wr => ∃ (j : Nat), j ≤ n ∧ i = .int .i64 j ∧ wr.ownsRow w1.heap.size 93 2 s (st j).length (pcells (st j)) ∧ New w1 wr) (fun _ i _ => n - (intOf i).toNat)
  case atStart => exact ⟨0, by omega, rfl, by have h0 := HLn.out 0; rw [List.eq_nil_of_length_eq_zero (show (st 0).length = 0 by omega)]; exact World.ownsRow_nil _ _ _ _, Upd.refl _ _⟩
  case round =>
    obtain ⟨j, hj, rfl, ho, hN⟩ := hrel
    by_cases hlt : j < n
    · obtain ⟨x, d, hxd⟩ : ∃ x d, fldP k [a', b', c'] j = (x, d) := ⟨_, _, rfl⟩
      obtain ⟨c0, c1, c2, c3⟩ := four_cells (HR1.out.new hN)
      have hr2 := HR2.out.new hN
      obtain ⟨d0, d1, d2, d3⟩ := four_cells hr2
      have BF := Bx.mk (fun w => HF.out j x d w hlt hxd)
      have BM := Bx.mk (fun w => HM.out j w hlt)
      have hz := HDz.out j hlt
      have hp := HP.out j
      have hls := HLn.out j
      rw [hxd] at hp
      obtain ⟨m, hlen⟩ : ∃ m, (st j).length = m := ⟨_, rfl⟩
      rw [hlen] at ho hls
      have BLm := Bx.mk hlen
      clear hlen
      generalize dd j = z at *
      clear hxd
      by_cases hz0 : z = 0
      · subst hz0
        rw [if_pos rfl] at hp
        have BT := Bx.mk (show st (j + 1) = st j ++ [(0, 1)] by rw [HT.out, hp])
        clear hp hz
        repeat' (first | (first
          | (go_at_call 52; (with_reducible refine (BM.out _).mono ?_); rintro e w2 ⟨rfl, hu2⟩; have hox := (own_new ho hu2).alloc (.cells #[.int .u64 0, .int .i64 1] 93); have hs := (Src.ofSlice (P := Try.prog) (size := 2) _ Try.underlying67 _ 1 1 _ rfl (cells_new w2 [.int .u64 0, .int .i64 1] 93) (by intro u hu; simp at hu; rcases hu with rfl | rfl <;> rfl)); have hN2 := hN.trans hu2; have hsz := hN2.size; dsimp only)
          | (at_builtin; refine wpList_appN _ rfl _ _ 67 67 rfl _ 93 (.agg #[.int .u64 0, .int .i64 0]) 2 16 Try.underlying67 infoP rfl _ _ _ hox rfl _ _ _ hs rfl _ (hN2.alloc _) ?c1 ?c2 ?_; (case c1 => unfold maxLen; omega); (case c2 => omega); intro v5 w5 ho5 hu5 hk5 hv5)) | go_values | go_skip | go_guarded | go_step | go_upon | go_back)
        go_roundw
        case rel => exact ⟨j + 1, by omega, by go_num, by rw [BT.out, pcells_append, List.length_append, BLm.out]; exact ho5, hu5⟩
        case measure => simp [intOf]; omega
      · by_cases hz16 : z ≤ 16
        · obtain ⟨y, rfl⟩ : ∃ y, z = y + 1 := ⟨z - 1, by omega⟩
          rw [if_neg hz0, if_pos hz16] at hp
          have BT := Bx.mk (show st (j + 1) = st j ++ [(1, 1), (1, 1), (y, 4)] by rw [HT.out, hp]; rfl)
          have hzi : (y : Int) + 1 ≤ 16 := by omega
          clear hp hz hz0
          repeat' (first | (first
            | (go_at_call 52; (with_reducible refine (BM.out _).mono ?_); rintro e w2 ⟨rfl, hu2⟩; have hox := (own_new ho hu2).alloc (.cells #[.int .u64 1, .int .i64 1, .int .u64 1, .int .i64 1, .int .u64 y, .int .i64 4] 93); have hs := (Src.ofSlice (P := Try.prog) (size := 2) _ Try.underlying67 _ 3 3 _ rfl (cells_new w2 [.int .u64 1, .int .i64 1, .int .u64 1, .int .i64 1, .int .u64 y, .int .i64 4] 93) (by intro u hu; simp at hu; rcases hu with rfl | rfl | rfl | rfl | rfl | rfl <;> rfl)); have hN2 := hN.trans hu2; have hsz := hN2.size; dsimp only)
            | (at_builtin; refine wpList_appN _ rfl _ _ 67 67 rfl _ 93 (.agg #[.int .u64 0, .int .i64 0]) 2 16 Try.underlying67 infoP rfl _ _ _ hox rfl _ _ _ hs rfl _ (hN2.alloc _) ?c1 ?c2 ?_; (case c1 => unfold maxLen; omega); (case c2 => omega); intro v5 w5 ho5 hu5 hk5 hv5)) | go_values | go_skip | go_guarded | go_step | go_upon | go_back)
          go_roundw
          case rel => exact ⟨j + 1, by omega, by go_num, by rw [BT.out, pcells_append, List.length_append, BLm.out]; exact ho5, hu5⟩
          case measure => simp [intOf]; omega
        · rw [if_neg hz0, if_neg hz16] at hp
          have BT := Bx.mk (show st (j + 1) = st j ++ [(1, 1), (0, 1), (x, d)] by rw [HT.out, hp])
          have hzi : ¬ (z : Int) ≤ 16 := by omega
          have hz0i : ¬ (z : Int) = 0 := by omega
          clear hp hz hz0
          repeat' (first | (first
            | (go_at_call 52; (with_reducible refine (BM.out _).mono ?_); rintro e w2 ⟨rfl, hu2⟩; (obtain ⟨e0, e1, e2, e3⟩ := four_cells (hr2.new hu2)); dsimp only)
            | (go_at_call 53; (with_reducible refine (BF.out _).mono ?_); rintro e w3 ⟨rfl, hu3⟩; have hu23 := hu2.trans hu3; have hox := (own_new ho hu23).alloc (.cells #[.int .u64 1, .int .i64 1, .int .u64 0, .int .i64 1, .int .u64 x, .int .i64 d] 93); have hs := (Src.ofSlice (P := Try.prog) (size := 2) _ Try.underlying67 _ 3 3 _ rfl (cells_new w3 [.int .u64 1, .int .i64 1, .int .u64 0, .int .i64 1, .int .u64 x, .int .i64 d] 93) (by intro u hu; simp at hu; rcases hu with rfl | rfl | rfl | rfl | rfl | rfl <;> rfl)); have hN2 := hN.trans hu23; have hsz := hN2.size; dsimp only)
            | (at_builtin; refine wpList_appN _ rfl _ _ 67 67 rfl _ 93 (.agg #[.int .u64 0, .int .i64 0]) 2 16 Try.underlying67 infoP rfl _ _ _ hox rfl _ _ _ hs rfl _ (hN2.alloc _) ?c1 ?c2 ?_; (case c1 => unfold maxLen; omega); (case c2 => omega); intro v5 w5 ho5 hu5 hk5 hv5)) | go_values | go_skip | go_guarded | go_step | go_upon | go_back)
          go_roundw
          case rel => exact ⟨j + 1, by omega, by go_num, by rw [BT.out, pcells_append, List.length_append, BLm.out]; exact ho5, hu5⟩
          case measure => simp [intOf]; omega
    · obtain rfl : j = n := by omega
      repeat' (first | fail | go_values | go_skip | go_guarded | go_step | go_upon | go_back)
      go_ret
      exact ⟨_, rfl, own_lower ho hN1.size, hN1.trans hN⟩
end Go.Proofs.Ytpfdbkfjjjiamaa
