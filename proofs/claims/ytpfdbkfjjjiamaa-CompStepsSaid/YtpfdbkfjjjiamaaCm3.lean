/- Components as parts: whole. -/
import Derived.Test.YtpfdbkfjjjiamaaCm2
namespace Go.Proofs.Ytpfdbkfjjjiamaa
open Go.RowKit

set_option maxHeartbeats 2000000 in
theorem whole_any (k : Nat) (a b c : Int) (w : World) (hk : k < 256) (hg : chk k [a, b, c] = 0) :
    Calls Try.prog 37 #[.agg #[.int .u8 k, .int .i32 a, .int .i32 b, .int .i32 c]] w (RetRow 93 2 (flds k).length (pcells (wholeTo k [a, b, c] (flds k).length)) w) := by
  obtain ⟨g0, g1, -⟩ := chk_good k a b c hg
  have h3 := flds_len k
  have HF := Bx.mk (fun i x d w (hi : i < (flds k).length) hx => field_any k a b c i x d w hk hi (g1 i hi).1 (g1 i hi).2 hx)
  have HC := Bx.mk (fun w => Count_any k w hk)
  have HB := Bx.mk (rd_new w [.int .u8 k, .int .i32 a, .int .i32 b, .int .i32 c] 24)
  have HT := Bx.mk (wholeTo_succ k [a, b, c])
  have HLn := Bx.mk (wholeTo_length k [a, b, c])
  generalize (flds k).length = n at *
  clear g0 g1 hg
  go_enter Try.func37, Try.ntmps37
  have hk0 := comp_kind w k a b c
  repeat' (first | (go_at_call 40; (with_reducible refine (HC.out _).mono ?_); rintro e w1 ⟨rfl, hu1⟩; dsimp only) | go_values | go_skip | go_guarded | go_step | go_upon | go_back)
  have hN1 : New w w1 := ((Upd.refl _ w).alloc _).trans hu1
  have HB1 := Bx.mk (HB.out.new hu1)
  clear hk0
  go_loopw [3, 8] (fun s i wr => ∃ (j : Nat), j ≤ n ∧ i = .int .i64 j ∧ wr.ownsRow w1.heap.size 93 2 s j (pcells (wholeTo k [a, b, c] j)) ∧ New w1 wr) (fun _ i _ => n - (intOf i).toNat)
  case atStart => exact ⟨0, by omega, rfl, World.ownsRow_nil _ _ _ _, Upd.refl _ _⟩
  case round =>
    obtain ⟨j, hj, rfl, ho, hN⟩ := hrel
    by_cases hlt : j < n
    · obtain ⟨x, d, hxd⟩ : ∃ x d, fldP k [a, b, c] j = (x, d) := ⟨_, _, rfl⟩
      have hr := HB1.out.new hN
      obtain ⟨c0, c1, c2, c3⟩ := four_cells hr
      have BF := Bx.mk (fun w => HF.out j x d w hlt hxd)
      have BT := Bx.mk (show wholeTo k [a, b, c] (j + 1) = wholeTo k [a, b, c] j ++ [(x, d)] by rw [HT.out, hxd])
      clear hxd
      repeat' (first | (first
        | (go_at_call 53; (with_reducible refine (BF.out _).mono ?_); rintro e w2 ⟨rfl, hu2⟩; have hox := (own_new ho hu2).alloc (.cells #[.int .u64 x, .int .i64 d] 93); have hs := (Src.ofSlice (P := Try.prog) (size := 2) _ Try.underlying67 _ 1 1 _ rfl (cells_new w2 [.int .u64 x, .int .i64 d] 93) (by intro u hu; simp at hu; rcases hu with rfl | rfl <;> rfl)); have hN2 := hN.trans hu2; have hsz := hN2.size; dsimp only)
        | (at_builtin; refine wpList_appN _ rfl _ _ 67 67 rfl _ 93 (.agg #[.int .u64 0, .int .i64 0]) 2 16 Try.underlying67 infoP rfl _ _ _ hox rfl _ _ _ hs rfl _ (hN2.alloc _) ?c1 ?c2 ?_; (case c1 => unfold maxLen; omega); (case c2 => omega); intro v5 w5 ho5 hu5 hk5 hv5)) | go_values | go_skip | go_guarded | go_step | go_upon | go_back)
      go_roundw
      case rel => exact ⟨j + 1, by omega, by go_num, by rw [BT.out, pcells_append]; exact ho5, hu5⟩
      case measure => simp [intOf]; omega
    · obtain rfl : j = n := by omega
      repeat' (first | fail | go_values | go_skip | go_guarded | go_step | go_upon | go_back)
      go_ret
      exact ⟨_, rfl, own_lower ho hN1.size, hN1.trans hN⟩
end Go.Proofs.Ytpfdbkfjjjiamaa
