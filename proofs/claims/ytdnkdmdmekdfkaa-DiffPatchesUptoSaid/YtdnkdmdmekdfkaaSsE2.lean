/- rotateCmpFunc walked (printed by ssp.py). -/
import Derived.Test.YtdnkdmdmekdfkaaSsE1
namespace Go.Proofs.Ytdnkdmdmekdfkaa
open Go.RowKit Go.Sort
set_option maxRecDepth 20000 in
set_option maxHeartbeats 4000000 in
theorem rotE_any {w : World} {blk S : Nat} {d : Array (Nat × Option Addr × Nat × Nat)} (h : SRE blk S d w) (n c a m b : Nat) (hn : d.size = n) (h1 : a < m) (h2 : m < b) (h3 : b ≤ n) (hsz : n < 1000000) (f : Value) :
    Calls Try.prog 80 #[.slice (some ⟨blk, 0, none⟩) n c, .int .i64 a, .int .i64 m, .int .i64 b, f] w fun e w' => e = .returned (.tuple #[]) ∧ ∃ d', SRE blk S d' w' ∧ Upd (fun x => x = blk) w w' ∧ Ss.Idx (Ss.rotI a m b) d d' ∧ PermIn a b d d' := by
  have H0 := Bx.mk h
  have HS := Bx.mk hn
  have CS := Bx.mk (fun {w' : World} {d' : Array (Nat × Option Addr × Nat × Nat)} (h : SRE blk S d' w') (hn' : d'.size = n) (a b k : Nat) (h1 : a + k ≤ b) (h2 : b + k ≤ n) => swpRE_any h n c a b k hn' h1 h2 hsz f)
  obtain ⟨i0, hi0⟩ : ∃ i, m - a = i := ⟨_, rfl⟩
  obtain ⟨j0, hj0⟩ : ∃ j, b - m = j := ⟨_, rfl⟩
  have wi0 : IntKind.i64.wrap ((m : Int) - (a : Int)) = (i0 : Int) := by rw [IntKind.wrap_i64]; omega
  have wj0 : IntKind.i64.wrap ((b : Int) - (m : Int)) = (j0 : Int) := by rw [IntKind.wrap_i64]; omega
  have F0 := Bx.mk (fun t => show d[Ss.rotI a m b t]! = d[Ss.rotI (m - i0) m (m + j0) t]! by rw [Ss.rot_start a m b t (by omega) (by omega), hi0, hj0])
  clear h hn
  go_enter Try.func80, Try.ntmps80
  repeat' (first | fail | go_values | go_skip | go_guarded | go_step | go_upon | go_back)
  go_loopw [10, 11] (fun iv jv wr => ∃ (i j : Nat) (d1 : Array (Nat × Option Addr × Nat × Nat)), iv = .int .i64 i ∧ jv = .int .i64 j ∧ 0 < i ∧ 0 < j ∧ i ≤ m - a ∧ j ≤ b - m ∧ Bx (d1.size = n) ∧ Bx (∀ t, d[Ss.rotI a m b t]! = d1[Ss.rotI (m - i) m (m + j) t]!) ∧ Bx (PermIn a b d d1) ∧ Bx (SRE blk S d1 wr) ∧ Bx (Upd (fun x => x = blk) w wr)) (fun iv jv _ => (intOf iv).toNat + (intOf jv).toNat)
  case atStart => exact ⟨i0, j0, d, rfl, rfl, by omega, by omega, by omega, by omega, HS, F0, ⟨permIn_refl _ _ _⟩, H0, ⟨Upd.refl _ _⟩⟩
  case round =>
    clear F0 H0 wi0 wj0
    obtain ⟨i, j, d1, rfl, rfl, hi, hj, hia, hjb, HZ, HF, HP, HR, HU⟩ := hrel
    obtain ⟨mi, hmi⟩ : ∃ x, m - i = x := ⟨_, rfl⟩
    have wmi : IntKind.i64.wrap ((m : Int) - (i : Int)) = (mi : Int) := by rw [IntKind.wrap_i64]; omega
    have hz := HZ.out
    have hdz : b ≤ d.size := by rw [HS.out]; exact h3
    by_cases heq : i = j
    · subst heq
      have bne : ((i : Int) != (i : Int)) = false := by simp
      clear hi0 hj0
      repeat' (first | (go_at_call 82; (with_reducible refine (CS.out HR.out HZ.out mi m i (by omega) (by omega)).mono ?_); rintro e w1 ⟨rfl, R1, U1⟩; dsimp only) | go_values | go_skip | go_guarded | go_step | go_upon | go_back)
      go_returns
      refine ⟨rfl, _, R1, HU.out.trans U1, fun t => ?_, permIn_trans _ _ _ _ _ HP.out (Ss.swpR_perm d1 mi m i a b (by omega) (by omega) (by omega) (by omega))⟩
      rw [Ss.swpR_idx d1 mi m i (by omega) (by omega) t, HF.out t, ← hmi, Ss.rot_end m i t (by omega)]
    · have hneI : ¬ (i : Int) = (j : Int) := by omega
      have bne : ((i : Int) != (j : Int)) = true := by simpa using hneI
      by_cases hgt : j < i
      · have hgtI : (j : Int) < (i : Int) := by omega
        obtain ⟨ij, hij⟩ : ∃ x, i - j = x := ⟨_, rfl⟩
        have wij : IntKind.i64.wrap ((i : Int) - (j : Int)) = (ij : Int) := by rw [IntKind.wrap_i64]; omega
        repeat' (first | (go_at_call 82; (with_reducible refine (CS.out HR.out HZ.out mi m j (by omega) (by omega)).mono ?_); rintro e w1 ⟨rfl, R1, U1⟩; dsimp only) | go_values | go_skip | go_guarded | go_step | go_upon | go_back)
        go_roundw
        case rel =>
          refine ⟨ij, j, _, rfl, rfl, by omega, by omega, by omega, by omega, ⟨by rw [Ss.swpR_size, HZ.out]⟩, ⟨fun t => ?_⟩, ⟨permIn_trans _ _ _ _ _ HP.out (Ss.swpR_perm d1 mi m j a b (by omega) (by omega) (by omega) (by omega))⟩, ⟨R1⟩, ⟨HU.out.trans U1⟩⟩
          rw [Ss.swpR_idx d1 mi m j (by omega) (by omega), HF.out t, Ss.rot_left m i j t (by omega) (by omega) (by omega), hmi, hij]
        case measure => simp [intOf]; omega
      · have hgtI : ¬ (j : Int) < (i : Int) := by omega
        obtain ⟨ji, hji⟩ : ∃ x, j - i = x := ⟨_, rfl⟩
        have wji : IntKind.i64.wrap ((j : Int) - (i : Int)) = (ji : Int) := by rw [IntKind.wrap_i64]; omega
        obtain ⟨mj, hmj⟩ : ∃ x, m + j = x := ⟨_, rfl⟩
        have wmj : IntKind.i64.wrap ((m : Int) + (j : Int)) = (mj : Int) := by rw [IntKind.wrap_i64]; omega
        obtain ⟨mji, hmji⟩ : ∃ x, m + j - i = x := ⟨_, rfl⟩
        have wmji : IntKind.i64.wrap ((mj : Int) - (i : Int)) = (mji : Int) := by rw [IntKind.wrap_i64]; omega
        repeat' (first | (go_at_call 82; (with_reducible refine (CS.out HR.out HZ.out mi mji i (by omega) (by omega)).mono ?_); rintro e w1 ⟨rfl, R1, U1⟩; dsimp only) | go_values | go_skip | go_guarded | go_step | go_upon | go_back)
        go_roundw
        case rel =>
          refine ⟨i, ji, _, rfl, rfl, by omega, by omega, by omega, by omega, ⟨by rw [Ss.swpR_size, HZ.out]⟩, ⟨fun t => ?_⟩, ⟨permIn_trans _ _ _ _ _ HP.out (Ss.swpR_perm d1 mi mji i a b (by omega) (by omega) (by omega) (by omega))⟩, ⟨R1⟩, ⟨HU.out.trans U1⟩⟩
          rw [Ss.swpR_idx d1 mi mji i (by omega) (by omega), HF.out t, Ss.rot_right m i j t (by omega) (by omega) (by omega), hmji, hmi, hji]
        case measure => simp [intOf]; omega
end Go.Proofs.Ytdnkdmdmekdfkaa
