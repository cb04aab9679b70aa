/- The law of names. -/
import Derived.Test.YtcflbeifklhiaaaSc7
namespace Go.Proofs.Ytcflbeifklhiaaa
open Go.RowKit

theorem nm_ne : ∀ j, j < 6 → ∀ k, k < 6 → j ≠ k → ((nm j).toList == (nm k).toList) = false := by
  intro j hj k hk hne
  have h1 : j = 0 ∨ j = 1 ∨ j = 2 ∨ j = 3 ∨ j = 4 ∨ j = 5 := by omega
  have h2 : k = 0 ∨ k = 1 ∨ k = 2 ∨ k = 3 ∨ k = 4 ∨ k = 5 := by omega
  rcases h1 with rfl | rfl | rfl | rfl | rfl | rfl <;> rcases h2 with rfl | rfl | rfl | rfl | rfl | rfl <;> first | (exact absurd rfl hne) | (rw [ByteArray.toList_eq, ByteArray.toList_eq]; decide)
theorem nm_some : ∀ j, j < 6 → ¬ (nm j).toList = [] := by
  intro j hj
  have h1 : j = 0 ∨ j = 1 ∨ j = 2 ∨ j = 3 ∨ j = 4 ∨ j = 5 := by omega
  rcases h1 with rfl | rfl | rfl | rfl | rfl | rfl <;> (rw [ByteArray.toList_eq]; decide)
theorem Name_e (k : Nat) (K : Int) (w : World) (hk : k < 256) (hK : K = (k : Int)) : Calls Try.prog 15 #[.int .u8 K] w fun e w' => e = .returned (.string (nm k)) ∧ New w w' := by subst hK; exact Name_any k w hk
theorem toList_inj {a b : ByteArray} (h : a.toList = b.toList) : a = b := by
  rw [ByteArray.toList_eq, ByteArray.toList_eq] at h
  cases a; cases b
  simp at h
  rw [h]

set_option maxHeartbeats 1000000 in
theorem Kind_any (s : ByteArray) (w : World) (k0 : Nat) (yes : Bool) (hk : k0 ≤ 6) (hf : ∀ j, j < k0 → ((nm j).toList == s.toList) = false) (hy : k0 < 6 → nm k0 = s) (hyes : yes = decide (k0 < 6)) (K : Int) (hK : K = if k0 < 6 then (k0 : Int) else 0) :
    Calls Try.prog 14 #[.string s] w fun e w' => e = .returned (.tuple #[.int .u8 K, .bool yes]) ∧ New w w' := by
  have HF := Bx.mk hf
  have HY := Bx.mk hy
  have HYes := Bx.mk hyes
  have HK := Bx.mk hK
  clear hf hy hyes hK
  go_enter Try.func14, Try.ntmps14
  repeat' (first | fail | go_values | go_skip | go_guarded | go_step | go_upon | go_back)
  go_loopw [5] (fun i wr => ∃ j : Nat, j ≤ k0 ∧ i = .int .u8 j ∧ New w wr) (fun i _ => 6 - (intOf i).toNat)
  case atStart => exact ⟨0, by omega, rfl, Upd.refl _ _⟩
  case round =>
    obtain ⟨j, hj, rfl, hN⟩ := hrel
    by_cases h6 : j < 6
    · by_cases hlt : j < k0
      · have hfj := HF.out j hlt
        have HNm := Bx.mk (fun w => Name_any j w (by omega))
        generalize nm j = nj at *
        repeat' (first | (go_at_call 15; go_loud ((with_reducible refine (HNm.out _).mono ?_); rintro e w1 ⟨rfl, hu1⟩; dsimp only)) | go_values | go_skip | go_guarded | go_step | go_upon | go_back)
        go_roundw
        case rel => exact ⟨j + 1, by omega, by go_num, hN.trans hu1⟩
        case measure => simp [intOf]; omega
      · obtain rfl : j = k0 := by omega
        have HNm := Bx.mk (fun w => Name_any j w (by omega))
        rw [HY.out h6] at HNm
        have hT := HYes.out
        rw [decide_eq_true h6] at hT
        have hKK := HK.out
        rw [if_pos h6] at hKK
        subst hT
        subst hKK
        repeat' (first | (go_at_call 15; go_loud ((with_reducible refine (HNm.out _).mono ?_); rintro e w1 ⟨rfl, hu1⟩; dsimp only)) | go_values | go_skip | go_guarded | go_step | go_upon | go_back)
        go_returns
        exact ⟨rfl, hN.trans hu1⟩
    · obtain rfl : k0 = 6 := by omega
      obtain rfl : j = 6 := by omega
      have hT := HYes.out
      rw [decide_eq_false h6] at hT
      have hKK := HK.out
      rw [if_neg h6] at hKK
      subst hT
      subst hKK
      repeat' (first | fail | go_values | go_skip | go_guarded | go_step | go_upon | go_back)
      go_returns
      exact ⟨rfl, hN⟩

set_option maxHeartbeats 4000000 in
theorem names_any (s : ByteArray) (w : World) :
    Calls Try.prog 5 #[.string s] w fun e w' => e = .returned (.bool true) ∧ New w w' := by
  by_cases hex : ∃ k0, k0 < 6 ∧ nm k0 = s
  · obtain ⟨k0, hk0, rfl⟩ := hex
    have hf : ∀ j, j < 6 → j ≠ k0 → ((nm j).toList == (nm k0).toList) = false := fun j hj hne => nm_ne j hj k0 hk0 hne
    have HK := Bx.mk (fun w => Kind_any (nm k0) w k0 true (by omega) (fun j hj => hf j (by omega) (by omega)) (fun _ => rfl) (decide_eq_true hk0).symm (k0 : Int) (by rw [if_pos hk0]))
    have HN := Bx.mk (fun w => Name_any k0 w (by omega))
    have HF := Bx.mk hf
    have hsome := nm_some k0 hk0
    have HR := Bx.mk (fun (j : Nat) (hj : j < 6) w => refName_any j w (by omega))
    generalize hs : nm k0 = s at *
    have BS := Bx.mk hs
    have hie : s.toList.isEmpty = false := by simp [hsome]
    clear hf hs
    go_enter Try.func5, Try.ntmps5
    repeat' (first | (first | (go_at_call 14; go_loud ((with_reducible refine (HK.out _).mono ?_); rintro e w1 ⟨rfl, hu1⟩; dsimp only)) | (go_at_call 9; go_loud ((with_reducible refine (awake_any _).mono ?_); rintro e w2 ⟨rfl, hu2⟩; dsimp only)) | (go_at_call 15; go_loud ((with_reducible refine (HN.out _).mono ?_); rintro e w3 ⟨rfl, hu3⟩; dsimp only))) | go_values | go_skip | go_guarded | go_step | go_upon | go_back)
    have hN0 : New w w3 := (hu1.trans hu2).trans hu3
    go_loopw [25] (fun i wr => ∃ j : Nat, j ≤ 6 ∧ i = .int .u8 j ∧ New w wr) (fun i _ => 6 - (intOf i).toNat)
    case atStart => exact ⟨0, by omega, rfl, hN0⟩
    case round =>
      obtain ⟨j, hj, rfl, hN⟩ := hrel
      by_cases h6 : j < 6
      · have hRj := HR.out j h6
        by_cases hjk : j = k0
        · subst hjk
          rw [BS.out] at hRj
          have BR := Bx.mk hRj
          clear hRj
          repeat' (first | (go_at_call 16; go_loud ((with_reducible refine (BR.out _).mono ?_); rintro e w5 ⟨rfl, hu5⟩; dsimp only)) | go_values | go_skip | go_guarded | go_step | go_upon | go_back)
          go_roundw
          case rel => exact ⟨j + 1, by omega, by go_num, hN.trans hu5⟩
          case measure => simp [intOf]; omega
        · have hfj := HF.out j h6 hjk
          generalize nm j = nj at *
          have BR := Bx.mk hRj
          clear hRj
          repeat' (first | (go_at_call 16; go_loud ((with_reducible refine (BR.out _).mono ?_); rintro e w5 ⟨rfl, hu5⟩; dsimp only)) | go_values | go_skip | go_guarded | go_step | go_upon | go_back)
          go_roundw
          case rel => exact ⟨j + 1, by omega, by go_num, hN.trans hu5⟩
          case measure => simp [intOf]; omega
      · obtain rfl : j = 6 := by omega
        repeat' (first | fail | go_values | go_skip | go_guarded | go_step | go_upon | go_back)
        go_ret
        exact ⟨rfl, hN⟩
  · have hf : ∀ j, j < 6 → ((nm j).toList == s.toList) = false := fun j hj => by
      rw [Bool.eq_false_iff]
      intro h
      exact hex ⟨j, hj, toList_inj (by simpa using h)⟩
    have HK := Bx.mk (fun w => Kind_any s w 6 false (by omega) (fun j hj => hf j hj) (fun h => absurd h (by omega)) rfl 0 rfl)
    have HN := Bx.mk (fun w => Name_e 0 0 w (by omega) (by rfl))
    have hn0 := nm_some 0 (by omega)
    have HF := Bx.mk hf
    have hf0 := hf 0 (by omega)
    have HR := Bx.mk (fun (j : Nat) (hj : j < 6) w => refName_any j w (by omega))
    generalize nm 0 = n0 at *
    clear hf hex
    by_cases he : s.toList = []
    all_goals
      try have hie : s.toList.isEmpty = false := by simp [he]
      go_enter Try.func5, Try.ntmps5
      repeat' (first | (first | (go_at_call 14; go_loud ((with_reducible refine (HK.out _).mono ?_); rintro e w1 ⟨rfl, hu1⟩; dsimp only)) | (go_at_call 9; go_loud ((with_reducible refine (awake_any _).mono ?_); rintro e w2 ⟨rfl, hu2⟩; dsimp only)) | (go_at_call 15; go_loud ((with_reducible refine (HN.out _).mono ?_); rintro e w3 ⟨rfl, hu3⟩; dsimp only))) | go_values | go_skip | go_guarded | go_step | go_upon | go_back)
      have hN0 := hu1.trans hu2
      try replace hN0 := hN0.trans hu3
      go_loopw [25] (fun i wr => ∃ j : Nat, j ≤ 6 ∧ i = .int .u8 j ∧ New w wr) (fun i _ => 6 - (intOf i).toNat)
      case atStart => exact ⟨0, by omega, rfl, hN0⟩
      case round =>
        obtain ⟨j, hj, rfl, hN⟩ := hrel
        by_cases h6 : j < 6
        · have hRj := HR.out j h6
          have hfj := HF.out j h6
          have hnj := nm_some j h6
          generalize nm j = nj at *
          have BR := Bx.mk hRj
          clear hRj
          repeat' (first | (go_at_call 16; go_loud ((with_reducible refine (BR.out _).mono ?_); rintro e w5 ⟨rfl, hu5⟩; dsimp only)) | go_values | go_skip | go_guarded | go_step | go_upon | go_back)
          go_roundw
          case rel => exact ⟨j + 1, by omega, by go_num, hN.trans hu5⟩
          case measure => simp [intOf]; omega
        · obtain rfl : j = 6 := by omega
          repeat' (first | fail | go_values | go_skip | go_guarded | go_step | go_upon | go_back)
          go_ret
          exact ⟨rfl, hN⟩
end Go.Proofs.Ytcflbeifklhiaaa
