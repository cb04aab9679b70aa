/- The reference's Find, of entities and of components: walks. -/
import Derived.Test.YtdnkdmdmekdfkaaDf3
namespace Go.Proofs.Ytdnkdmdmekdfkaa
open Go.RowKit
set_option maxHeartbeats 4000000 in
theorem refFindE_any (A : Option Addr) (n c : Nat) (l : List Et) (v : Nat) (w : World) (h : EnL w A n l) (hl : l.length ≤ 1000) : Calls Try.prog 21 #[.slice A n c, .int .u32 v] w fun e w' => ((∃ j, ∃ hj : j < l.length, e = .returned (.int .i64 (j : Nat)) ∧ l.find? (fun x => x.1 == v) = some l[j]) ∨ (e = .returned (.int .i64 (-1)) ∧ l.find? (fun x => x.1 == v) = none)) ∧ New w w' := by
  have HL := Bx.mk h.len
  have hn : n ≤ 1000 := by have := HL.out; omega
  go_enter Try.func21, Try.ntmps21
  repeat' (first | fail | go_values | go_skip | go_guarded | go_step | go_upon | go_back)
  go_loopw [9] (fun i wr => ∃ (j : Nat), j ≤ n ∧ i = .int .i64 j ∧ Bx (∀ q ∈ l.take j, (q.1 == v) = false) ∧ New w wr) (fun i _ => n - (intOf i).toNat)
  case atStart => exact ⟨0, by omega, rfl, ⟨fun q hq => by simp at hq⟩, Upd.refl _ _⟩
  case round =>
    obtain ⟨j, hj, rfl, HY, hN⟩ := hrel
    by_cases hlt : j < n
    · have hjL : j < l.length := by rw [HL.out]; exact hlt
      obtain ⟨b0, off, s0, s1, s2, rfl, h0, h1, _⟩ := (h.new hN).el j hjL
      have HS := Bx.mk (List.take_succ_eq_append_getElem hjL)
      have HF := Bx.mk (find_at (p := fun q : Et => q.1 == v) l j hjL HY.out)
      generalize hqe : l[j] = q at *
      obtain ⟨i, m⟩ := q
      dsimp only at h0 h1 HF
      obtain ⟨n0, n1⟩ := e2_new wr i s0 s1 s2
      have hA := (Upd.refl Nowhere wr).alloc (.cells #[.int .u32 i, .slice s0 s1 s2] 43)
      have HQE := Bx.mk hqe
      clear hqe
      by_cases hk : i = v
      · have HE := Bx.mk (HF.out (by simp [hk]))
        subst hk
        repeat' (first | fail | go_values | go_skip | go_guarded | go_step | go_upon | go_back)
        go_returns
        exact ⟨.inl ⟨j, hjL, rfl, by rw [HQE.out]; exact HE.out⟩, hN.trans hA⟩
      · have hkb : ((i : Int) == (v : Int)) = false := by rw [beq_eq_false_iff_ne]; omega
        have hkI : ¬ (i : Int) = (v : Int) := by omega
        have HY2 := Bx.mk (show ∀ q ∈ l.take (j + 1), (q.1 == v) = false by
          intro q hq
          rw [HS.out] at hq
          rcases List.mem_append.1 hq with hq | hq
          · exact HY.out q hq
          · simp at hq; subst hq; simpa using hk)
        clear hk
        repeat' (first | fail | go_values | go_skip | go_guarded | go_step | go_upon | go_back)
        go_roundw
        case rel => exact ⟨j + 1, by omega, by go_num, HY2, hN.trans hA⟩
        case measure => simp [intOf]; omega
    · obtain rfl : j = n := by omega
      have HE := Bx.mk (show l.find? (fun x => x.1 == v) = none by have := HY.out; rw [List.take_of_length_le (by rw [HL.out]; exact Nat.le_refl _)] at this; exact List.find?_eq_none.2 fun q hq => by simp [this q hq])
      repeat' (first | fail | go_values | go_skip | go_guarded | go_step | go_upon | go_back)
      go_returns
      exact ⟨.inr ⟨rfl, HE.out⟩, hN⟩
set_option maxHeartbeats 4000000 in
theorem refFindC_any (A : Option Addr) (n c : Nat) (l : List C4) (k0 : Nat) (w : World) (h : Co w (A, n, c) l) (hl : l.length ≤ 1000) : Calls Try.prog 34 #[.slice A n c, .int .u8 k0] w fun e w' => ((∃ j, ∃ hj : j < l.length, e = .returned (.int .i64 (j : Nat)) ∧ fnd l k0 = some l[j]) ∨ (e = .returned (.int .i64 (-1)) ∧ fnd l k0 = none)) ∧ New w w' := by
  have HL := Bx.mk h.len
  dsimp only at HL
  have hx := h.rd
  dsimp only at hx
  have hn : n ≤ 1000 := by have := HL.out; omega
  go_enter Try.func34, Try.ntmps34
  repeat' (first | fail | go_values | go_skip | go_guarded | go_step | go_upon | go_back)
  go_loopw [9] (fun i wr => ∃ (j : Nat), j ≤ n ∧ i = .int .i64 j ∧ Bx (∀ q ∈ l.take j, (q.k == k0) = false) ∧ New w wr) (fun i _ => n - (intOf i).toNat)
  case atStart => exact ⟨0, by omega, rfl, ⟨fun q hq => by simp at hq⟩, Upd.refl _ _⟩
  case round =>
    obtain ⟨j, hj, rfl, HY, hN⟩ := hrel
    by_cases hlt : j < n
    · have hjL : j < l.length := by rw [HL.out]; exact hlt
      obtain ⟨b0, off, rfl, h0, h1, h2, h3⟩ := (hx.new hN).four j hjL
      have HS := Bx.mk (List.take_succ_eq_append_getElem hjL)
      have HF := Bx.mk (find_at (p := fun q : C4 => q.k == k0) l j hjL HY.out)
      generalize hqe : l[j] = q at *
      obtain ⟨k, a, b, c'⟩ := q
      simp only at h0 h1 h2 h3 HF
      obtain ⟨n0, n1, n2, n3⟩ := c4_new wr k a b c'
      have hA := (Upd.refl Nowhere wr).alloc (.cells #[.int .u8 k, .int .i32 a, .int .i32 b, .int .i32 c'] 46)
      have HQE := Bx.mk hqe
      clear hqe
      by_cases hk : k = k0
      · have HE := Bx.mk (HF.out (by simp [hk]))
        subst hk
        repeat' (first | fail | go_values | go_skip | go_guarded | go_step | go_upon | go_back)
        go_returns
        exact ⟨.inl ⟨j, hjL, rfl, by rw [HQE.out]; exact HE.out⟩, hN.trans hA⟩
      · have hkb : ((k : Int) == (k0 : Int)) = false := by rw [beq_eq_false_iff_ne]; omega
        have hkI : ¬ (k : Int) = (k0 : Int) := by omega
        have HY2 := Bx.mk (show ∀ q ∈ l.take (j + 1), (q.k == k0) = false by
          intro q hq
          rw [HS.out] at hq
          rcases List.mem_append.1 hq with hq | hq
          · exact HY.out q hq
          · simp at hq; subst hq; simpa using hk)
        clear hk
        repeat' (first | fail | go_values | go_skip | go_guarded | go_step | go_upon | go_back)
        go_roundw
        case rel => exact ⟨j + 1, by omega, by go_num, HY2, hN.trans hA⟩
        case measure => simp [intOf]; omega
    · obtain rfl : j = n := by omega
      have HE := Bx.mk (show fnd l k0 = none by have := HY.out; rw [List.take_of_length_le (by rw [HL.out]; exact Nat.le_refl _)] at this; exact List.find?_eq_none.2 fun q hq => by simp [this q hq])
      repeat' (first | fail | go_values | go_skip | go_guarded | go_step | go_upon | go_back)
      go_returns
      exact ⟨.inr ⟨rfl, HE.out⟩, hN⟩
end Go.Proofs.Ytdnkdmdmekdfkaa
