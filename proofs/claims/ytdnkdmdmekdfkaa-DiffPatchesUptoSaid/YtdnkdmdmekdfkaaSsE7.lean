/- stableCmpFunc, SortStableFunc walked (printed by ssp.py). -/
import Derived.Test.YtdnkdmdmekdfkaaSsE6
namespace Go.Proofs.Ytdnkdmdmekdfkaa
open Go.RowKit Go.Sort
namespace Ss
section
variable {α : Type} [Inhabited α] {lt : α → α → Bool}
/-- sorted in blocks of B -/
def Bks (lt : α → α → Bool) (n B : Nat) (d : Array α) : Prop := ∀ q, SortedIn lt (q * B) (min (q * B + B) n) d
theorem Bks.last {n C t : Nat} {d : Array α} (h : ∀ q, q < t → SortedIn lt (q * C) (q * C + C) d) (hl : SortedIn lt (t * C) n d) (h1 : n < t * C + C) : Bks lt n C d := by
  intro q i j q1 q2 q3
  have q4 : j < q * C + C := by omega
  have q5 : j < n := by omega
  rcases Nat.lt_trichotomy q t with c | c | c
  · exact h q c i j q1 q2 q4
  · subst c; exact hl i j q1 q2 q5
  · have := Nat.mul_le_mul_right C (show t + 1 ≤ q by omega)
    rw [Nat.succ_mul] at this
    omega
theorem Bks.all {n B : Nat} {d : Array α} (h : Bks lt n B d) (hb : n ≤ B) : SortedIn lt 0 n d := fun i j q1 q2 q3 => h 0 i j (by omega) q2 (by omega)
/-- within a round: t blocks of C are done, from a on blocks of B -/
structure Mid (lt : α → α → Bool) (n B t a : Nat) (d : Array α) : Prop where
  at_ : a = t * (2 * B)
  done : ∀ q, q < t → SortedIn lt (q * (2 * B)) (q * (2 * B) + 2 * B) d
  rest : ∀ q, SortedIn lt (a + q * B) (min (a + q * B + B) n) d
theorem Mid.start {n B : Nat} {d : Array α} (h : Bks lt n B d) : Mid lt n B 0 0 d := ⟨by omega, fun q h => absurd h (Nat.not_lt_zero _), fun q => by rw [Nat.zero_add]; exact h q⟩
theorem Mid.one {n B t a : Nat} {d : Array α} (h : Mid lt n B t a d) (hn : a + B ≤ n) : SortedIn lt a (a + B) d := fun i j q1 q2 q3 => h.rest 0 i j (by omega) q2 (by omega)
theorem Mid.two {n B t a b : Nat} {d : Array α} (h : Mid lt n B t a d) (hb : b ≤ n) (hb2 : b ≤ a + 2 * B) : SortedIn lt (a + B) b d := fun i j q1 q2 q3 => h.rest 1 i j (by omega) q2 (by omega)
theorem Mid.step {n B t a : Nat} {d d' : Array α} (h : Mid lt n B t a d) (hp : PermIn a (a + 2 * B) d d') (hs : SortedIn lt a (a + 2 * B) d') : Mid lt n B (t + 1) (a + 2 * B) d' := by
  refine ⟨by rw [Nat.add_mul t 1 (2 * B), Nat.one_mul, ← h.at_], fun q hq => ?_, fun q => ?_⟩
  · by_cases c : q < t
    · have := Nat.mul_le_mul_right (2 * B) (show q + 1 ≤ t by omega)
      rw [Nat.succ_mul q (2 * B), ← h.at_] at this
      exact SortedIn.of_perm (h.done q c) hp (.inl this)
    · obtain rfl : q = t := by omega
      rw [← h.at_]; exact hs
  · have h2 := h.rest (q + 2)
    have e : a + (q + 2) * B = a + 2 * B + q * B := by rw [Nat.add_mul]; omega
    rw [e] at h2
    exact SortedIn.of_perm h2 hp (.inr (by omega))
theorem Mid.end_ {n B t a : Nat} {d : Array α} (h : Mid lt n B t a d) (hn : n < a + 2 * B) (hs : SortedIn lt a n d) : Bks lt n (2 * B) d := Bks.last h.done (h.at_ ▸ hs) (h.at_ ▸ hn)
end
end Ss
theorem insPE_any {w : World} {blk S : Nat} {d : Array (Nat × Option Addr × Nat × Nat)} (h : SRE blk S d w) (n c a b : Nat) (hn : d.size = n) (hab : a ≤ b) (hb : b ≤ n) (hsz : n < 1000000) :
    Calls Try.prog 70 #[.slice (some ⟨blk, 0, none⟩) n c, .int .i64 a, .int .i64 b, .func (.func 30) #[] #[]] w fun e w' => e = .returned (.tuple #[]) ∧ ∃ d', SRE blk S d' w' ∧ Upd (fun x => x = blk) w w' ∧ PermIn a b d d' ∧ SortedIn ltE a b d' := by
  refine (insE_any h n c a b hn hab hb hsz).mono ?_
  rintro e w' ⟨rfl, h1, h2⟩
  exact ⟨rfl, _, h1, h2, (insertionSort_holds swoE d a b hab (by omega)).1, (insertionSort_holds swoE d a b hab (by omega)).2⟩
set_option maxRecDepth 20000 in
set_option maxHeartbeats 16000000 in
theorem stableE_any {w : World} {blk S : Nat} {d : Array (Nat × Option Addr × Nat × Nat)} (h : SRE blk S d w) (n c : Nat) (hn : d.size = n) (hsz : n < 1000000) :
    Calls Try.prog 53 #[.slice (some ⟨blk, 0, none⟩) n c, .int .i64 n, .func (.func 30) #[] #[]] w fun e w' => e = .returned (.tuple #[]) ∧ ∃ d', SRE blk S d' w' ∧ Upd (fun x => x = blk) w w' ∧ PermIn 0 n d d' ∧ SortedIn ltE 0 n d' := by
  have H0 := Bx.mk h
  have HNn := Bx.mk hn
  clear h hn
  go_enter Try.func53, Try.ntmps53
  repeat' (first | fail | go_values | go_skip | go_guarded | go_step | go_upon | go_back)
  refine wp_loopM [none, none, none, some 3, some 4, some 5, none, some 7, some 8, some 9, some 10, some 11, some 12, some 13, some 14, some 15, some 16, some 17, some 18, some 19, some 20, some 21, some 22, some 23, some 24, some 25, some 26, some 27, some 28, some 29, some 30, some 31, some 32, some 33, some 34, some 35, some 36, some 37, some 38, some 39, some 40, some 41, some 42, some 43, some 44, some 45, some 46, some 47, some 48, some 49, some 50, some 51, some 52, some 53, some 54, some 55, some 56, some 57, some 58, some 59, some 60, some 61, some 62] (fun fs wr dM => (fun av bv wr dd => ∃ (t a b : Nat) (d1 : Array (Nat × Option Addr × Nat × Nat)), av = .int .i64 a ∧ bv = .int .i64 b ∧ Bx (b = a + 20) ∧ Bx (a = t * 20) ∧ a ≤ n ∧ Bx (∀ q, q < t → SortedIn ltE (q * 20) (q * 20 + 20) d1) ∧ Bx (SRE blk S d1 wr) ∧ Bx (Upd (fun x => x = blk) w wr) ∧ Bx (PermIn 0 n d d1) ∧ dd = n - a) (fs 7) (fs 8) wr dM) (by kernel_rfl) ?atStart ?round
  case' atStart => dsimp only [slotsOf, List.getD_cons_succ, List.getD_cons_zero]
  case' round => (intro dM_ J_ K_ fs wr hrel hJ_ hK_; simp only [Mix]; generalize fs 7 = u7 at hrel ⊢; generalize fs 8 = u8 at hrel ⊢; try dsimp only at hrel)
  case atStart => exact ⟨_, 0, 0, 20, d, rfl, rfl, ⟨rfl⟩, ⟨rfl⟩, Nat.zero_le _, ⟨fun q h => absurd h (Nat.not_lt_zero _)⟩, H0, ⟨Upd.refl _ _⟩, ⟨permIn_refl _ _ _⟩, rfl⟩
  case round =>
    obtain ⟨t, a, b, d1, rfl, rfl, Hb, HAT, han, HD, HR, HU, HP, rfl⟩ := hrel
    have HN1 := Bx.mk (HP.out.1.trans HNn.out)
    have hab : a < b := by have := Hb.out; omega
    by_cases hlt : b ≤ n
    · have hltI : (b : Int) ≤ (n : Int) := by omega
      obtain ⟨b2, hb2⟩ : ∃ x, b + 20 = x := ⟨_, rfl⟩
      have wb : IntKind.i64.wrap ((b : Int) + 20) = (b2 : Int) := by rw [IntKind.wrap_i64]; omega
      have CI := Bx.mk (insPE_any HR.out n c a b HN1.out (by omega) hlt hsz)
      repeat' (first | (go_at_call 70; (with_reducible refine (CI.out).mono ?_); rintro e1 w1 ⟨rfl, d2, R2, U2, P2, S2⟩; dsimp only) | go_values | go_skip | go_guarded | go_step | go_upon | go_back)
      have HD2 := Bx.mk (show ∀ q, q < t + 1 → SortedIn ltE (q * 20) (q * 20 + 20) d2 from fun q hq => by
        have e := HAT.out
        have e' := Hb.out
        by_cases c : q < t
        · exact Ss.SortedIn.of_perm (HD.out q c) P2 (.inl (by omega))
        · obtain rfl : q = t := by omega
          rw [← e, ← e']; exact S2)
      have hb1 : n ≤ d1.size := Nat.le_of_eq HN1.out.symm
      have HP2 := Bx.mk (permIn_trans _ _ _ _ _ HP.out (permIn_mono _ _ _ _ _ _ (Nat.zero_le _) hlt hb1 P2))
      have e2 := HAT.out
      have e3 := Hb.out
      refine met_loop (by assumption) (by kernel_rfl) (by kernel_rfl) ?rel
      case' rel => try dsimp only [slotsOf, List.getD_cons_succ, List.getD_cons_zero]
      case rel => exact ⟨_, ⟨t + 1, b, b2, d2, rfl, rfl, ⟨by omega⟩, ⟨by omega⟩, hlt, HD2, ⟨R2⟩, ⟨HU.out.trans U2⟩, HP2, rfl⟩, by omega⟩
    · have hltI : ¬ (b : Int) ≤ (n : Int) := by omega
      have CI := Bx.mk (insPE_any HR.out n c a n HN1.out han (Nat.le_refl _) hsz)
      go_upto_block 2 with (first
        | (go_at_call 70; (with_reducible refine (CI.out).mono ?_); rintro e1 w1 ⟨rfl, d2, R2, U2, P2, S2⟩; dsimp only))
      have HB2 := Bx.mk (show Ss.Bks ltE n 20 d2 from Ss.Bks.last (t := t) (fun q hq => Ss.SortedIn.of_perm (HD.out q hq) P2 (.inl (by have := HAT.out; omega))) (by rw [← HAT.out]; exact S2) (by have := HAT.out; have := Hb.out; omega))
      have hb1 : n ≤ d1.size := Nat.le_of_eq HN1.out.symm
      have HP2 := Bx.mk (permIn_trans _ _ _ _ _ HP.out (permIn_mono _ _ _ _ _ _ (Nat.zero_le _) (Nat.le_refl _) hb1 P2))
      have R2' := Bx.mk R2
      have U2' := Bx.mk (HU.out.trans U2)
      clear R2 U2 P2 S2 HD HR HU HP HAT Hb hltI hlt han HN1 hb1 CI hab
      repeat' (first | fail | go_values | go_skip | go_guarded | go_step | go_upon | go_back)
      refine wp_loopM [none, none, none, some 3, some 4, some 5, some 6, some 7, some 8, some 9, some 10, some 11, some 12, some 13, some 14, some 15, some 16, some 17, some 18, some 19, some 20, some 21, some 22, some 23, some 24, some 25, some 26, some 27, some 28, some 29, some 30, some 31, some 32, some 33, some 34, some 35, some 36, some 37, some 38, some 39, some 40, some 41, some 42, some 43, some 44, some 45, some 46, some 47, some 48, some 49, some 50, some 51, some 52, some 53, some 54, some 55, some 56, some 57, some 58, some 59, some 60, some 61, some 62] (fun fs wr dM => (fun bv wr dd => ∃ (B : Nat) (d1 : Array (Nat × Option Addr × Nat × Nat)), bv = .int .i64 B ∧ 0 < B ∧ B < 4000000 ∧ Bx (Ss.Bks ltE n B d1) ∧ Bx (SRE blk S d1 wr) ∧ Bx (Upd (fun x => x = blk) w wr) ∧ Bx (PermIn 0 n d d1) ∧ dd = n - B) (fs 6) wr dM) (by kernel_rfl) ?atStart ?round
      case' atStart => dsimp only [slotsOf, List.getD_cons_succ, List.getD_cons_zero]
      case' round => (intro dM_ J_ K_ fs wr hrel hJ_ hK_; simp only [Mix]; generalize fs 6 = u6 at hrel ⊢; try dsimp only at hrel)
      case atStart => exact ⟨_, 20, d2, rfl, by omega, by omega, HB2, R2', U2', HP2, rfl⟩
      case round =>
        clear HB2 R2' U2' HP2
        obtain ⟨B, d3, rfl, hB0, hBn, HB, HR, HU, HP, rfl⟩ := hrel
        by_cases hlt : B < n
        · have hltI : (B : Int) < (n : Int) := by omega
          obtain ⟨C, hC⟩ : ∃ x, 2 * B = x := ⟨_, rfl⟩
          have wB : IntKind.i64.wrap (2 * (B : Int)) = (C : Int) := by rw [IntKind.wrap_i64]; omega
          have wB2 : IntKind.i64.wrap ((B : Int) * 2) = (C : Int) := by rw [IntKind.wrap_i64]; omega
          have HC := Bx.mk hC
          clear hC
          go_upto_block 4 with (fail)
          repeat' (first | fail | go_values | go_skip | go_guarded | go_step | go_upon | go_back)
          refine wp_loopM [none, none, none, some 3, some 4, some 5, none, some 7, some 8, some 9, some 10, some 11, some 12, some 13, some 14, some 15, some 16, some 17, some 18, some 19, some 20, some 21, some 22, some 23, some 24, some 25, some 26, some 27, some 28, some 29, some 30, some 31, some 32, some 33, some 34, some 35, some 36, some 37, some 38, some 39, some 40, some 41, some 42, some 43, some 44, some 45, some 46, some 47, some 48, some 49, some 50, some 51, some 52, some 53, some 54, some 55, some 56, some 57, some 58, some 59, some 60, some 61, some 62] (fun fs wr dM => (fun av bv wr dd => ∃ (t a b : Nat) (d1 : Array (Nat × Option Addr × Nat × Nat)), av = .int .i64 a ∧ bv = .int .i64 b ∧ Bx (b = a + 2 * B) ∧ a ≤ n ∧ Bx (Ss.Mid ltE n B t a d1) ∧ Bx (SRE blk S d1 wr) ∧ Bx (Upd (fun x => x = blk) w wr) ∧ Bx (PermIn 0 n d d1) ∧ dd = n - a) (fs 7) (fs 8) wr dM) (by kernel_rfl) ?atStart ?round
          case' atStart => dsimp only [slotsOf, List.getD_cons_succ, List.getD_cons_zero]
          case' round => (intro dM_ J_ K_ fs wr hrel hJ_ hK_; simp only [Mix]; generalize fs 7 = u7 at hrel ⊢; generalize fs 8 = u8 at hrel ⊢; try dsimp only at hrel)
          case atStart => exact ⟨_, 0, 0, C, d3, rfl, rfl, ⟨by rw [Nat.zero_add]; exact HC.out.symm⟩, Nat.zero_le _, ⟨Ss.Mid.start HB.out⟩, HR, HU, HP, rfl⟩
          case round =>
            clear HB HR HU HP
            obtain ⟨t, a, b, d1, rfl, rfl, Hb, han, HM, HR, HU, HP, rfl⟩ := hrel
            have HN1 := Bx.mk (HP.out.1.trans HNn.out)
            have hb1 : n ≤ d1.size := Nat.le_of_eq HN1.out.symm
            obtain ⟨m, hm⟩ : ∃ x, a + B = x := ⟨_, rfl⟩
            have waB : IntKind.i64.wrap ((a : Int) + (B : Int)) = (m : Int) := by rw [IntKind.wrap_i64]; omega
            have Hm := Bx.mk hm
            clear hm
            have hbB := Hb.out
            have hmB := Hm.out
            have hCB := HC.out
            have hmm : a < m ∧ m < b := by omega
            by_cases hlt2 : b ≤ n
            · have hlt2I : (b : Int) ≤ (n : Int) := by omega
              obtain ⟨b2, hb2⟩ : ∃ x, b + C = x := ⟨_, rfl⟩
              have wb : IntKind.i64.wrap ((b : Int) + (C : Int)) = (b2 : Int) := by rw [IntKind.wrap_i64]; omega
              have Hb2 := Bx.mk hb2
              have hbl : b - a ≤ 2 * B := by omega
              have s1 := HM.out.one (by omega)
              have s2 := HM.out.two hlt2 (Nat.le_of_eq hbB)
              rw [hmB] at s1 s2
              have CI := Bx.mk (symE_any (2 * B) HR.out n c a m b hbl HN1.out hmm.1 hmm.2 hlt2 hsz s1 s2)
              clear s1 s2 hbB hmB hCB hb2 hbl
              repeat' (first | (go_at_call 71; (with_reducible refine (CI.out).mono ?_); rintro e1 w1 ⟨rfl, d2, R2, U2, P2, S2⟩; dsimp only) | go_values | go_skip | go_guarded | go_step | go_upon | go_back)
              have HP2 := Bx.mk (permIn_trans _ _ _ _ _ HP.out (permIn_mono _ _ _ _ _ _ (Nat.zero_le _) hlt2 hb1 P2))
              have HM2 := Bx.mk (show Ss.Mid ltE n B (t + 1) b d2 by rw [Hb.out] at P2 S2 ⊢; exact HM.out.step P2 S2)
              have hb3 := Hb2.out
              have hC3 := HC.out
              refine met_loop (by assumption) (by kernel_rfl) (by kernel_rfl) ?rel
              case' rel => try dsimp only [slotsOf, List.getD_cons_succ, List.getD_cons_zero]
              case rel => exact ⟨_, ⟨t + 1, b, b2, d2, rfl, rfl, ⟨by omega⟩, hlt2, HM2, ⟨R2⟩, ⟨HU.out.trans U2⟩, HP2, rfl⟩, by omega⟩
            · have hlt2I : ¬ (b : Int) ≤ (n : Int) := by omega
              by_cases hlt3 : m < n
              · have hlt3I : (m : Int) < (n : Int) := by omega
                have s1 := HM.out.one (by omega)
                have s2 := HM.out.two (b := n) (Nat.le_refl _) (by omega)
                have hbl : n - a ≤ 2 * B := by omega
                rw [hmB] at s1 s2
                have CI := Bx.mk (symE_any (2 * B) HR.out n c a m n hbl HN1.out hmm.1 hlt3 (Nat.le_refl _) hsz s1 s2)
                clear s1 s2 hbB hmB hCB hbl
                repeat' (first | (go_at_call 71; (with_reducible refine (CI.out).mono ?_); rintro e1 w1 ⟨rfl, d2, R2, U2, P2, S2⟩; dsimp only) | go_values | go_skip | go_guarded | go_step | go_upon | go_back)
                have HP2 := Bx.mk (permIn_trans _ _ _ _ _ HP.out (permIn_mono _ _ _ _ _ _ (Nat.zero_le _) (Nat.le_refl _) hb1 P2))
                have hbB := Hb.out
                have hCB := HC.out
                have HB2 := Bx.mk (show Ss.Bks ltE n C d2 by
                  rw [← hCB]
                  exact Ss.Bks.last (n := n) (C := 2 * B) (fun q hq => Ss.SortedIn.of_perm (HM.out.done q hq) P2 (.inl (by have := Nat.mul_le_mul_right (2 * B) (show q + 1 ≤ t by omega); rw [Nat.succ_mul q (2 * B), ← HM.out.at_] at this; exact this))) (by rw [← HM.out.at_]; exact S2) (by rw [← HM.out.at_]; omega))
                refine met_loop (by assumption) (by kernel_rfl) (by kernel_rfl) ?rel
                case' rel => try dsimp only [slotsOf, List.getD_cons_succ, List.getD_cons_zero]
                case rel => exact ⟨_, ⟨C, d2, rfl, by omega, by omega, HB2, ⟨R2⟩, ⟨HU.out.trans U2⟩, HP2, rfl⟩, by omega⟩
              · have hlt3I : ¬ (m : Int) < (n : Int) := by omega
                clear hbB hmB hCB
                repeat' (first | fail | go_values | go_skip | go_guarded | go_step | go_upon | go_back)
                have hbB := Hb.out
                have hmB := Hm.out
                have hCB := HC.out
                have HB2 := Bx.mk (show Ss.Bks ltE n C d1 by
                  rw [← hCB]
                  exact HM.out.end_ (by omega) (fun i j q1 q2 q3 => HM.out.rest 0 i j (by omega) q2 (by omega)))
                refine met_loop (by assumption) (by kernel_rfl) (by kernel_rfl) ?rel
                case' rel => try dsimp only [slotsOf, List.getD_cons_succ, List.getD_cons_zero]
                case rel => exact ⟨_, ⟨C, d1, rfl, by omega, by omega, HB2, HR, HU, HP, rfl⟩, by omega⟩
        · have hltI : ¬ (B : Int) < (n : Int) := by omega
          repeat' (first | fail | go_values | go_skip | go_guarded | go_step | go_upon | go_back)
          go_returns
          exact ⟨rfl, d3, HR.out, HU.out, HP.out, HB.out.all (by omega)⟩
theorem stable0E_any (A : Option Addr) (c : Nat) (w : World) :
    Calls Try.prog 53 #[.slice A 0 c, .int .i64 0, .func (.func 30) #[] #[]] w fun e w' => e = .returned (.tuple #[]) ∧ w' = w := by
  have CI : Calls Try.prog 70 #[.slice A 0 c, .int .i64 0, .int .i64 0, .func (.func 30) #[] #[]] w fun e w' => e = .returned (.tuple #[]) ∧ w' = w := by
    go_enter Try.func70, Try.ntmps70
    repeat' (first | fail | go_values | go_skip | go_guarded | go_step | go_upon | go_back)
    go_loopw [8] (fun i wr => i = .int .i64 1 ∧ wr = w) (fun _ _ => 0)
    case atStart => exact ⟨rfl, rfl⟩
    case round =>
      obtain ⟨rfl, rfl⟩ := hrel
      repeat' (first | fail | go_values | go_skip | go_guarded | go_step | go_upon | go_back)
      go_returns
      exact ⟨rfl, rfl⟩
  have CB := Bx.mk CI
  clear CI
  go_enter Try.func53, Try.ntmps53
  repeat' (first | fail | go_values | go_skip | go_guarded | go_step | go_upon | go_back)
  refine wp_loopM [none, none, none, some 3, some 4, some 5, none, some 7, some 8, some 9, some 10, some 11, some 12, some 13, some 14, some 15, some 16, some 17, some 18, some 19, some 20, some 21, some 22, some 23, some 24, some 25, some 26, some 27, some 28, some 29, some 30, some 31, some 32, some 33, some 34, some 35, some 36, some 37, some 38, some 39, some 40, some 41, some 42, some 43, some 44, some 45, some 46, some 47, some 48, some 49, some 50, some 51, some 52, some 53, some 54, some 55, some 56, some 57, some 58, some 59, some 60, some 61, some 62] (fun fs wr dM => (fun av bv wr dd => av = .int .i64 0 ∧ bv = .int .i64 20 ∧ Bx (wr = w)) (fs 7) (fs 8) wr dM) (by kernel_rfl) ?atStart ?round
  case' atStart => dsimp only [slotsOf, List.getD_cons_succ, List.getD_cons_zero]
  case' round => (intro dM_ J_ K_ fs wr hrel hJ_ hK_; simp only [Mix]; generalize fs 7 = u7 at hrel ⊢; generalize fs 8 = u8 at hrel ⊢; try dsimp only at hrel)
  case atStart => exact ⟨0, rfl, rfl, ⟨rfl⟩⟩
  case round =>
    obtain ⟨rfl, rfl, hw⟩ := hrel
    obtain ⟨hw⟩ := hw
    have hw' := hw.symm
    subst hw'
    clear hw
    go_upto_block 2 with (first
      | (go_at_call 70; (with_reducible refine (CB.out).mono ?_); rintro e1 w1 ⟨rfl, hw1⟩; dsimp only))
    have hw1' := hw1.symm
    subst hw1'
    clear hw1
    repeat' (first | fail | go_values | go_skip | go_guarded | go_step | go_upon | go_back)
    refine wp_loopM [none, none, none, some 3, some 4, some 5, some 6, some 7, some 8, some 9, some 10, some 11, some 12, some 13, some 14, some 15, some 16, some 17, some 18, some 19, some 20, some 21, some 22, some 23, some 24, some 25, some 26, some 27, some 28, some 29, some 30, some 31, some 32, some 33, some 34, some 35, some 36, some 37, some 38, some 39, some 40, some 41, some 42, some 43, some 44, some 45, some 46, some 47, some 48, some 49, some 50, some 51, some 52, some 53, some 54, some 55, some 56, some 57, some 58, some 59, some 60, some 61, some 62] (fun fs wr dM => (fun av wr dd => av = .int .i64 20 ∧ Bx (wr = w)) (fs 6) wr dM) (by kernel_rfl) ?atStart ?round
    case' atStart => dsimp only [slotsOf, List.getD_cons_succ, List.getD_cons_zero]
    case' round => (intro dM_ J_ K_ fs wr hrel hJ_ hK_; simp only [Mix]; generalize fs 6 = u6 at hrel ⊢; try dsimp only at hrel)
    case atStart => exact ⟨0, rfl, ⟨rfl⟩⟩
    case round =>
      obtain ⟨rfl, hw⟩ := hrel
      obtain ⟨hw⟩ := hw
      have hw' := hw.symm
      subst hw'
      clear hw
      repeat' (first | fail | go_values | go_skip | go_guarded | go_step | go_upon | go_back)
      go_returns
      exact ⟨rfl, rfl⟩
theorem SortSE_any {w : World} {blk S : Nat} {d : Array (Nat × Option Addr × Nat × Nat)} (h : SRE blk S d w) (n c : Nat) (hn : d.size = n) (hsz : n < 1000000) :
    Calls Try.prog 29 #[.slice (some ⟨blk, 0, none⟩) n c, .func (.func 30) #[] #[]] w fun e w' => e = .returned (.tuple #[]) ∧ ∃ d', SRE blk S d' w' ∧ Upd (fun x => x = blk) w w' ∧ PermIn 0 n d d' ∧ SortedIn ltE 0 n d' := by
  have C := Bx.mk (stableE_any h n c hn hsz)
  go_enter Try.func29, Try.ntmps29
  repeat' (first | (go_at_call 53; (with_reducible refine (C.out).mono ?_); rintro e1 w1 ⟨rfl, hq⟩; dsimp only) | go_values | go_skip | go_guarded | go_step | go_upon | go_back)
  go_returns
  exact ⟨rfl, hq⟩
theorem SortS0E_any (A : Option Addr) (c : Nat) (w : World) :
    Calls Try.prog 29 #[.slice A 0 c, .func (.func 30) #[] #[]] w fun e w' => e = .returned (.tuple #[]) ∧ w' = w := by
  have C := Bx.mk (stable0E_any A c w)
  go_enter Try.func29, Try.ntmps29
  repeat' (first | (go_at_call 53; (with_reducible refine (C.out).mono ?_); rintro e1 w1 ⟨rfl, hq⟩; dsimp only) | go_values | go_skip | go_guarded | go_step | go_upon | go_back)
  go_returns
  exact ⟨rfl, hq⟩
theorem rowsE_len (l : List (Nat × Option Addr × Nat × Nat)) : (l.flatMap encE).length = l.length * 2 := by
  induction l with
  | nil => rfl
  | cons q L ih => rw [List.flatMap_cons, List.length_append, ih, List.length_cons, encE_len]; omega
theorem rowsE_get (l : List (Nat × Option Addr × Nat × Nat)) (i : Nat) (h : i < l.length) (k : Nat) (hk : k < 2) : (l.flatMap encE)[i * 2 + k]? = (encE l[i])[k]? := by
  induction l generalizing i with
  | nil => exact absurd h (Nat.not_lt_zero _)
  | cons q L ih =>
    cases i with
    | zero =>
      rw [Nat.zero_mul, Nat.zero_add, List.flatMap_cons, List.getElem?_append_left (by rw [encE_len]; exact hk)]; rfl
    | succ i =>
      have := ih i (by simpa using h)
      rw [List.flatMap_cons, List.getElem?_append_right (by rw [encE_len]; omega), encE_len, show (i + 1) * 2 + k - 2 = i * 2 + k by omega]
      exact this
theorem own_srE {w : World} {base n c g : Nat} {l : List (Nat × Option Addr × Nat × Nat)} (h : w.ownsRow base 43 2 (.slice (some ⟨g, 0, none⟩) n c) n (l.flatMap encE)) (hl : l.length = n) :
    ∃ S, SRE g S l.toArray w ∧ ∀ (d : Array (Nat × Option Addr × Nat × Nat)) (w' : World), SRE g S d w' → d.size = n → w'.ownsRow base 43 2 (.slice (some ⟨g, 0, none⟩) n c) n (d.toList.flatMap encE) := by
  have hcell : ∀ j u, (l.flatMap encE)[j]? = some u → w.cell? ((⟨g, 0, none⟩ : Addr).add j) = some u := h.cells (g := g) rfl
  obtain ⟨hlen, ⟨hv, _⟩ | ⟨g', cap, cur, hv, hbg, hg, hnc, hcm, hcs, ht⟩⟩ := h
  · cases hv
  · simp only [Value.slice.injEq, Option.some.injEq, Addr.mk.injEq, and_true, true_and] at hv
    obtain ⟨rfl, rfl⟩ := hv
    have hadd : ∀ j, (⟨g, 0, none⟩ : Addr).add j = ⟨g, j, none⟩ := fun j => by unfold Addr.add; split <;> simp_all
    refine ⟨cur.size, ⟨⟨cur, hg, rfl⟩, ?_, ?_⟩, ?_⟩
    · rw [List.size_toArray, hl, hcs]; exact Nat.mul_le_mul_right _ hnc
    · intro i hi k v hv
      rw [List.size_toArray] at hi
      have hk : k < 2 := by have := (List.getElem?_eq_some_iff.1 hv).1; rwa [encE_len] at this
      have e : l.toArray[i]! = l[i] := by simp [Array.getElem!_eq_getD, Array.getD, hi]
      rw [e] at hv
      have := hcell (i * 2 + k) v (by rw [rowsE_get l i hi k hk]; exact hv)
      rwa [hadd] at this
    · intro d w' hs hd
      obtain ⟨⟨cur', hg', hs'⟩, hfit, hat⟩ := hs
      refine ⟨by rw [rowsE_len, Array.length_toList, hd], .inr ⟨g, c, cur', rfl, hbg, hg', hnc, hcm, by rw [hs', hcs], ?_⟩⟩
      apply List.ext_getElem?
      intro j
      by_cases hj : j < n * 2
      · rw [List.getElem?_take, if_pos hj]
        have hi : j / 2 < d.size := by rw [hd]; exact Nat.div_lt_of_lt_mul (by omega)
        have hk : j % 2 < 2 := Nat.mod_lt _ (by omega)
        have hjj : j / 2 * 2 + j % 2 = j := by omega
        have e : d[j / 2]! = d.toList[j / 2]'(by rw [Array.length_toList]; exact hi) := by simp [Array.getElem!_eq_getD, Array.getD, hi]
        have hrow := rowsE_get d.toList (j / 2) (by rw [Array.length_toList]; exact hi) (j % 2) hk
        rw [hjj] at hrow
        obtain ⟨q, hq⟩ : ∃ q, d.toList[j / 2]'(by rw [Array.length_toList]; exact hi) = q := ⟨_, rfl⟩
        rw [hq] at hrow e
        have hv := List.getElem?_eq_getElem (l := encE q) (i := j % 2) (by rw [encE_len]; exact hk)
        rw [hrow, hv]
        have := hat (j / 2) hi (j % 2) _ (by rw [e]; exact hv)
        rw [hjj, World.cell?, hg'] at this
        simpa using this
      · rw [List.getElem?_take, if_neg hj]
        exact (List.getElem?_eq_none (by rw [rowsE_len, Array.length_toList, hd]; omega)).symm
theorem sorted_pairwiseE {d : Array (Nat × Option Addr × Nat × Nat)} {n : Nat} (hn : d.size = n) (h : SortedIn ltE 0 n d) : d.toList.Pairwise (fun x y => x.1 ≤ y.1) := by
  rw [List.pairwise_iff_getElem]
  intro i j hi hj hij
  rw [Array.length_toList] at hi hj
  have := h i j (Nat.zero_le _) hij (by omega)
  have e1 : d[i]! = d[i] := by simp [Array.getElem!_eq_getD, Array.getD, hi]
  have e2 : d[j]! = d[j] := by simp [Array.getElem!_eq_getD, Array.getD, hj]
  rw [e1, e2] at this
  have := of_decide_eq_false this
  simp only [Array.getElem_toList]
  omega
theorem sortE_any {w : World} {base : Nat} {A : Option Addr} {n c : Nat} {l : List (Nat × Option Addr × Nat × Nat)} (h : w.ownsRow base 43 2 (.slice A n c) n (l.flatMap encE)) (hl : l.length = n) (hn : n < 1000000) :
    Calls Try.prog 29 #[.slice A n c, .func (.func 30) #[] #[]] w fun e w' => e = .returned (.tuple #[]) ∧ ∃ l', w'.ownsRow base 43 2 (.slice A n c) n (l'.flatMap encE) ∧ l.Perm l' ∧ l'.Pairwise (fun x y => x.1 ≤ y.1) ∧ Upd (fun b => (Value.slice A n c).ownBlock = some b) w w' := by
  by_cases hz : 0 < n
  · obtain ⟨g, c', e, _⟩ := own_some h hz
    simp only [Value.slice.injEq] at e
    obtain ⟨rfl, _, rfl⟩ := e
    obtain ⟨S, hs, back⟩ := own_srE h hl
    refine (SortSE_any hs n c (by rw [List.size_toArray]; exact hl) hn).mono ?_
    rintro e w' ⟨rfl, d', R, U, P, O⟩
    have hd : d'.size = n := P.1.trans (by rw [List.size_toArray]; exact hl)
    refine ⟨rfl, d'.toList, back d' w' R hd, ?_, sorted_pairwiseE hd O, U.mono fun b hb => by subst hb; rfl⟩
    have p := P.2.2
    have e1 : d'.extract 0 n = d' := by rw [← hd]; exact Array.extract_size
    have e2 : l.toArray.extract 0 n = l.toArray := by rw [← hl, ← List.size_toArray]; exact Array.extract_size
    rw [e1, e2] at p
    exact p.symm
  · obtain rfl : n = 0 := by omega
    refine (SortS0E_any A c w).mono ?_
    rintro e w' ⟨rfl, hw⟩
    rw [hw]
    obtain rfl : l = [] := List.eq_nil_of_length_eq_zero hl
    exact ⟨rfl, [], h, List.Perm.refl _, List.Pairwise.nil, Upd.refl _ _⟩
end Go.Proofs.Ytdnkdmdmekdfkaa
