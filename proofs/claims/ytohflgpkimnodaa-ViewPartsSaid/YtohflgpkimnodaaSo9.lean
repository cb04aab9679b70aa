/- breakPatternsOrdered at IDs: a permutation: walked. -/
import Derived.Test.YtohflgpkimnodaaSo8
namespace Go.Proofs.Ytohflgpkimnodaa
open Go.RowKit Go.Sort
theorem pow_bitLen : ∀ (m x : Nat), x ≤ m → 0 < x → x < 2 ^ 64 → 2 ^ Lib.bitLen x ≤ 2 * x := by
  intro m
  induction m with
  | zero => intro x h h0; omega
  | succ m ih =>
    intro x h h0 h1
    rw [Lib.bitLen_half x (by omega) h1, Nat.pow_add]
    by_cases h2 : x / 2 = 0
    · rw [h2, show Lib.bitLen 0 = 0 from by decide]; omega
    · have := ih (x / 2) (by omega) (by omega) (by omega)
      omega
set_option maxRecDepth 20000 in
set_option maxHeartbeats 8000000 in
theorem break_any {w : World} {blk cap : Nat} {d : Array Nat} (h : SR blk cap d w) (n c a b : Nat) (hn : d.size = n) (hab : a + 8 ≤ b) (hb : b ≤ n) (hsz : n < 2305843009213693952) :
    Calls Try.prog 45 #[.slice (some ⟨blk, 0, none⟩) n c, .int .i64 a, .int .i64 b] w fun e w' => e = .returned (.tuple #[]) ∧ ∃ d', PermIn a b d d' ∧ SR blk cap d' w' ∧ Upd (fun x => x = blk) w w' := by
  obtain ⟨l, hl⟩ : ∃ l, b - a = l := ⟨_, rfl⟩
  obtain ⟨q, hq4⟩ : ∃ q, l / 4 = q := ⟨_, rfl⟩
  obtain ⟨j, hj⟩ : ∃ j, a + q * 2 = j := ⟨_, rfl⟩
  obtain ⟨M, hM⟩ : ∃ M, 2 ^ Lib.bitLen l = M := ⟨_, rfl⟩
  have hM2 := pow_bitLen l l (Nat.le_refl _) (by omega) (by omega)
  have hM1 : 0 < 2 ^ Lib.bitLen l := Nat.pow_pos (by decide)
  have HP := Bx.mk (fun w => nextPow_any l w (by omega) (by omega))
  rw [hM] at HP hM1 hM2
  have w1' : IntKind.i64.wrap ((b : Int) - (a : Int)) = (l : Int) := by rw [IntKind.wrap_i64]; omega
  have w2' : (l : Int) / 4 = (q : Int) := by omega
  have w3' : IntKind.i64.wrap ((q : Int) * 2) = ((q * 2 : Nat) : Int) := by rw [IntKind.wrap_i64]; omega
  have w5' : IntKind.i64.wrap ((a : Int) + (q : Int) * 2) = (j : Int) := by rw [IntKind.wrap_i64]; omega
  have w6' : IntKind.i64.wrap ((j : Int) - 1) = ((j - 1 : Nat) : Int) := by rw [IntKind.wrap_i64]; omega
  have w7' : IntKind.i64.wrap ((j : Int) + 1) = ((j + 1 : Nat) : Int) := by rw [IntKind.wrap_i64]; omega
  have w8' : IntKind.u64.wrap (l : Int) = (l : Int) := by rw [IntKind.wrap_u64]; omega
  have w9' : IntKind.u64.wrap ((M : Int) - 1) = ((M - 1 : Nat) : Int) := by rw [IntKind.wrap_u64]; omega
  obtain ⟨j0, hj0⟩ : ∃ j0, j - 1 = j0 := ⟨_, rfl⟩
  obtain ⟨j1, hj1⟩ : ∃ j1, j + 1 = j1 := ⟨_, rfl⟩
  obtain ⟨m1, hm1⟩ : ∃ m1, M - 1 = m1 := ⟨_, rfl⟩
  rw [hj0] at w6'
  rw [hj1] at w7'
  rw [hm1] at w9'
  have h8 : (8 : Int) ≤ (l : Int) := by omega
  have hbk := h.lt
  have hAl : New w (w.alloc (.cells #[.int .u64 (l : Nat)] 104)) := (Upd.refl _ w).alloc _
  have hX0 : XB w.heap.size l (w.alloc (.cells #[.int .u64 (l : Nat)] 104)) := heap_alloc_new w _
  have hne : w.heap.size ≠ blk := by omega
  have H0 := Bx.mk (h.new hAl)
  have X0 := Bx.mk hX0
  have AL := Bx.mk (New.upd (S := fun x => x = blk) hAl)
  have HS := Bx.mk hn
  clear h hX0 hAl hn hM
  obtain ⟨rb, hrb⟩ : ∃ rb, w.heap.size = rb := ⟨_, rfl⟩
  have HRB := Bx.mk hrb
  go_enter Try.func45, Try.ntmps45
  repeat' (first | (go_at_call 55; (with_reducible refine (HP.out _).mono ?_); rintro e w1 ⟨rfl, rfl⟩; dsimp only) | go_values | go_skip | go_guarded | go_step | go_upon | go_back)
  have Ha := Bx.mk hj
  have hj0b : a ≤ j0 ∧ j1 + 1 ≤ b := by omega
  have h64 : m1 < 18446744073709551616 := by omega
  have hml : m1 < 2 * l := by omega
  have hbn : b = a + l := by omega
  go_loopw [9] (fun iv wr => ∃ (i x : Nat) (d' : Array Nat), iv = .int .i64 i ∧ j0 ≤ i ∧ i ≤ j1 + 1 ∧ x < 18446744073709551616 ∧ Bx (PermIn a b d d') ∧ Bx (SR blk cap d' wr) ∧ Bx (XB rb x wr) ∧ Upd (fun x => x = blk) w wr) (fun iv _ => j1 + 1 - (intOf iv).toNat)
  case atStart => exact ⟨j0, l, d, rfl, Nat.le_refl _, by omega, by omega, ⟨permIn_refl _ _ _⟩, H0, by subst hrb; exact X0, AL.out⟩
  case round =>
    obtain ⟨i, x, d1, rfl, hi1, hi2, hx, HP1, HR, HX, hU⟩ := hrel
    have hd1 : d1.size = n := HP1.out.1.trans HS.out
    by_cases hlt : i ≤ j1
    · have hltI : (i : Int) ≤ (j1 : Int) := by omega
      have CN := Bx.mk (next_any HX.out hx)
      have hiI : (i : Int) < (n : Int) := by omega
      repeat' (first | (go_at_call 56; (with_reducible refine (CN.out).mono ?_); rintro e w2 ⟨y, rfl, hy, X2, U2⟩; have e7 := u64_and_nat y m1 hy h64; (obtain ⟨o, ho⟩ : ∃ o, y &&& m1 = o := ⟨_, rfl⟩); rw [ho] at e7; have ho2 : o ≤ m1 := (by rw [← ho]; exact Nat.and_le_right); have e8 : IntKind.i64.wrap (o : Int) = (o : Int) := (by rw [IntKind.wrap_i64]; omega); clear ho; (obtain ⟨r, hr, hro⟩ : ∃ r : Nat, r < l ∧ ((o < l ∧ o = r) ∨ (l ≤ o ∧ o = r + l)) := (by by_cases q : o < l; exact ⟨o, q, .inl ⟨q, rfl⟩⟩; exact ⟨o - l, by omega, .inr ⟨by omega, by omega⟩⟩)); have e9 : IntKind.i64.wrap ((r : Int) + (l : Int) - (l : Int)) = (r : Int) := (by rw [IntKind.wrap_i64]; omega); (rcases hro with ⟨hol, hro⟩ | ⟨hol, hro⟩); (have holI : ¬ (l : Int) ≤ (o : Int) := (by omega)); rotate_left; (have holI : (l : Int) ≤ (o : Int) := (by omega)); dsimp only; rotate_left; dsimp only) | go_values | go_skip | go_guarded | go_step | go_upon | go_back)
      all_goals
        obtain ⟨p, hp⟩ : ∃ p, a + r = p := ⟨_, rfl⟩
        have e10 : IntKind.i64.wrap ((a : Int) + (r : Int)) = (p : Int) := (by rw [IntKind.wrap_i64]; omega)
        have hpn : (p : Int) < (n : Int) := (by omega)
        have HR2 : SR blk cap d1 w2 := HR.out.blk U2 (fun q => hne (HRB.out.trans q.symm))
        have UU : Upd (fun x => x = blk) w w2 := hU.then U2 (fun b q => .inr (by rw [HRB.out]; exact Nat.le_of_eq q.symm))
        have UR := Upd.refl (fun x => x = blk) w2
        (obtain ⟨x_w5, hx_w5⟩ : ∃ x, d1[i]! = x := ⟨_, rfl⟩); (obtain ⟨y_w5, hy_w5⟩ : ∃ y, d1[p]! = y := ⟨_, rfl⟩); have c1_w5 : w2.cell? ⟨blk, i, none⟩ = some (.int .u32 (x_w5 : Nat)) := (by rw [← hx_w5]; exact HR2.cell i (by omega)); have c2_w5 : w2.cell? ⟨blk, p, none⟩ = some (.int .u32 (y_w5 : Nat)) := (by rw [← hy_w5]; exact HR2.cell p (by omega)); have f1_w5 := HR2.frz i; have f2_w5 := HR2.frz p; have HR5 := Bx.mk (HR2.swap i p x_w5 y_w5 (by omega) (by omega) hx_w5 hy_w5).drew; have HU5 := Bx.mk ((UR.setCell (p := ⟨blk, i, none⟩) (.inl rfl) (.int .u32 (y_w5 : Nat))).setCell (p := ⟨blk, p, none⟩) (.inl rfl) (.int .u32 (x_w5 : Nat))).drew; have c3_w5 := HR2.c3 i p y_w5 (by omega) (by omega) hy_w5; have f3_w5 : ∀ o, (w2.setCell ⟨blk, i, none⟩ (.int .u32 (y_w5 : Nat))).frozen? ⟨blk, o, none⟩ = false := (HR2.set i y_w5 (by omega)).frz; clear hx_w5 hy_w5; go_big_region; clear c1_w5 c2_w5 f1_w5 f2_w5 c3_w5 f3_w5; generalize ((w2.setCell ⟨blk, i, none⟩ (.int .u32 (y_w5 : Nat))).setCell ⟨blk, p, none⟩ (.int .u32 (x_w5 : Nat))).drew = w5 at *
        have X5 : XB rb y w5 := HU5.out.blk X2 (fun q => hne (HRB.out.trans q))
        have HP5 := Bx.mk (permIn_trans _ _ _ _ _ HP1.out (swp_permIn d1 a b i p (by omega) (by omega) (by omega) (by omega) (by omega)))
        have w11 : IntKind.i64.wrap ((i : Int) + 1) = ((i + 1 : Nat) : Int) := (by rw [IntKind.wrap_i64]; omega)
        repeat' (first | fail | go_values | go_skip | go_guarded | go_step | go_upon | go_back)
        go_roundw
        case rel => exact ⟨i + 1, y, swp d1 i p, rfl, by omega, by omega, hy, HP5, HR5, ⟨X5⟩, UU.trans HU5.out⟩
        case measure => simp [intOf]; omega
    · have hltI : ¬ (i : Int) ≤ (j1 : Int) := by omega
      repeat' (first | fail | go_values | go_skip | go_guarded | go_step | go_upon | go_back)
      go_returns
      exact ⟨rfl, d1, HP1.out, HR.out, hU⟩
end Go.Proofs.Ytohflgpkimnodaa
