/- Numbers of a range; a writer with bits ahead. -/
import Derived.Test.YtdcebkilekdllaaNm1
namespace Go.Proofs.Ytdcebkilekdllaa
open Go.RowKit

theorem bitLen_iff (k : Nat) : ∀ x, x < 18446744073709551616 → (Lib.bitLen x ≤ k ↔ x < 2 ^ k) := by
  induction k with
  | zero =>
    intro x hx
    rcases Nat.eq_zero_or_pos x with rfl | h
    · simp [bitLen_zero]
    · have := bitLen_half x h hx
      constructor <;> intro h2
      · omega
      · simp at h2; omega
  | succ k ih =>
    intro x hx
    rcases Nat.eq_zero_or_pos x with rfl | h
    · simp [bitLen_zero, Nat.pow_pos]
    · rw [bitLen_half x h hx, Nat.add_le_add_iff_right, ih (x / 2) (by omega), Nat.pow_succ, Nat.div_lt_iff_lt_mul (by omega)]
theorem bitLen_lt (x : Nat) (hx : x < 18446744073709551616) : x < 2 ^ Lib.bitLen x := (bitLen_iff _ x hx).1 (Nat.le_refl _)
theorem wid_le (lo hi : Int) : wid lo hi ≤ 64 := by unfold wid; split; omega; exact bitLen_le _
theorem numErr (L : List Bool) (x k : Nat) (hk : k ≤ 64) (hx : x < 2 ^ k) (hL : L.length + k ≤ 1048576) : Bi.putErr L x k = 0 := by
  unfold Bi.putErr
  rw [if_neg (by omega), if_neg (by simp [Nat.div_eq_of_lt hx]), if_neg (by simp; omega)]
theorem numRes (L : List Bool) (x k : Nat) (hk : k ≤ 64) (hx : x < 2 ^ k) (hL : L.length + k ≤ 1048576) : Bi.putRes L x k = L ++ Bi.numBits x k := by
  rw [Bi.putRes, if_pos (numErr L x k hk hx hL)]; rfl
theorem own_obj_ne {w : World} {base e size n g T : Nat} {v : Value} {xs : List Value} {cs : Array Value} {fz : Nat × Nat} (h : w.ownsRow base e size v n xs) (hg : w.heap[g]? = some (.cells cs T fz)) (hne : e ≠ T) : ¬ v.ownBlock = some g := by
  intro hb
  obtain ⟨hl, ⟨rfl, _⟩ | ⟨g3, cap, cur, rfl, _, hh, r⟩⟩ := h
  · cases hb
  · simp only [Value.ownBlock, Option.some.injEq] at hb
    subst hb
    rw [hg] at hh
    injection hh with hh
    injection hh with _ hh
    exact hne hh.symm
theorem Wrote.row {wa wb : World} {base g : Nat} {v v' u : Value} {L : List Bool} {b2 n : Nat} {xs : List Value} (hU : Wrote base g v v' wa wb) (hW : IsW wa base g v L) (h : wa.ownsRow b2 4 1 u n xs) : wb.ownsRow b2 4 1 u n xs := by
  refine own_upd h hU.upd ?_
  rintro b hb (q | q)
  · exact own_obj_ne h hW.obj (by decide) (q ▸ hb)
  · exact own_apart h hW.row (by decide) b hb q

set_option maxHeartbeats 4000000 in
theorem written3_any (A : Option Addr) (n c : Nat) (xs : List (BitVec 8)) (w : World) (hl : xs.length = n) (hx : Rd w A (u8s xs)) :
    Calls Try.prog 17 #[.slice A n c] w fun e w' => ∃ (g : Nat) (v vx : Value) (X : List Bool), e = .returned (.tuple #[.pointer (some ⟨g, 0, none⟩), vx]) ∧ X.length ≤ 60 ∧ w'.ownsRow 0 4 1 vx X.length (bools X) ∧ IsW w' 0 g v X ∧ New w w' ∧ w.heap.size ≤ g ∧ (∀ b, v.ownBlock = some b → w.heap.size ≤ b) ∧ (∀ b, vx.ownBlock = some b → w.heap.size ≤ b) ∧ ∃ j, X.length = 3 * j := by
  have HL := Bx.mk hl
  clear hl
  go_enter Try.func17, Try.ntmps17
  repeat' (first | (go_at_call 38; go_loud ((with_reducible refine (New_any _).mono ?_); rintro e w2 ⟨rfl, hu2, hW2, -⟩; dsimp only)) | go_values | go_skip | go_guarded | go_step | go_upon | go_back)
  have hg := Nat.le_refl w.heap.size
  generalize hgg : w.heap.size = g at hW2
  have BG := Bx.mk (show w.heap.size ≤ g by omega)
  clear hgg hg
  go_loopw [5, 11] (fun x i wr => ∃ (k : Nat) (vx v : Value) (X : List Bool) (nx : Nat), k ≤ n ∧ i = .int .i64 k ∧ x = vx ∧ X.length = nx ∧ nx = 3 * k ∧ nx ≤ 60 ∧ wr.ownsRow 0 4 1 vx nx (bools X) ∧ IsW wr 0 g v X ∧ New w wr ∧ (∀ b, v.ownBlock = some b → w.heap.size ≤ b) ∧ ∀ b, vx.ownBlock = some b → w.heap.size ≤ b) (fun _ i _ => n - (intOf i).toNat)
  case atStart => exact ⟨0, _, _, [], 0, by omega, rfl, rfl, rfl, by omega, by omega, World.ownsRow_nil _ _ _ _, hW2 0, hu2, (fun b hb => by cases hb), fun b hb => by cases hb⟩
  case round =>
    obtain ⟨k, vx, v, X, nx, hk, rfl, rfl, hX, hnx, hn60, hox, hW, hN, hv, hvx⟩ := hrel
    by_cases hlt : k < n
    · obtain ⟨b0, off, rfl, hcell⟩ := u8s_at (hx.new hN) k (by rw [HL.out]; exact hlt)
      generalize xs[k]'(by rw [HL.out]; exact hlt) = y at hcell
      by_cases h20 : 20 ≤ k
      · repeat' (first | fail | go_values | go_skip | go_guarded | go_step | go_upon | go_back)
        go_returns
        exact ⟨g, v, _, X, rfl, by omega, hX ▸ hox, hW, hN, BG.out, hv, hvx, k, by omega⟩
      · have hy8 : (y.toNat : Int) % 8 = ((y.toNat % 8 : Nat) : Int) := by omega
        have hlt8 : y.toNat % 8 < 2 ^ 3 := by omega
        have HE := Bx.mk (show Bi.putErr X (y.toNat % 8) 3 = 0 from numErr X (y.toNat % 8) 3 (by omega) hlt8 (by omega))
        have HR := Bx.mk (show Bi.putRes X (y.toNat % 8) 3 = X ++ Bi.numBits (y.toNat % 8) 3 from numRes X (y.toNat % 8) 3 (by omega) hlt8 (by omega))
        have hyb : y.toNat % 8 < 18446744073709551616 := by omega
        generalize y.toNat % 8 = z at *
        have BX := Bx.mk hX
        have BL := Bx.mk (show X.length ≤ 1048576 by omega)
        have BR := Bx.mk (fun w ho => refPut_w u5 X nx z 3 w hyb (by decide) (by decide) hX (by omega) ho)
        clear hX
        repeat' (first | (first
          | (go_at_call 40; go_loud ((with_reducible refine (Put_e hW (Nat.zero_le _) BL.out z hyb _ 3 rfl (by decide) (by decide) 0 HE.out _ HR.out).mono ?_); rintro e w4 ⟨rfl, v4, hW4, hU4⟩; have hox4 := hU4.row hW hox; dsimp only))
          | (go_at_call 41; go_loud ((with_reducible refine (BR.out _ hox4).mono ?_); rintro e w5 ⟨v5, rfl, ho5, hu5, hw5⟩; dsimp only))) | go_values | go_skip | go_guarded | go_step | go_upon | go_back)
        go_roundw
        case rel =>
          obtain ⟨n4, b4⟩ := hU4.fresh hN BG.out hv
          have hlen : (X ++ Bi.numBits z 3).length = nx + 3 := by rw [List.length_append, Bi.numBits_length, BX.out]
          rw [HR.out] at ho5
          exact ⟨k + 1, v5, v4, X ++ Bi.numBits z 3, nx + 3, by omega, by go_num, rfl, hlen, by omega, by omega, by rw [← hlen]; exact ho5, hW4.new hu5, n4.trans hu5, b4, fun b hb => (hw5 b hb).elim (fun q => hvx b q) (fun q => Nat.le_trans n4.size q)⟩
        case measure => simp [intOf]; omega
    · obtain rfl : k = n := by omega
      repeat' (first | fail | go_values | go_skip | go_guarded | go_step | go_upon | go_back)
      go_returns
      exact ⟨g, v, _, X, rfl, by omega, hX ▸ hox, hW, hN, BG.out, hv, hvx, k, by omega⟩
theorem written_any (A : Option Addr) (n c : Nat) (xs : List (BitVec 8)) (w : World) (hl : xs.length = n) (hx : Rd w A (u8s xs)) :
    Calls Try.prog 17 #[.slice A n c] w fun e w' => ∃ (g : Nat) (v vx : Value) (X : List Bool), e = .returned (.tuple #[.pointer (some ⟨g, 0, none⟩), vx]) ∧ X.length ≤ 60 ∧ w'.ownsRow 0 4 1 vx X.length (bools X) ∧ IsW w' 0 g v X ∧ New w w' ∧ w.heap.size ≤ g ∧ (∀ b, v.ownBlock = some b → w.heap.size ≤ b) ∧ ∀ b, vx.ownBlock = some b → w.heap.size ≤ b :=
  (written3_any A n c xs w hl hx).mono fun _ _ ⟨g, v, vx, X, a1, a2, a3, a4, a5, a6, a7, a8, _⟩ => ⟨g, v, vx, X, a1, a2, a3, a4, a5, a6, a7, a8⟩

/-- a number's bits in a range; or the error -/
def inL (n lo hi : Int) : List Bool := if hi < lo ∨ n < lo ∨ hi < n then [] else Bi.numBits (n - lo).toNat (wid lo hi)
def inE (n lo hi : Int) : Int := if hi < lo then 1 else if n < lo ∨ hi < n then 5 else 0
theorem in_lt (n lo hi : Int) (h1 : lo ≤ n) (h2 : n ≤ hi) (h3 : -9223372036854775808 ≤ lo) (h4 : hi ≤ 9223372036854775807) : (n - lo).toNat < 2 ^ wid lo hi := by
  rw [wid_pos (by omega)]
  exact Nat.lt_of_le_of_lt (by omega) (bitLen_lt (hi - lo).toNat (by omega))
theorem inL_le (n lo hi : Int) : (inL n lo hi).length ≤ 64 := by
  unfold inL; split
  · simp
  · rw [Bi.numBits_length]; exact wid_le lo hi

set_option maxHeartbeats 4000000 in
theorem PutIn_any {w : World} {base g : Nat} {v : Value} {L : List Bool} (h : IsW w base g v L) (hb : base ≤ w.heap.size) (hL : L.length ≤ 1000) (n lo hi : Int) (h1 : -9223372036854775808 ≤ n) (h2 : n ≤ 9223372036854775807) (h3 : -9223372036854775808 ≤ lo) (h4 : lo ≤ 9223372036854775807) (h5 : -9223372036854775808 ≤ hi) (h6 : hi ≤ 9223372036854775807) :
    Calls Try.prog 19 #[.pointer (some ⟨g, 0, none⟩), .int .i64 n, .int .i64 lo, .int .i64 hi] w fun e w' => e = .returned (.int .i64 (inE n lo hi)) ∧ ∃ v', IsW w' base g v' (L ++ inL n lo hi) ∧ Wrote base g v v' w w' := by
  by_cases hr : hi < lo
  · have HE := Bx.mk (show inE n lo hi = 1 from if_pos hr)
    have HR := Bx.mk (show L ++ inL n lo hi = L by rw [inL, if_pos (.inl hr), List.append_nil])
    rw [HE.out, HR.out]
    clear h1 h2 h3 h4 h5 h6
    go_enter Try.func19, Try.ntmps19
    repeat' (first | fail | go_values | go_skip | go_guarded | go_step | go_upon | go_back)
    go_ret
    exact ⟨rfl, v, h, Upd.refl _ _, fun _ q => .inl q⟩
  by_cases ho : n < lo ∨ hi < n
  · have HE := Bx.mk (show inE n lo hi = 5 by rw [inE, if_neg hr, if_pos ho])
    have HR := Bx.mk (show L ++ inL n lo hi = L by rw [inL, if_pos (.inr ho), List.append_nil])
    rw [HE.out, HR.out]
    clear h1 h2 h3 h4 h5 h6
    by_cases hn : n < lo
    · clear ho
      go_enter Try.func19, Try.ntmps19
      repeat' (first | fail | go_values | go_skip | go_guarded | go_step | go_upon | go_back)
      go_ret
      exact ⟨rfl, v, h, Upd.refl _ _, fun _ q => .inl q⟩
    · have hn2 : hi < n := by omega
      clear ho
      go_enter Try.func19, Try.ntmps19
      repeat' (first | fail | go_values | go_skip | go_guarded | go_step | go_upon | go_back)
      go_ret
      exact ⟨rfl, v, h, Upd.refl _ _, fun _ q => .inl q⟩
  · have HE := Bx.mk (show inE n lo hi = 0 by rw [inE, if_neg hr, if_neg ho])
    have hlt := in_lt n lo hi (by omega) (by omega) h3 h6
    have hw64 := wid_le lo hi
    have HR := Bx.mk (show inL n lo hi = Bi.numBits (n - lo).toNat (wid lo hi) by rw [inL, if_neg (by omega)])
    rw [HE.out, HR.out]
    have e : IntKind.u64.wrap (IntKind.u64.wrap n - IntKind.u64.wrap lo) = n - lo := by
      rw [IntKind.wrap_u64, IntKind.wrap_u64, IntKind.wrap_u64]; omega
    obtain ⟨x, hx⟩ : ∃ x : Nat, n - lo = x := ⟨(n - lo).toNat, by omega⟩
    have hxl : x < 18446744073709551616 := by omega
    rw [hx] at e
    rw [hx, Int.toNat_natCast] at hlt
    rw [hx, Int.toNat_natCast]
    have HP := Bx.mk (numErr L x (wid lo hi) hw64 hlt (by omega))
    have HQ := Bx.mk (numRes L x (wid lo hi) hw64 hlt (by omega))
    have HW := Bx.mk (fun w => Width_any lo hi w h3 h4 h5 h6)
    have BL := Bx.mk (show L.length ≤ 1048576 by omega)
    have hge : lo ≤ n := by omega
    have hle : n ≤ hi := by omega
    have hlh : lo ≤ hi := by omega
    generalize wid lo hi = d at *
    clear hr ho h1 h2 h3 h4 h5 h6
    go_enter Try.func19, Try.ntmps19
    repeat' (first | (first | (go_at_call 12; go_loud ((with_reducible refine (HW.out _).mono ?_); rintro e w2 ⟨rfl, rfl⟩; dsimp only)) | (go_at_call 40; go_loud ((with_reducible refine (Put_e h hb BL.out x hxl _ d rfl (by omega) (by omega) 0 HP.out _ HQ.out).mono ?_); rintro e w4 ⟨rfl, v4, hW4, hU4⟩; dsimp only))) | go_values | go_skip | go_guarded | go_step | go_upon | go_back)
    go_ret
    exact ⟨rfl, v4, hW4, hU4⟩
end Go.Proofs.Ytdcebkilekdllaa
