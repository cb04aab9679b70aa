/- The law of ranges. -/
import Derived.Test.YtdcebkilekdllaaNm3
namespace Go.Proofs.Ytdcebkilekdllaa
open Go.RowKit

set_option maxHeartbeats 4000000 in
theorem refIn_any (n lo hi : Int) (w : World) (h1 : -9223372036854775808 ≤ n) (h2 : n ≤ 9223372036854775807) (h3 : -9223372036854775808 ≤ lo) (h4 : lo ≤ 9223372036854775807) (h5 : -9223372036854775808 ≤ hi) (h6 : hi ≤ 9223372036854775807) :
    Calls Try.prog 18 #[.int .i64 n, .int .i64 lo, .int .i64 hi] w fun e w' => ∃ vx, e = .returned (.tuple #[vx, .int .i64 (inE n lo hi)]) ∧ w'.ownsRow 0 4 1 vx (inL n lo hi).length (bools (inL n lo hi)) ∧ New w w' := by
  by_cases hr : hi < lo
  · have HE := Bx.mk (show inE n lo hi = 1 from if_pos hr)
    have HR := Bx.mk (show inL n lo hi = [] by rw [inL, if_pos (.inl hr)])
    rw [HE.out, HR.out]
    clear h1 h2 h3 h4 h5 h6
    go_enter Try.func18, Try.ntmps18
    repeat' (first | fail | go_values | go_skip | go_guarded | go_step | go_upon | go_back)
    go_returns
    exact ⟨_, rfl, World.ownsRow_nil _ _ _ _, Upd.refl _ _⟩
  by_cases ho : n < lo ∨ hi < n
  · have HE := Bx.mk (show inE n lo hi = 5 by rw [inE, if_neg hr, if_pos ho])
    have HR := Bx.mk (show inL n lo hi = [] by rw [inL, if_pos (.inr ho)])
    rw [HE.out, HR.out]
    clear h1 h2 h3 h4 h5 h6
    by_cases hn : n < lo
    · clear ho
      go_enter Try.func18, Try.ntmps18
      repeat' (first | fail | go_values | go_skip | go_guarded | go_step | go_upon | go_back)
      go_returns
      exact ⟨_, rfl, World.ownsRow_nil _ _ _ _, Upd.refl _ _⟩
    · have hn2 : hi < n := by omega
      clear ho
      go_enter Try.func18, Try.ntmps18
      repeat' (first | fail | go_values | go_skip | go_guarded | go_step | go_upon | go_back)
      go_returns
      exact ⟨_, rfl, World.ownsRow_nil _ _ _ _, Upd.refl _ _⟩
  · have HE := Bx.mk (show inE n lo hi = 0 by rw [inE, if_neg hr, if_neg ho])
    have hlt := in_lt n lo hi (by omega) (by omega) h3 h6
    have hw64 := wid_le lo hi
    have HR := Bx.mk (show inL n lo hi = Bi.numBits (n - lo).toNat (wid lo hi) by rw [inL, if_neg (by omega)])
    rw [HE.out, HR.out]
    have e : IntKind.u64.wrap (IntKind.u64.wrap n - IntKind.u64.wrap lo) = n - lo := by
      rw [IntKind.wrap_u64, IntKind.wrap_u64, IntKind.wrap_u64]; omega
    obtain ⟨x, hx⟩ : ∃ x : Nat, n - lo = x := ⟨(n - lo).toNat, by omega⟩
    have hxl : x < 18446744073709551616 := by omega
    rw [hx] at e
    rw [hx, Int.toNat_natCast] at hlt
    rw [hx, Int.toNat_natCast]
    have HQ := Bx.mk (numRes [] x (wid lo hi) hw64 hlt (by simp; omega))
    have HW := Bx.mk (fun w => refWidth_any lo hi w h3 h4 h5 h6)
    have hge : lo ≤ n := by omega
    have hle : n ≤ hi := by omega
    have hlh : lo ≤ hi := by omega
    generalize wid lo hi = d at *
    have HP := Bx.mk (fun w => refPut_any (.slice none 0 0) [] 0 x d w hxl (by omega) (by omega) rfl (by omega) (World.ownsRow_nil _ _ _ _))
    clear hr ho h1 h2 h3 h4 h5 h6
    go_enter Try.func18, Try.ntmps18
    repeat' (first | (first | (go_at_call 24; go_loud ((with_reducible refine (HW.out _).mono ?_); rintro e w2 ⟨rfl, rfl⟩; dsimp only)) | (go_at_call 41; go_loud ((with_reducible refine (HP.out _).mono ?_); rintro e w4 ⟨v4, rfl, ho4, hu4⟩; dsimp only))) | go_values | go_skip | go_guarded | go_step | go_upon | go_back)
    go_returns
    rw [HQ.out, List.nil_append] at ho4
    exact ⟨_, rfl, ho4, hu4⟩

set_option maxHeartbeats 4000000 in
theorem ranges_any (A : Option Addr) (la ca : Nat) (xs : List (BitVec 8)) (n lo hi : Int) (w : World) (hl : xs.length = la) (hx : Rd w A (u8s xs)) (h1 : -9223372036854775808 ≤ n) (h2 : n ≤ 9223372036854775807) (h3 : -9223372036854775808 ≤ lo) (h4 : lo ≤ 9223372036854775807) (h5 : -9223372036854775808 ≤ hi) (h6 : hi ≤ 9223372036854775807) :
    Calls Try.prog 5 #[.slice A la ca, .int .i64 n, .int .i64 lo, .int .i64 hi] w fun e w' => e = .returned (.bool true) ∧ New w w' := by
  have HI := Bx.mk (fun w => refIn_any n lo hi w h1 h2 h3 h4 h5 h6)
  have HP := Bx.mk (fun {w : World} {g : Nat} {v : Value} {L : List Bool} (h : IsW w 0 g v L) (hL : L.length ≤ 1000) => PutIn_any h (Nat.zero_le _) hL n lo hi h1 h2 h3 h4 h5 h6)
  have HW := Bx.mk (fun w => Width_any lo hi w h3 h4 h5 h6)
  have HV := Bx.mk (fun w => refWidth_any lo hi w h3 h4 h5 h6)
  have HL := Bx.mk hl
  have hle := inL_le n lo hi
  generalize inE n lo hi = E at *
  generalize inL n lo hi = I at *
  generalize wid lo hi = d at *
  obtain ⟨li, hli⟩ : ∃ li, I.length = li := ⟨_, rfl⟩
  rw [hli] at HI hle
  have BI := Bx.mk hli
  clear hl h1 h2 h3 h4 h5 h6 hli
  go_enter Try.func5, Try.ntmps5
  repeat' (first | (first
    | (go_at_call 11; go_loud ((with_reducible refine (awake_any _).mono ?_); rintro e w1 ⟨rfl, hu1⟩; dsimp only))
    | (go_at_call 17; go_loud ((with_reducible refine (written_any A la ca xs _ HL.out (hx.new hu1)).mono ?_); rintro e w2 ⟨g, v, vx, X, rfl, hX60, hox, hW, hu2, hg, hv, hvx⟩; dsimp only))
    | (go_at_call 18; go_loud ((with_reducible refine (HI.out _).mono ?_); rintro e w3 ⟨vi, rfl, hoi, hu3⟩; have hW3 := hW.new hu3; have hox3 := own_new hox hu3; dsimp only))
    | (go_at_call 19; go_loud ((with_reducible refine (HP.out hW3 (by omega)).mono ?_); rintro e w4 ⟨rfl, v4, hW4, hU4⟩; have hox4 := hU4.row hW3 hox3; have hoi4 := hU4.row hW3 hoi; have hs4 := own_src (P := Try.prog) Try.underlying31 hoi4 (by intro u hu; obtain ⟨_, _, rfl⟩ := List.mem_map.1 hu; rfl); have hlim : X.length ≤ 60 := hX60; dsimp only))
    | (at_builtin; go_loud (refine wpList_appB rfl _ _ 31 31 rfl _ 4 (.bool false) 1 1 Try.underlying31 infob rfl _ _ _ hox4 rfl _ _ _ hs4 rfl (Nat.zero_le _) ?c1 ?c2 ?_; (case c1 => unfold maxLen; omega); (case c2 => omega); intro v9 w9 ho9 hk9 hwh9; have hW9 : IsW w9 0 g v4 (X ++ I) := IsV.upd hW4 hk9 (fun q => own_obj_ne hox4 hW4.obj (by decide) q) (fun b hb q => own_apart hox4 hW4.row (by decide) b q hb); rw [← bools_append] at ho9; (obtain ⟨A9, c9, rfl, hc9, _, hr9, _⟩ := own_rd ho9); have hlen9 : (X ++ I).length = X.length + li := (by rw [List.length_append, BI.out])))
    | (go_at_call 20; go_loud ((with_reducible refine (Len_e hW9 _ rfl).mono ?_); rintro e w10 ⟨rfl, rfl⟩; rw [hlen9]; dsimp only))
    | (go_at_call 22; go_loud ((with_reducible refine (Bytes_e hW9 (by omega) _ rfl _ rfl).mono ?_); rintro e w11 ⟨v11, rfl, ho11, hu11⟩; (obtain ⟨A11, c11, rfl, _, _, hr11, _⟩ := own_rd ho11); have hr9' := hr9.new hu11; dsimp only))
    | (go_at_call 23; go_loud ((with_reducible refine (refBytes_any A9 c9 _ (X ++ I) _ hlen9 (by omega) hr9').mono ?_); rintro e w12 ⟨v12, rfl, ho12, hu12⟩; (obtain ⟨A12, c12, rfl, _, _, hr12, _⟩ := own_rd ho12); have hr11' := hr11.new hu12; dsimp only))
    | (go_at_call 21; go_loud ((with_reducible refine (Same_e _ _ _ _ _ _ _ _ _ (Bi.pack_length (X ++ I)) (Bi.pack_length (X ++ I)) hr11' hr12 true (decide_eq_true rfl)).mono ?_); rintro e w13 ⟨rfl, rfl⟩; dsimp only))
    | (go_at_call 12; go_loud ((with_reducible refine (HW.out _).mono ?_); rintro e w14 ⟨rfl, rfl⟩; dsimp only))
    | (go_at_call 24; go_loud ((with_reducible refine (HV.out _).mono ?_); rintro e w15 ⟨rfl, rfl⟩; dsimp only))) | go_values | go_skip | go_guarded | go_step | go_upon | go_back)
  go_ret
  have n2 := hu1.trans hu2
  have z1 := hu1.size
  obtain ⟨n4, b4⟩ := hU4.fresh (n2.trans hu3) (Nat.le_trans z1 hg) (fun b hb => Nat.le_trans z1 (hv b hb))
  exact ⟨rfl, ((n4.then hk9 (fun b hb => .inr (Nat.le_trans z1 (hvx b hb)))).trans hu11).trans hu12⟩
end Go.Proofs.Ytdcebkilekdllaa
