/- The law of numbers in groups. -/
import Derived.Test.YtdcebkilekdllaaNm10
namespace Go.Proofs.Ytdcebkilekdllaa
open Go.RowKit

theorem varBits_length (x : Nat) : (varBits x).length = 5 * grp x := varTo_length _ _ _
theorem pv_ok (L : List Bool) (x : Nat) (hL : L.length ≤ 1000) : pvErr L x = 0 ∧ pvRes L x = L ++ varBits x := by
  have h := grp_bd x
  have hE : pvErr L x = 0 := by rw [pvErr, if_neg (by omega)]
  exact ⟨hE, by rw [pvRes, if_pos hE]⟩
theorem PutInt_e {w : World} {base g : Nat} {v : Value} {L : List Bool} (h : IsW w base g v L) (hb : base ≤ w.heap.size) (hL : L.length ≤ 1000) (n : Int) (h1 : -9223372036854775808 ≤ n) (h2 : n ≤ 9223372036854775807) (z : Nat) (hz : zig n = z) (hzl : z < 18446744073709551616) :
    Calls Try.prog 35 #[.pointer (some ⟨g, 0, none⟩), .int .i64 n] w fun e w' => e = .returned (.int .i64 0) ∧ ∃ v', IsW w' base g v' (L ++ varBits z) ∧ Wrote base g v v' w w' := by
  have := PutInt_any h hb (by omega) n h1 h2 z hz hzl
  rwa [(pv_ok L z hL).1, (pv_ok L z hL).2] at this

theorem GetVar_e {w : World} {g a : Nat} {v : Value} {P : List (BitVec 8)} (h : IsR w g v P a) (R : List Bool) (hR : (Bi.bitsOf P).drop a = R) (ha : a ≤ 8 * P.length) (hm : P.length ≤ 1000000) (x : Nat) (T : List Bool) (hg : gv 16 0 0 R = (0, x, T)) :
    Calls Try.prog 33 #[.pointer (some ⟨g, 0, none⟩)] w fun e w' => e = .returned (.tuple #[.int .u64 x, .int .i64 0]) ∧
      ∃ a', IsR w' g v P a' ∧ (Bi.bitsOf P).drop a' = T ∧ a' ≤ 8 * P.length ∧ Upd (fun b => b = g) w w' := by
  have := GetVar_any h R hR ha hm
  rwa [gvV, gvE, gvRest, hg, if_pos rfl, if_pos rfl] at this
theorem GetInt_e {w : World} {g a : Nat} {v : Value} {P : List (BitVec 8)} (h : IsR w g v P a) (R : List Bool) (hR : (Bi.bitsOf P).drop a = R) (ha : a ≤ 8 * P.length) (hm : P.length ≤ 1000000) (x : Nat) (hx : x < 18446744073709551616) (T : List Bool) (hg : gv 16 0 0 R = (0, x, T)) (n : Int) (hn : zag x = n) :
    Calls Try.prog 32 #[.pointer (some ⟨g, 0, none⟩)] w fun e w' => e = .returned (.tuple #[.int .i64 n, .int .i64 0]) ∧
      ∃ a', IsR w' g v P a' ∧ (Bi.bitsOf P).drop a' = T ∧ a' ≤ 8 * P.length ∧ Upd (fun b => b = g) w w' := by
  have hV : gvV R = x := by rw [gvV, hg, if_pos rfl]
  have := gv_lt R x hV hx h hR ha hm
  rwa [gvE, gvRest, hg, if_pos rfl, hn] at this
theorem End_e {w : World} {g a : Nat} {v : Value} {P : List (BitVec 8)} (h : IsR w g v P a) (R : List Bool) (hR : (Bi.bitsOf P).drop a = R) (ha : a ≤ 8 * P.length) (hm : P.length ≤ 1000000) (E : Int) (hE : Bi.endErr R = E) :
    Calls Try.prog 37 #[.pointer (some ⟨g, 0, none⟩)] w fun e w' => e = .returned (.int .i64 E) ∧ New w w' := by subst hE; exact End_any h R hR ha hm
theorem end_nought (t : Nat) (h : t < 8) : Bi.endErr (List.replicate t false) = 0 := by
  rw [Bi.endErr, if_neg (by simp; omega), if_neg]
  simp

set_option maxHeartbeats 4000000 in
theorem vars_any (A : Option Addr) (la ca : Nat) (xs : List (BitVec 8)) (x : Nat) (n : Int) (w : World) (hl : xs.length = la) (hx : Rd w A (u8s xs)) (hxl : x < 18446744073709551616) (h1 : -9223372036854775808 ≤ n) (h2 : n ≤ 9223372036854775807) :
    Calls Try.prog 8 #[.slice A la ca, .int .u64 x, .int .i64 n] w fun e w' => e = .returned (.bool true) ∧ New w w' := by
  obtain ⟨z, hz, hzl⟩ : ∃ z : Nat, zig n = z ∧ z < 18446744073709551616 := ⟨(zig n).toNat, by unfold zig; split <;> omega, by unfold zig; split <;> omega⟩
  have HL := Bx.mk hl
  have CP := Bx.mk (fun {w : World} {g : Nat} {v : Value} {L : List Bool} (h : IsW w 0 g v L) (hL : L.length ≤ 1000) => PutVar_e h (Nat.zero_le _) (by omega) x x rfl hxl 0 (pv_ok L x hL).1 _ (pv_ok L x hL).2)
  have CQ := Bx.mk (fun {w : World} {g : Nat} {v : Value} {L : List Bool} (h : IsW w 0 g v L) (hL : L.length ≤ 1000) => PutInt_e h (Nat.zero_le _) hL n h1 h2 z hz hzl)
  have CZ := Bx.mk (fun w => refZig_any n w h1 h2)
  rw [hz] at CZ
  have CV := Bx.mk (fun w => refVar_any x w hxl)
  have CW := Bx.mk (fun w => refVar_any z w hzl)
  have BGx := Bx.mk (fun T => gv_var x hxl T)
  have BGz := Bx.mk (fun T => gv_var z hzl T)
  have BZz := Bx.mk (zag_zig n z hz)
  have BZl := Bx.mk hzl
  have hgx := grp_bd x
  have hgz := grp_bd z
  have BLx := Bx.mk (varBits_length x)
  have BLz := Bx.mk (varBits_length z)
  generalize varBits x = Vx at *
  generalize varBits z = Vz at *
  generalize grp x = gx at *
  generalize grp z = gz at *
  clear hl hz hzl hxl h1 h2
  go_enter Try.func8, Try.ntmps8
  repeat' (first | (first
    | (go_at_call 11; go_loud ((with_reducible refine (awake_any _).mono ?_); rintro e w1 ⟨rfl, hu1⟩; dsimp only))
    | (go_at_call 17; go_loud ((with_reducible refine (written3_any A la ca xs _ HL.out (hx.new hu1)).mono ?_); rintro e w2 ⟨g, v, vx, X, rfl, hX60, hox, hW, hu2, hg, hv, hvx, j3, hj3⟩; have BX3 := Bx.mk hj3; clear hj3; (obtain ⟨Avx, cvx, rfl, _⟩ := own_rd hox); dsimp only))
    | (go_at_call 34; go_loud ((with_reducible refine (CP.out hW (by omega)).mono ?_); rintro e w3 ⟨rfl, v3, hW3, hU3⟩; have hox3 := hU3.row hW hox; have hl3 : (X ++ Vx).length ≤ 1000 := (by rw [List.length_append, BLx.out]; omega); dsimp only))
    | (go_at_call 35; go_loud ((with_reducible refine (CQ.out hW3 hl3).mono ?_); rintro e w4 ⟨rfl, v4, hW4, hU4⟩; have hox4 := hU4.row hW3 hox3; dsimp only))
    | (have _m := hk6; (go_at_call 36; go_loud ((with_reducible refine (CW.out _).mono ?_); rintro e w8 ⟨vy, rfl, hoy, hu8⟩; have hW8 := hW6.new hu8; have ho8 := own_new ho6 hu8; have hs8 := own_src (P := Try.prog) Try.underlying31 hoy (by intro u hu; obtain ⟨_, _, rfl⟩ := List.mem_map.1 hu; rfl); dsimp only)))
    | (go_at_call 36; go_loud ((with_reducible refine (CV.out _).mono ?_); rintro e w5 ⟨vw, rfl, how, hu5⟩; have hW5 := hW4.new hu5; have hox5 := own_new hox4 hu5; have hs5 := own_src (P := Try.prog) Try.underlying31 how (by intro u hu; obtain ⟨_, _, rfl⟩ := List.mem_map.1 hu; rfl); dsimp only))
    | (go_at_call 14; go_loud ((with_reducible refine (CZ.out _).mono ?_); rintro e w7 ⟨rfl, rfl⟩; dsimp only))
    | (have _m := hW8; (at_builtin; go_loud (refine wpList_appB rfl _ _ 31 31 rfl _ 4 (.bool false) 1 1 Try.underlying31 infob rfl _ _ _ ho8 rfl _ _ _ hs8 rfl (Nat.zero_le _) ?c1 ?c2 ?_; (case c1 => unfold maxLen; omega); (case c2 => omega); intro v9 w9 ho9 hk9 hwh9; have hW9 : IsW w9 0 g v4 (X ++ (Vx ++ Vz)) := List.append_assoc X Vx Vz ▸ IsV.upd hW8 hk9 (fun q => own_obj_ne ho8 hW8.obj (by decide) q) (fun b hb q => own_apart ho8 hW8.row (by decide) b q hb); rw [← bools_append, ← bools_append, List.append_assoc] at ho9; (obtain ⟨A9, c9, rfl, hc9, _, hr9, _⟩ := own_rd ho9); have hlen9 : (X ++ (Vx ++ Vz)).length = X.length + 5 * gx + 5 * gz := (by rw [List.length_append, List.length_append, BLx.out, BLz.out, Nat.add_assoc]); have BLL := Bx.mk (show (X ++ (Vx ++ Vz)).length ≤ 1000 by omega))))
    | (at_builtin; go_loud (refine wpList_appB rfl _ _ 31 31 rfl _ 4 (.bool false) 1 1 Try.underlying31 infob rfl _ _ _ hox5 rfl _ _ _ hs5 rfl (Nat.zero_le _) ?c1 ?c2 ?_; (case c1 => unfold maxLen; omega); (case c2 => omega); intro v6 w6 ho6 hk6 hwh6; have hW6 : IsW w6 0 g v4 _ := IsV.upd hW5 hk6 (fun q => own_obj_ne hox5 hW5.obj (by decide) q) (fun b hb q => own_apart hox5 hW5.row (by decide) b q hb)))
    | (go_at_call 20; go_loud ((with_reducible refine (Len_e hW9 _ rfl).mono ?_); rintro e w10 ⟨rfl, rfl⟩; rw [hlen9]; dsimp only))
    | (have _m := hr12; (go_at_call 22; go_loud ((with_reducible refine (Bytes_e hW12 (Nat.le_trans BLL.out (by decide)) _ rfl _ rfl).mono ?_); rintro e w13 ⟨v13, rfl, ho13, hu13⟩; (obtain ⟨A13, c13, rfl, _, _, hr13, _⟩ := own_rd ho13); dsimp only)))
    | (go_at_call 22; go_loud ((with_reducible refine (Bytes_e hW9 (by have := BLL.out; omega) _ rfl _ rfl).mono ?_); rintro e w11 ⟨v11, rfl, ho11, hu11⟩; (obtain ⟨A11, c11, rfl, _, _, hr11, _⟩ := own_rd ho11); have hr9' := hr9.new hu11; have hW11 := hW9.new hu11; dsimp only))
    | (go_at_call 23; go_loud ((with_reducible refine (refBytes_any A9 c9 _ (X ++ (Vx ++ Vz)) _ hlen9 (by omega) hr9').mono ?_); rintro e w12 ⟨v12, rfl, ho12, hu12⟩; (obtain ⟨A12, c12, rfl, _, _, hr12, _⟩ := own_rd ho12); have hr11' := hr11.new hu12; have hW12 := hW11.new hu12; dsimp only))
    | (go_at_call 21; go_loud ((with_reducible refine (Same_e _ _ _ _ _ _ _ _ _ (Bi.pack_length (X ++ (Vx ++ Vz))) (Bi.pack_length (X ++ (Vx ++ Vz))) hr11' hr12 true (decide_eq_true rfl)).mono ?_); rintro e w14 ⟨rfl, rfl⟩; dsimp only))
    | (go_at_call 25; go_loud ((with_reducible refine (Read_any A13 _ c13 _ _ (Bi.pack_length (X ++ (Vx ++ Vz))) (by have := BLL.out; unfold Bi.nbytes; omega) hr13).mono ?_); rintro e w15 ⟨gr, vr, rfl, hI, hu15, hgr, -⟩; dsimp only))) | go_values | go_skip | go_guarded | go_step | go_upon | go_back)
  obtain ⟨t, ht, hT⟩ := Bi.bitsOf_pack (X ++ (Vx ++ Vz))
  have BPl := Bx.mk (show (Bi.pack (X ++ (Vx ++ Vz))).length ≤ 1000000 by rw [Bi.pack_length]; have := BLL.out; unfold Bi.nbytes; omega)
  rw [List.append_assoc, List.append_assoc] at hT
  have n2 := hu1.trans hu2
  have z1 := hu1.size
  have hvx1 : ∀ b, (Value.slice Avx X.length cvx).ownBlock = some b → w.heap.size ≤ b := fun b hb => Nat.le_trans z1 (hvx b hb)
  obtain ⟨n3, b3⟩ := hU3.fresh n2 (Nat.le_trans z1 hg) (fun b hb => Nat.le_trans z1 (hv b hb))
  obtain ⟨n4, b4⟩ := hU4.fresh n3 (Nat.le_trans z1 hg) b3
  have n5 := n4.trans hu5
  have n6 := n5.then hk6 (fun b hb => .inr (hvx1 b hb))
  have n8 := n6.trans hu8
  have hv6 : ∀ b, v6.ownBlock = some b → w.heap.size ≤ b := fun b hb => (hwh6 b hb).elim (fun q => hvx1 b q) (fun q => Nat.le_trans n5.size q)
  have n9 := n8.then hk9 (fun b hb => .inr (hv6 b hb))
  have n13 := ((n9.trans hu11).trans hu12).trans hu13
  have hgr0 : w.heap.size ≤ gr := Nat.le_trans n13.size hgr
  have n15 := n13.trans hu15
  have hj3 := BX3.out
  have hjq : (X.length : Int) / 3 = (j3 : Int) := by omega
  have hjt : (X.length : Int).tdiv 3 = (j3 : Int) := by rw [Int.tdiv_eq_ediv_of_nonneg (by omega)]; exact hjq
  have BT := Bx.mk hT
  generalize Bi.pack (X ++ (Vx ++ Vz)) = P at *
  clear hT hr13 ho13 ho11 ho12 hr11 hr11' hr12 ho9 hr9 hr9' hW9 hW11 hW12 hW8 hW6 hW5 hW4 hW3 hW ho8 ho6 hox hox3 hox4 hox5 hs5 hs8 hoy how n2 n3 n4 n5 n6 n8 n9 n13 hv6 hvx1 hU3 hU4 b3 b4 hk6 hk9 hwh6 hwh9 hv hvx hu1 hu2 hu5 hu8 hu11 hu12 hu13 hu15 hl3 hlen9 hx
  go_loopw [60] (fun i wr => ∃ (j a : Nat), j ≤ j3 ∧ i = .int .i64 j ∧ IsR wr gr vr P a ∧ (Bi.bitsOf P).drop a = X.drop (3 * j) ++ (Vx ++ (Vz ++ List.replicate t false)) ∧ a ≤ 8 * P.length ∧ New w wr) (fun i _ => j3 - (intOf i).toNat)
  case atStart => exact ⟨0, 0, by omega, rfl, hI, by rw [List.drop_zero]; exact BT.out, by omega, n15⟩
  case round =>
    obtain ⟨j, a, hj, rfl, hI, hR, ha, hN⟩ := hrel
    by_cases hlt : j < j3
    · have h3 : 3 ≤ (X.drop (3 * j)).length := by rw [List.length_drop]; omega
      have hE : Bi.getErr (X.drop (3 * j) ++ (Vx ++ (Vz ++ List.replicate t false))) 3 = 0 := by
        rw [Bi.getErr, if_neg (by omega), if_neg]
        rw [List.length_append]; omega
      have hRR : Bi.getRest (X.drop (3 * j) ++ (Vx ++ (Vz ++ List.replicate t false))) 3 = X.drop (3 * (j + 1)) ++ (Vx ++ (Vz ++ List.replicate t false)) := by
        rw [Bi.getRest, if_pos hE]
        show List.drop 3 _ = _
        rw [List.drop_append_of_le_length h3, List.drop_drop]; rfl
      have BE := Bx.mk hE
      have BRR := Bx.mk hRR
      have BH := Bx.mk hR
      clear hE hRR hR h3
      repeat' (first | (first | (go_at_call 27; go_loud ((with_reducible refine (Get_e hI _ 3 BH.out ha BPl.out (by omega) (by omega) _ 0 rfl BE.out _ BRR.out).mono ?_); rintro e w5 ⟨rfl, a', hI5, hR5, ha5, hU5⟩; dsimp only))) | go_values | go_skip | go_guarded | go_step | go_upon | go_back)
      go_roundw
      case rel => exact ⟨j + 1, a', by omega, by go_num, hI5, hR5, ha5, hN.then hU5 (fun b hb => .inr (by have hb' : b = gr := hb; omega))⟩
      case measure => simp [intOf]; omega
    · obtain rfl : j = j3 := by omega
      rw [show X.drop (3 * j) = [] from List.drop_of_length_le (by omega), List.nil_append] at hR
      have BH := Bx.mk hR
      clear hR
      repeat' (first | (first
        | (go_at_call 33; go_loud ((with_reducible refine (GetVar_e hI _ BH.out ha BPl.out x _ (BGx.out _)).mono ?_); rintro e w6 ⟨rfl, a6, hI6, hR6, ha6, hU6⟩; have BH6 := Bx.mk hR6; clear hR6; dsimp only))
        | (go_at_call 32; go_loud ((with_reducible refine (GetInt_e hI6 _ BH6.out ha6 BPl.out z BZl.out _ (BGz.out _) n BZz.out).mono ?_); rintro e w7 ⟨rfl, a7, hI7, hR7, ha7, hU7⟩; have BH7 := Bx.mk hR7; clear hR7; dsimp only))
        | (go_at_call 37; go_loud ((with_reducible refine (End_e hI7 _ BH7.out ha7 BPl.out 0 (end_nought t ht)).mono ?_); rintro e w8 ⟨rfl, hu8⟩; dsimp only))) | go_values | go_skip | go_guarded | go_step | go_upon | go_back)
      go_ret
      exact ⟨rfl, ((hN.then hU6 (fun b hb => .inr (by have hb' : b = gr := hb; omega))).then hU7 (fun b hb => .inr (by have hb' : b = gr := hb; omega))).trans hu8⟩
end Go.Proofs.Ytdcebkilekdllaa
