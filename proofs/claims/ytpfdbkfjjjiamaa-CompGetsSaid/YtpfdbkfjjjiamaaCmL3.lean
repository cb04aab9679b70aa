/- CompGets: walked. -/
import Derived.Test.YtpfdbkfjjjiamaaCmG4
namespace Go.Proofs.Ytpfdbkfjjjiamaa
open Go.RowKit
theorem restAt_mk {R : List Bool} {A' : Option Addr} {c' : Nat} {w' : World} (h1 : R.length ≤ c') (h2 : c' ≤ maxLen) (h3 : A' = none → R.length = 0) (h4 : Rd w' A' (bools R)) : RestAt R A' c' w' := ⟨h1, h2, h3, h4⟩
set_option maxRecDepth 20000 in
set_option maxHeartbeats 8000000 in
theorem CompGets_any (A : Option Addr) (n c : Nat) (xs : List (BitVec 8)) (sk k8 : Nat) (w : World) (hl : xs.length = n) (hc : n ≤ c) (hA : A = none → n = 0) (hx : Rd w A (u8s xs)) (hsk : sk < 256) (hk8 : k8 < 256) :
    Calls Try.prog 4 #[.slice A n c, .int .u8 sk, .int .u8 k8] w fun e w' => e = .returned (.bool true) ∧ New w w' := by
  obtain ⟨m, hm⟩ : ∃ m, min n 40 = m := ⟨_, rfl⟩
  have hmin : min (n : Int) 40 = (m : Int) := by omega
  have hm100 : m ≤ 100 := by omega
  have hmni : (m : Int) ≤ (n : Int) := by omega
  have hmc : m ≤ c := by omega
  have hmci : (m : Int) ≤ (c : Int) := by omega
  have hx1 := hx.take m
  rw [← u8s_take] at hx1
  have hl1 : (xs.take m).length = m := by rw [List.length_take]; omega
  generalize xs.take m = P at *
  obtain ⟨k, hk⟩ : ∃ k, min (sk % 32) (8 * m) = k := ⟨_, rfl⟩
  have hmin2 : min ((sk : Int) % 32) (((8 * m : Nat)) : Int) = (k : Int) := by omega
  have hk64 : k ≤ 64 := by omega
  have hkk8 : k ≤ 8 * m := by omega
  have hbl : (Bi.bitsOf P).length = 8 * m := by rw [Bi.bitsOf_length, hl1]
  obtain ⟨R, hR⟩ : ∃ R, (Bi.bitsOf P).drop k = R := ⟨_, rfl⟩
  have hRl : R.length = 8 * m - k := by rw [← hR, List.length_drop, hbl]
  have hG : Bi.getErr (Bi.bitsOf P) k = 0 := by rw [Bi.getErr, if_neg (by omega), if_neg (by omega)]
  have hGR : Bi.getRest (Bi.bitsOf P) k = R := by rw [Bi.getRest, if_pos hG]; simpa using hR
  have HL := Bx.mk hl1
  have BG := Bx.mk hG
  have BGR := Bx.mk hGR
  have BRl := Bx.mk hRl
  have BR := Bx.mk hR
  have BPl := Bx.mk (show P.length ≤ 1000000 by omega)
  have CI := Bx.mk (fun {w : World} {g a : Nat} {v : Value} (h : IsR w g v P a) (hR : (Bi.bitsOf P).drop a = R) (ha : a ≤ 8 * P.length) => cmGet_any h R hR ha BPl.out k8 hk8)
  have CR := Bx.mk (fun (A' : Option Addr) c' w (hA' : RestAt R A' c' w) => refCmGet_any A' (8 * m - k) c' R k8 w BRl.out (by omega) hA' hk8)
  unfold compV at CI CR
  generalize gE k8 R = E at *
  generalize gK k8 R = K at *
  generalize (gF k8 R).getD 0 0 = f0 at *
  generalize (gF k8 R).getD 1 0 = f1 at *
  generalize (gF k8 R).getD 2 0 = f2 at *
  obtain ⟨R', hR'⟩ : ∃ R', gR k8 R = R' := ⟨_, rfl⟩
  rw [hR'] at CI CR
  have CE := Bx.mk (fun w => comp_eql w K f0 f1 f2)
  clear hl hA hx hl1 hm hk hG hGR hR hRl hR' hbl
  go_enter Try.func4, Try.ntmps4
  repeat' (first | (first
    | ((with_reducible refine at_wpList ?_); refine wpList_min rfl _ _ _ _ rfl _ _ _ _ _ hmin rfl rfl ?_) | ((with_reducible refine at_wpList ?_); refine wpList_min rfl _ _ _ _ rfl _ _ _ _ _ hmin2 rfl rfl ?_) | (go_at_call 8; go_loud ((with_reducible refine (cmAwake_any _).mono ?_); rintro e w1 ⟨rfl, hu1⟩; dsimp only))
    | (go_at_call 14; go_loud ((with_reducible refine (Read_any A m c P _ HL.out (by omega) (hx1.new hu1)).mono ?_); rintro e w2 ⟨g, v, rfl, hI2, hu2, hg, hv⟩; have hN2 := hu1.trans hu2; dsimp only))
    | (go_at_call 15; go_loud ((with_reducible refine (Bits_any A m c P _ HL.out (by omega) (hx1.new hN2)).mono ?_); rintro e w3 ⟨v3, rfl, ho3, hu3⟩; have hI3 := hI2.new hu3; (obtain ⟨A3, c3, rfl, hc3, hm3, hr3, hb3⟩ := own_rd ho3); dsimp only))) | go_values | go_skip | go_guarded | go_step | go_upon | go_back)
  have hg2 := (Array.getElem?_eq_some_iff.1 hI2.obj).1
  have hA3 : A3 = none → 8 * m = 0 := by
    intro h
    subst h
    obtain ⟨_, h | ⟨_, _, _, h, _⟩⟩ := ho3
    · exact h.2
    · cases h
  have hne3 : ∀ a', A3 = some a' → bools (Bi.bitsOf P) ≠ [] → ¬ (fun b => b = g) a'.block := fun a' h _ q => by have h1 := (hb3 a' h).1; have h2 : a'.block = g := q; omega
  have hk8i : (k : Int) ≤ 8 * (m : Int) := by omega
  have hc3i : 8 * (m : Int) ≤ (c3 : Int) := by omega
  have hN3 := hN2.trans hu3
  have hgw : w.heap.size ≤ g := Nat.le_trans hu1.size hg
  have CRd := Bx.mk (show ∀ w', Rd w' A3 (bools (Bi.bitsOf P)) → Rd w' (if c3 = k then A3 else A3.map (·.add k)) (bools R) from fun w' h => by
    have h1 := h.drop k c3 (by rw [show (bools (Bi.bitsOf P)).length = 8 * m by simp [bools, Bi.bitsOf_length, HL.out]]; exact hc3)
    rwa [show (bools (Bi.bitsOf P)).drop k = bools R by rw [← BR.out]; simp [bools, List.map_drop]] at h1)
  have BA3 := Bx.mk hA3
  have BM3 := Bx.mk hm3
  clear hm3 hA3 ho3 hb3 hv hg hu1 hu2 hu3
  by_cases hck : c3 = k
  · have CRd1 := Bx.mk (fun w' h => by have := CRd.out w' h; rwa [if_pos hck] at this)
    repeat' (first | (first
      | (go_at_call 16; go_loud ((with_reducible refine (Get_e hI3 _ k List.drop_zero (Nat.zero_le _) BPl.out (by omega) (by omega) _ 0 rfl BG.out R BGR.out).mono ?_); rintro e w4 ⟨rfl, a4, hI4, hR4, ha4, hU4⟩; have hr4 := CRd1.out _ (hr3.upd hU4 hne3); dsimp only))
      | (go_at_call 17; go_loud ((with_reducible refine (CR.out A3 _ _ (restAt_mk (by rw [BRl.out]; omega) (by have := BM3.out; omega) (fun h => by have := BA3.out h; rw [BRl.out]; omega) hr4)).mono ?_); rintro e w5 ⟨A5, c5, rfl, hu5⟩; have hz5 := (Upd.refl Nowhere w5).alloc (.cells #[.int .u8 K, .int .i32 f0, .int .i32 f1, .int .i32 f2] 24); have hb5 := Bx.mk (rd_new w5 [.int .u8 K, .int .i32 f0, .int .i32 f1, .int .i32 f2] 24); have hs5 := (show w5.heap.size < (w5.alloc (.cells #[.int .u8 K, .int .i32 f0, .int .i32 f1, .int .i32 f2] 24)).heap.size by simp); have hI5 := (hI4.new hu5).new hz5; dsimp only))
      | (go_at_call 18; go_loud ((with_reducible refine (CI.out hI5 hR4 ha4).mono ?_); rintro e w6 ⟨rfl, a6, hI6, hR6, ha6, hU6⟩; have hz6 := (Upd.refl Nowhere w6).alloc (.cells #[.int .u8 K, .int .i32 f0, .int .i32 f1, .int .i32 f2] 24); have hgs := (Array.getElem?_eq_some_iff.1 (hI4.new hu5).obj).1; (obtain ⟨e0, e1, e2, e3⟩ := four_cells ((hb5.out.upd hU6 (fun a ha _ q => by cases ha; have : w5.heap.size = g := q; omega)).new hz6)); have hI7 := hI6.new hz6; have ce := CE.out; dsimp only))
      | (go_at_call 19; go_loud ((with_reducible refine (Left_e hI7 R' hR6 ha6 BPl.out R'.length rfl).mono ?_); rintro e w7 ⟨rfl, hu7⟩; dsimp only))) | go_values | go_skip | go_guarded | go_step | go_upon | go_back)
    go_ret
    exact ⟨rfl, ((((hN3.then hU4 (fun b hb => .inr (by have h1 : b = g := hb; omega))).trans (hu5.trans hz5)).then hU6 (fun b hb => .inr (by have h1 : b = g := hb; omega))).trans hz6).trans hu7⟩
  · have CRd1 := Bx.mk (fun w' h => by have := CRd.out w' h; rwa [if_neg hck] at this)
    repeat' (first | (first
      | (go_at_call 16; go_loud ((with_reducible refine (Get_e hI3 _ k List.drop_zero (Nat.zero_le _) BPl.out (by omega) (by omega) _ 0 rfl BG.out R BGR.out).mono ?_); rintro e w4 ⟨rfl, a4, hI4, hR4, ha4, hU4⟩; have hr4 := CRd1.out _ (hr3.upd hU4 hne3); dsimp only))
      | (go_at_call 17; go_loud ((with_reducible refine (CR.out _ _ _ (restAt_mk (by rw [BRl.out]; omega) (by have := BM3.out; omega) (fun h => by have := BA3.out (Option.map_eq_none_iff.1 h); rw [BRl.out]; omega) hr4)).mono ?_); rintro e w5 ⟨A5, c5, rfl, hu5⟩; have hz5 := (Upd.refl Nowhere w5).alloc (.cells #[.int .u8 K, .int .i32 f0, .int .i32 f1, .int .i32 f2] 24); have hb5 := Bx.mk (rd_new w5 [.int .u8 K, .int .i32 f0, .int .i32 f1, .int .i32 f2] 24); have hs5 := (show w5.heap.size < (w5.alloc (.cells #[.int .u8 K, .int .i32 f0, .int .i32 f1, .int .i32 f2] 24)).heap.size by simp); have hI5 := (hI4.new hu5).new hz5; dsimp only))
      | (go_at_call 18; go_loud ((with_reducible refine (CI.out hI5 hR4 ha4).mono ?_); rintro e w6 ⟨rfl, a6, hI6, hR6, ha6, hU6⟩; have hz6 := (Upd.refl Nowhere w6).alloc (.cells #[.int .u8 K, .int .i32 f0, .int .i32 f1, .int .i32 f2] 24); have hgs := (Array.getElem?_eq_some_iff.1 (hI4.new hu5).obj).1; (obtain ⟨e0, e1, e2, e3⟩ := four_cells ((hb5.out.upd hU6 (fun a ha _ q => by cases ha; have : w5.heap.size = g := q; omega)).new hz6)); have hI7 := hI6.new hz6; have ce := CE.out; dsimp only))
      | (go_at_call 19; go_loud ((with_reducible refine (Left_e hI7 R' hR6 ha6 BPl.out R'.length rfl).mono ?_); rintro e w7 ⟨rfl, hu7⟩; dsimp only))) | go_values | go_skip | go_guarded | go_step | go_upon | go_back)
    go_ret
    exact ⟨rfl, ((((hN3.then hU4 (fun b hb => .inr (by have h1 : b = g := hb; omega))).trans (hu5.trans hz5)).then hU6 (fun b hb => .inr (by have h1 : b = g := hb; omega))).trans hz6).trans hu7⟩
end Go.Proofs.Ytpfdbkfjjjiamaa
