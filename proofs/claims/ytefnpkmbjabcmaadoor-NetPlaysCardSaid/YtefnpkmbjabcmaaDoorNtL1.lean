/- The laws NetTurns, NetOrder: walked. -/
import Derived.Test.YtefnpkmbjabcmaaDoorNt7
namespace Go.Proofs.YtefnpkmbjabcmaaDoor
open Go.RowKit

set_option maxHeartbeats 2000000 in
theorem NetTurns_any (A : Option Addr) (n c : Nat) (xs : List (BitVec 8)) (a : Int) (pat : Nat) (w : World) (hl : xs.length = n) (hnc : n ≤ c) (hA : A = none → n = 0) (hx : Rd w A (u8s xs)) (ha : -9223372036854775808 ≤ a ∧ a ≤ 9223372036854775807) (hp : pat < 4294967296) (ht : IsTab w) :
    Calls Tryd.prog 3 #[.slice A n c, .int .i64 a, .int .u32 pat] w fun e w' => e = .returned (.bool true) ∧ New w w' := by
  obtain ⟨k, hk⟩ : ∃ k, min n 200 = k := ⟨_, rfl⟩
  have hmin : min (n : Int) 200 = (k : Int) := by omega
  have hk2 : k ≤ 200 := by omega
  have hkni : (k : Int) ≤ (n : Int) := by omega
  have hkci : (k : Int) ≤ (c : Int) := by omega
  have hx1 := hx.take k
  rw [← u8s_take] at hx1
  have HL := Bx.mk (show (xs.take k).length = k by rw [List.length_take]; omega)
  have HA := Bx.mk (show A = none → k = 0 from fun h => by have := hA h; omega)
  generalize xs.take k = P at *
  have HAB := Bx.mk ha
  have HPB := Bx.mk hp
  clear hl hA hx hk hp ha
  have HT := Bx.mk (Nt.turned_twice P a pat)
  have HTL := Bx.mk (Nt.turned_length P a pat)
  generalize hQ : Nt.turned P a pat = Q at HT HTL
  have HQ := Bx.mk hQ
  clear hQ
  go_enter Tryd.func3, Tryd.ntmps3
  repeat' (first | (first
    | ((with_reducible refine at_wpList ?_); refine wpList_min rfl _ _ _ _ rfl _ _ _ _ _ hmin rfl rfl ?_) | (go_at_call 7; go_loud ((with_reducible refine (awake_any _ ht).mono ?_); rintro e w1 ⟨rfl, hu1⟩; dsimp only))
    | (have hl0 := own_lower (own_lit0 w1 w1.heap.size 5 1 (Nat.le_refl _)) hu1.size; have hs := (hx1.new (hu1.alloc (.cells #[] 5))).src (P := Tryd.prog) (n := k) (c := c) (size := 1) Tryd.underlying22 HA.out (by simp [u8s, HL.out]) (u8s_one P); (at_builtin; go_loud (refine wpList_appN _ rfl _ _ 22 22 rfl _ 5 (.int .u8 0) 1 1 Tryd.underlying22 info8 rfl _ _ _ hl0 rfl _ _ _ hs rfl _ (hu1.alloc _) ?c1 ?c2 ?_; (case c1 => unfold maxLen; omega); (case c2 => omega); intro v2 w2 ho2 hu2 hk2' hv2; simp only [Nat.zero_add, List.nil_append] at ho2; (obtain ⟨A2, c2, rfl, _, _, hr2, _⟩ := own_rd ho2))))
    | (have _m := hu5; (go_at_call 9; go_loud ((with_reducible refine (Same_n _ _ k k _ _ P P _ HL.out HL.out (hr2.new hu5) (hx1.new (hu2.trans hu5))).mono ?_); rintro e w6 ⟨rfl, rfl⟩; dsimp only)))
    | (have _m := hu5x; (go_at_call 9; go_loud ((with_reducible refine (Same_n _ _ k k _ _ P P _ HL.out HL.out hr5 (hx1.new ((hu2.trans hu4).trans hu5x))).mono ?_); rintro e w6 ⟨rfl, rfl⟩; have hu5 := hu4.trans hu5x; dsimp only)))
    | (have _m := hu4; (go_at_call 8; go_loud ((with_reducible refine (Turned_P A3 k c3 Q a pat _ (by rw [HTL.out, HL.out]) (by omega) (hr3.new hu4x) HAB.out HPB.out (ht.new (hu2.trans hu4)) pat rfl P HT.out).mono ?_); rintro e w5 ⟨v5, rfl, ho5, hu5x⟩; obtain ⟨A5, c5, rfl, _, _, hr5, _⟩ := own_rd ho5; dsimp only)))
    | (have _m := hu4; (go_at_call 9; go_loud ((with_reducible refine (Same_n _ _ k k _ _ Q Q _ (by rw [HTL.out, HL.out]) (by rw [HTL.out, HL.out]) (hr3.new hu4x) hr4).mono ?_); rintro e w6 ⟨rfl, rfl⟩; dsimp only)))
    | (have _m := hu3; (go_at_call 10; go_loud ((with_reducible refine (refTurned_any A k c P a pat _ HL.out (by omega) (hx1.new (hu2.trans hu3)) HAB.out HPB.out).mono ?_); rintro e w4 ⟨v4, rfl, ho4, hu4x⟩; rw [HQ.out] at ho4; obtain ⟨A4, c4, rfl, _, _, hr4, _⟩ := own_rd ho4; have hu4 := hu3.trans hu4x; dsimp only)))
    | (go_at_call 8; go_loud ((with_reducible refine (Turned_P A2 k c2 P a pat _ HL.out (by omega) hr2 HAB.out HPB.out (ht.new hu2) pat rfl Q HQ.out).mono ?_); rintro e w3 ⟨v3, rfl, ho3, hu3⟩; obtain ⟨A3, c3, rfl, _, _, hr3, _⟩ := own_rd ho3; dsimp only))) | go_values | go_skip | go_guarded | go_step | go_upon | go_back)
  go_ret
  exact ⟨rfl, hu2.trans hu5⟩

/-- what a bag holds -/
def sig (xs : List It) : List (Int × List (BitVec 8)) := xs.map fun x => (x.to, x.fr)
def tagged (fs : List (List (BitVec 8))) : List (Int × List (BitVec 8)) := (List.range fs.length).map fun (i : Nat) => ((i : Int), fs.getD i [])
theorem sig_length (xs : List It) : (sig xs).length = xs.length := by simp [sig]
theorem tagged_length (fs : List (List (BitVec 8))) : (tagged fs).length = fs.length := by simp [tagged]
theorem tagged_at (fs : List (List (BitVec 8))) (i : Nat) (h : i < fs.length) : (tagged fs)[i]? = some ((i : Int), fs.getD i []) := by simp [tagged, h]
/-- slices of bytes that lie in memory, and their bytes -/
structure IsRows (w : World) (A : Option Addr) (vs : List Value) (fs : List (List (BitVec 8))) : Prop where
  row : Rd w A vs
  len : vs.length = fs.length
  each : ∀ i, i < fs.length → ∃ B c, vs[i]? = some (.slice B (fs.getD i []).length c) ∧ (fs.getD i []).length ≤ c ∧ (B = none → (fs.getD i []).length = 0) ∧ Rd w B (u8s (fs.getD i [])) ∧ (fs.getD i []).length ≤ 140737488351232
theorem IsRows.new {w w' : World} {A : Option Addr} {vs : List Value} {fs : List (List (BitVec 8))} (h : IsRows w A vs fs) (k : New w w') : IsRows w' A vs fs :=
  ⟨h.row.new k, h.len, fun i hi => by obtain ⟨B, c, h1, h2, h3, h4, h5⟩ := h.each i hi; exact ⟨B, c, h1, h2, h3, h4.new k, h5⟩⟩
theorem IsRows.take {w : World} {A : Option Addr} {vs : List Value} {fs : List (List (BitVec 8))} (h : IsRows w A vs fs) (m : Nat) : IsRows w A (vs.take m) (fs.take m) := by
  refine ⟨h.row.take m, by rw [List.length_take, List.length_take, h.len], fun i hi => ?_⟩
  have him : i < m ∧ i < fs.length := by rw [List.length_take] at hi; omega
  have e : (fs.take m).getD i [] = fs.getD i [] := by simp [him.1]
  obtain ⟨B, c, h1, h2⟩ := h.each i him.2
  rw [e]
  exact ⟨B, c, by rw [List.getElem?_take, if_pos him.1]; exact h1, h2⟩
/-- the i-th of them -/
theorem IsRows.at_ {w : World} {A : Option Addr} {vs : List Value} {fs : List (List (BitVec 8))} (h : IsRows w A vs fs) (i : Nat) (hi : i < fs.length) :
    ∃ b off B c, A = some ⟨b, off, none⟩ ∧ w.cell? ⟨b, off + i, none⟩ = some (.slice B (fs.getD i []).length c) ∧ (fs.getD i []).length ≤ c ∧ (B = none → (fs.getD i []).length = 0) ∧ Rd w B (u8s (fs.getD i [])) ∧ (fs.getD i []).length ≤ 140737488351232 := by
  obtain ⟨B, c, h1, h2, h3, h4, h5⟩ := h.each i hi
  obtain ⟨b, off, hA, hc⟩ := h.row.at_ i (by rw [h.len]; exact hi)
  refine ⟨b, off, B, c, hA, ?_, h2, h3, h4, h5⟩
  rw [hc, ← h1, List.getElem?_eq_getElem]
theorem lit_new {w w' : World} {o : Obj} {n c : Nat} (h : Upd (fun k => (Value.slice (some ⟨w.heap.size, 0, none⟩) n c).ownBlock = some k) (w.alloc o) w') : New w w' :=
  ((Upd.refl Nowhere w).alloc o).then h (fun b hb => .inr (by have : w.heap.size = b := by simpa [Value.ownBlock] using hb
                                                              omega))
set_option maxHeartbeats 4000000 in
theorem NetOrder_any (A : Option Addr) (n c : Nat) (vs : List Value) (fs : List (List (BitVec 8))) (w : World) (hl : fs.length = n) (hnc : n ≤ c) (hx : IsRows w A vs fs) (ht : IsTab w) :
    Calls Tryd.prog 5 #[.slice A n c] w fun e w' => e = .returned (.bool true) ∧ New w w' := by
  obtain ⟨k, hk⟩ : ∃ k, min n 40 = k := ⟨_, rfl⟩
  have hmin : min (n : Int) 40 = (k : Int) := by omega
  have hk2 : k ≤ 40 := by omega
  have hkni : (k : Int) ≤ (n : Int) := by omega
  have hkci : (k : Int) ≤ (c : Int) := by omega
  have hx1 := hx.take k
  have HL := Bx.mk (show (fs.take k).length = k by rw [List.length_take]; omega)
  generalize fs.take k = F at *
  generalize vs.take k = V at *
  clear hl hx hk
  have HTG := Bx.mk (tagged_length F)
  have HTA := Bx.mk (tagged_at F)
  go_enter Tryd.func5, Tryd.ntmps5
  repeat' (first | (first
    | ((with_reducible refine at_wpList ?_); refine wpList_min rfl _ _ _ _ rfl _ _ _ _ _ hmin rfl rfl ?_) | (go_at_call 7; go_loud ((with_reducible refine (awake_any _ ht).mono ?_); rintro e w1 ⟨rfl, hu1⟩; dsimp only))
    | (go_at_call 11; go_loud ((with_reducible refine (NetNew_n 40 w1 (by decide) (by decide) 40 rfl).mono ?_); rintro e w2 ⟨rfl, hu2, hB2⟩; have hH2 := Held.made hu2 hB2; dsimp only))) | go_values | go_skip | go_guarded | go_step | go_upon | go_back)
  go_loopw [28] (fun i wr => ∃ (j : Nat) (v : Value) (xs : List It), j ≤ k ∧ i = .int .i64 j ∧ Held w1 wr w1.heap.size v 40 xs ∧ Bx (sig xs = (tagged F).take j)) (fun i _ => k - (intOf i).toNat)
  case atStart => exact ⟨0, _, [], by omega, rfl, hH2, ⟨by simp [sig]⟩⟩
  case round =>
    obtain ⟨j, v, xs, hj, rfl, hH, HS⟩ := hrel
    by_cases hlt : j < k
    · have hjF : j < F.length := by rw [HL.out]; exact hlt
      obtain ⟨b0, off, B, cb, rfl, hcell, hcb, hB, hrB, hbig⟩ := (hx1.new (hu1.trans hH.new)).at_ j hjF
      have HE := Bx.mk (HTA.out j hjF)
      have HT := Bx.mk (show (tagged F).take (j + 1) = (tagged F).take j ++ [((j : Int), F.getD j [])] by
        rw [List.take_add_one, HTA.out j hjF]; rfl)
      generalize F.getD j [] = f at *
      have hxl : xs.length = j := by
        have e := congrArg List.length HS.out
        rw [sig_length, List.length_take, HTG.out, HL.out] at e
        omega
      have hx40 : xs.length < 40 := by omega
      have HXL := Bx.mk hxl
      have hl0 := own_lower (own_lit0 wr wr.heap.size 5 1 (Nat.le_refl _)) hH.new.size
      have hs := (hrB.new ((Upd.refl _ wr).alloc (.cells #[] 5))).src (P := Tryd.prog) (n := f.length) (c := cb) (size := 1) Tryd.underlying22 hB (by simp [u8s]) (u8s_one f)
      clear hxl hjF
      repeat' (first | (first
        | (at_builtin; go_loud (refine wpList_appN _ rfl _ _ 22 22 rfl _ 5 (.int .u8 0) 1 1 Tryd.underlying22 info8 rfl _ _ _ hl0 rfl _ _ _ hs rfl _ (hH.new.alloc _) ?c1 ?c2 ?_; (case c1 => unfold maxLen; omega); (case c2 => omega); intro v2 w3 ho3 hu3 hk3 hv3; simp only [Nat.zero_add, List.nil_append] at ho3; (obtain ⟨A2, c2, rfl, _, _, hr3, _⟩ := own_rd ho3)))
        | (have hn3 := lit_new hk3; (go_at_call 12; go_loud ((with_reducible refine (Put_ok (hH.next hn3).bag hx40 (by decide) _ j A2 _ c2 f rfl rfl hbig hr3).mono ?_); rintro e w4 ⟨rfl, v4, y, hy1, hy2, -, hB4, hW4⟩; have hH4 := (hH.next hn3).step hB4 hW4; dsimp only)))) | go_values | go_skip | go_guarded | go_step | go_upon | go_back)
      go_roundw
      case rel => exact ⟨j + 1, v4, xs ++ [y], by omega, by go_num, hH4, ⟨by rw [HT.out, ← HS.out]; simp [sig, hy1, hy2]⟩⟩
      case measure => simp [intOf]; omega
    · obtain rfl : j = k := by omega
      have HS1 := Bx.mk (show sig xs = (tagged F).drop 0 by rw [HS.out, List.drop_zero, List.take_of_length_le (by rw [HTG.out, HL.out]; exact Nat.le_refl _)])
      repeat' (first | fail | go_values | go_skip | go_guarded | go_step | go_upon | go_back)
      go_loopw [44] (fun i wr => ∃ (q : Nat) (v : Value) (xs : List It), q ≤ j ∧ i = .int .i64 q ∧ Held w1 wr w1.heap.size v 40 xs ∧ Bx (sig xs = (tagged F).drop q)) (fun i _ => j - (intOf i).toNat)
      case atStart => exact ⟨0, v, xs, by omega, rfl, hH, HS1⟩
      case round =>
        obtain ⟨q, v, xs, hq, rfl, hH, HQ2⟩ := hrel
        by_cases hlt2 : q < j
        · have hqF : q < F.length := by rw [HL.out]; exact hlt2
          obtain ⟨b0, off, B, cb, rfl, hcell0, hcb, hB, hrB, hbig⟩ := hx1.at_ q hqF
          have hcell := (hu1.trans hH.new).cell hcell0 (fun q => q)
          obtain ⟨x, ys, rfl, hxto, hxfr, HS'⟩ : ∃ x ys, xs = x :: ys ∧ x.to = q ∧ x.fr = F.getD q [] ∧ sig ys = (tagged F).drop (q + 1) := by
            have e := HQ2.out
            have hlt' : q < (tagged F).length := by rw [HTG.out]; exact hqF
            rw [List.drop_eq_getElem_cons hlt'] at e
            have e2 := HTA.out q hqF
            rw [List.getElem?_eq_getElem hlt'] at e2
            rw [Option.some.inj e2] at e
            cases xs with
            | nil => cases e
            | cons x ys =>
              simp only [sig, List.map_cons, List.cons.injEq, Prod.mk.injEq] at e
              exact ⟨x, ys, rfl, e.1.1, e.1.2, e.2⟩
          have hlen : (x :: ys).length ≤ 40 := by
            have e := congrArg List.length HQ2.out
            rw [sig_length, List.length_drop, HTG.out, HL.out] at e
            omega
          generalize F.getD q [] = f at *
          obtain ⟨xto, xv, xfr⟩ := x
          dsimp only at hxto hxfr
          subst hxto; subst hxfr
          have HL40 := Bx.mk hlen
          have BS := Bx.mk HS'
          have HBG := Bx.mk hbig
          have hqj : (q : Int) < (j : Int) := by omega
          clear hlen HS' hbig hqF
          repeat' (first | (first
            | (go_at_call 16; go_loud ((with_reducible refine (Take_I hH.bag 0 (by simp) (by have := HL40.out; omega) _ rfl HBG.out 0 rfl).mono ?_); rintro e w4 ⟨vr, v4, rfl, hor, hB4, hW4⟩; obtain ⟨Ar, cr, rfl, _, _, hr4, _⟩ := own_rd hor; have hH4 := hH.step hB4 hW4; have hal : New w4 (w4.alloc (.cells #[.int .i64 q, .slice Ar xfr.length cr] 36)) := (Upd.refl _ _).alloc _; dsimp only))
            | (go_at_call 9; go_loud ((with_reducible refine (Same_n _ _ _ _ _ _ xfr xfr _ rfl rfl (hr4.new hal) (hrB.new ((hu1.trans hH4.new).trans hal))).mono ?_); rintro e w5 ⟨rfl, rfl⟩; dsimp only))) | go_values | go_skip | go_guarded | go_step | go_upon | go_back)
          go_roundw
          case rel => exact ⟨q + 1, v4, ys, by omega, by go_num, hH4.next hal, BS⟩
          case measure => simp [intOf]; omega
        · obtain rfl : q = j := by omega
          obtain rfl : xs = [] := by
            have e := congrArg List.length HQ2.out
            rw [sig_length, List.length_drop, HTG.out, HL.out, Nat.sub_self] at e
            exact List.eq_nil_of_length_eq_zero e
          repeat' (first | (first
            | (have _m := hH4; (go_at_call 13; go_loud ((with_reducible refine (BagLen_e (hH4.next ((Upd.refl _ w4).alloc (.cells #[.int .i64 0, .slice none 0 0] 36))).bag 0 rfl 0 rfl).mono ?_); rintro e w5 ⟨rfl, rfl⟩; dsimp only)))
            | (go_at_call 16; go_loud ((with_reducible refine (Take_no hH.bag 0 (by simp)).mono ?_); rintro e w4 ⟨rfl, hu4⟩; have hH4 := hH.next hu4; dsimp only))) | go_values | go_skip | go_guarded | go_step | go_upon | go_back)
          go_ret
          exact ⟨rfl, (hu1.trans hH4.new).alloc _⟩
end Go.Proofs.YtefnpkmbjabcmaaDoor
