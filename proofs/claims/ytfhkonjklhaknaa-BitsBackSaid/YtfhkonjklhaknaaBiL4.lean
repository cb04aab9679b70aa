/- The law of reading. -/
import Derived.Test.YtfhkonjklhaknaaBi8
namespace Go.Proofs.Ytfhkonjklhaknaa
open Go.RowKit

theorem refGet_e (A : Option Addr) (nl c : Nat) (R : List Bool) (n : Int) (w : World) (hl : R.length = nl) (hm : nl ≤ 100000000) (hc : nl ≤ c) (hcm : c ≤ maxLen) (hA : A = none → nl = 0) (hx : Rd w A (bools R)) (hn1 : -9223372036854775808 ≤ n) (hn2 : n ≤ 9223372036854775807)
    (V E : Int) (hV : (Bi.getVal R n : Int) = V) (hE : Bi.getErr R n = E) (R' : List Bool) (hR : Bi.getRest R n = R') :
    Calls Try.prog 19 #[.slice A nl c, .int .i64 n] w fun e w' => ∃ A' c', e = .returned (.tuple #[.int .u64 V, .slice A' R'.length c', .int .i64 E]) ∧
      R'.length ≤ c' ∧ c' ≤ maxLen ∧ (A' = none → R'.length = 0) ∧ Rd w' A' (bools R') ∧ New w w' ∧ ∀ a', A' = some a' → ∃ a0, A = some a0 ∧ a0.block = a'.block := by
  subst hV; subst hE; subst hR
  exact refGet_any A nl c R n w hl hm hc hcm hA hx hn1 hn2
theorem End_e {w : World} {g a : Nat} {v : Value} {P : List (BitVec 8)} (h : IsR w g v P a) (R : List Bool) (hR : (Bi.bitsOf P).drop a = R) (ha : a ≤ 8 * P.length) (hm : P.length ≤ 1000000) (E : Int) (hE : Bi.endErr R = E) :
    Calls Try.prog 22 #[.pointer (some ⟨g, 0, none⟩)] w fun e w' => e = .returned (.int .i64 E) ∧ New w w' := by subst hE; exact End_any h R hR ha hm
theorem refEnd_e (A : Option Addr) (n c : Nat) (R : List Bool) (w : World) (hl : R.length = n) (hm : n ≤ 100000000) (hx : Rd w A (bools R)) (E : Int) (hE : Bi.endErr R = E) :
    Calls Try.prog 23 #[.slice A n c] w fun e w' => e = .returned (.int .i64 E) ∧ w = w' := by subst hE; exact refEnd_any A n c R w hl hm hx
theorem rest_le (R : List Bool) (n : Int) : (Bi.getRest R n).length ≤ R.length := by
  unfold Bi.getRest; split
  · rw [List.length_drop]; omega
  · exact Nat.le_refl _

set_option maxHeartbeats 4000000 in
theorem reads_any (A : Option Addr) (n c : Nat) (xs : List (BitVec 8)) (B : Option Addr) (m cb : Nat) (ws : List Int) (w : World) (hl : xs.length = n) (hc : n ≤ c) (hA : A = none → n = 0) (hx : Rd w A (u8s xs))
    (hwl : ws.length = m) (hw : Rd w B (ws.map (Value.int .i64))) (hb : ∀ i ∈ ws, -9223372036854775808 ≤ i ∧ i ≤ 9223372036854775807) :
    Calls Try.prog 6 #[.slice A n c, .slice B m cb] w fun e w' => e = .returned (.bool true) ∧ New w w' := by
  obtain ⟨k, hk⟩ : ∃ k, min n 300 = k := ⟨_, rfl⟩
  have hmin : min (n : Int) 300 = (k : Int) := by omega
  have hk300 : k ≤ 300 := by omega
  have hkn : k ≤ n := by omega
  have hkni : (k : Int) ≤ (n : Int) := by omega
  have hkc : k ≤ c := by omega
  have hkci : (k : Int) ≤ (c : Int) := by omega
  have hx1 := hx.take k
  rw [← u8s_take] at hx1
  have hl1 : (xs.take k).length = k := by rw [List.length_take]; omega
  have hA1 : A = none → k = 0 := fun h => by have := hA h; omega
  generalize xs.take k = P at *
  have HL := Bx.mk hl1
  have HA := Bx.mk hA1
  clear hl hA hA1 hx hl1 hk
  go_enter Try.func6, Try.ntmps6
  repeat' (first | (first
    | ((with_reducible refine at_wpList ?_); refine wpList_min rfl _ _ _ _ rfl _ _ _ _ _ hmin rfl rfl ?_) | (go_at_call 9; go_loud ((with_reducible refine (awake_any _).mono ?_); rintro e w1 ⟨rfl, hu1⟩; dsimp only))
    | (at_builtin; go_loud (refine wpList_appN _ rfl _ _ 36 36 rfl _ 5 (.int .u8 0) 1 1 Try.underlying36 info8 rfl _ _ _ ho3 rfl _ _ _ hs3 rfl _ (hu2.alloc _) ?c1 ?c2 ?_; (case c1 => unfold maxLen; omega); (case c2 => omega); intro v3 w3 ho4 hu3 hk3 hv3; (obtain ⟨gm, cm, rfl, hgm, hgs, hcm, hcmx, hrm⟩ := own_some ho4 (by omega)); have hkm : (k : Int) ≤ (cm : Int) := (by omega)))
    | (have hl0 := own_lower (own_lit0 w1 w1.heap.size 5 1 (Nat.le_refl _)) hu1.size; have hs := (hx1.new (hu1.alloc (.cells #[] 5))).src (P := Try.prog) (n := k) (c := c) (size := 1) Try.underlying36 HA.out (by simp [u8s, HL.out]) (u8s_one P); (at_builtin; go_loud (refine wpList_appN _ rfl _ _ 36 36 rfl _ 5 (.int .u8 0) 1 1 Try.underlying36 info8 rfl _ _ _ hl0 rfl _ _ _ hs rfl _ (hu1.alloc _) ?c1 ?c2 ?_; (case c1 => unfold maxLen; omega); (case c2 => omega); intro v2 w2 ho2 hu2 hk2 hv2; simp only [Nat.zero_add, List.nil_append] at ho2; have ho3 := ho2.alloc (.cells #[.int .u8 165] 5); have hs3 := Src.ofSlice (P := Try.prog) (size := 1) _ Try.underlying36 _ 1 1 _ rfl (cells_new w2 [.int .u8 165] 5) (by intro u hu; simp at hu; subst hu; rfl))))
    | (go_at_call 17; go_loud ((with_reducible refine (Read_any _ k _ P _ HL.out (by omega) hrm.prefix_).mono ?_); rintro e w5 ⟨gr, vr, rfl, hI5, hu5, hgr, hvr⟩; dsimp only))) | go_values | go_skip | go_guarded | go_step | go_upon | go_back)
  have hgmr : gr ≠ gm := by omega
  have hgw0 : w.heap.size ≤ gr := by omega
  have hvm : ¬ vr.ownBlock = some gm := fun h => by have := hvr gm h; omega
  have hN5 : New w w5 := hu3.trans hu5
  have ho5 := own_new ho4 hu5
  rw [show u8s P ++ [Value.int .u8 165] = u8s (P ++ [165#8]) by rw [u8s_append]; rfl] at ho5
  have hcell165 : ∀ {wr : World} {L : List (BitVec 8)}, L.getD k 0#8 = 165#8 → wr.ownsRow w.heap.size 5 1 (.slice (some ⟨gm, 0, none⟩) (k + 1) cm) (k + 1) (u8s L) → wr.cell? ⟨gm, k, none⟩ = some (.int .u8 165) := by
    intro wr L hL ho
    obtain ⟨g', c', hv, _, hc, _⟩ := own_u8 ho k (by omega)
    obtain ⟨rfl, _⟩ : gm = g' ∧ cm = c' := by simpa using hv
    rw [hc, hL]; rfl
  clear hs3 ho2 ho3 ho4 hrm hk3 hv3 hgs hu3 hu5 hvr hgr
  have HC := Bx.mk @hcell165
  clear hcell165
  go_loopw [35] (fun i wr => ∃ (j : Nat) (L : List (BitVec 8)), j ≤ k ∧ i = .int .i64 j ∧ L.length = k + 1 ∧ L.getD k 0#8 = 165#8 ∧ New w wr ∧ wr.ownsRow w.heap.size 5 1 (.slice (some ⟨gm, 0, none⟩) (k + 1) cm) (k + 1) (u8s L) ∧ IsR wr gr vr P 0) (fun i _ => k - (intOf i).toNat)
  case atStart => exact ⟨0, P ++ [165#8], by omega, rfl, by rw [List.length_append, HL.out]; rfl, by rw [List.getD_eq_getElem?_getD, List.getElem?_append_right (by have := HL.out; omega), HL.out]; simp, hN5, ho5, hI5⟩
  case round =>
    obtain ⟨j, L, hj, rfl, hLl, hL165, hN, ho, hI⟩ := hrel
    by_cases hlt : j < k
    · obtain ⟨g', c', hv, _, hcell, hfz, hset⟩ := own_u8 ho j (by omega)
      obtain ⟨rfl, rfl⟩ : gm = g' ∧ cm = c' := by simpa using hv
      clear hv
      have HX := Bx.mk (show bits .xor .u8 ((L.getD j 0#8).toNat : Int) 255 = ((L.getD j 0#8 ^^^ 255#8).toNat : Int) by
        rw [BitVec.toNat_xor]; exact u8_xor_nat _ 255 (L.getD j 0#8).isLt (by decide))
      generalize L.getD j 0#8 = y at hcell HX
      have HS := Bx.mk hset
      clear hset
      go_wp2
      go_roundw
      case rel =>
        refine ⟨j + 1, L.set j (y ^^^ 255#8), by omega, by go_num, by rw [List.length_set]; exact hLl, ?_, hN.setCell (p := ⟨gm, j, none⟩) (.inr hgm) _, by rw [HX.out]; exact HS.out _, hI.upd (Upd.set1 _ _ _) hgmr (fun b hb q => hvm ((show b = gm from q) ▸ hb))⟩
        rw [List.getD_eq_getElem?_getD, List.getElem?_set_ne (by omega), ← List.getD_eq_getElem?_getD]; exact hL165
      case measure => simp [intOf]; omega
    · obtain rfl : j = k := by omega
      repeat' (first | (go_at_call 18; go_loud ((with_reducible refine (Bits_any A j c P _ HL.out (by omega) (hx1.new hN)).mono ?_); rintro e w6 ⟨v6, rfl, ho6, hu6⟩; obtain ⟨A6, c6, rfl, hc6, hm6, hr6, hb6⟩ := own_rd ho6; have hN6 := hN.trans hu6; have hoM := own_new ho hu6; have hI6 := hI.new hu6; dsimp only)) | go_values | go_skip | go_guarded | go_step | go_upon | go_back)
      have hgr6 : gr < w6.heap.size := (Array.getElem?_eq_some_iff.1 hI6.obj).1
      have hgrr : gr < wr.heap.size := (Array.getElem?_eq_some_iff.1 hI.obj).1
      have hgw : w.heap.size ≤ gr := hgw0
      have hbits := Bx.mk (Bi.bitsOf_length P)
      have hA6 : A6 = none → 8 * j = 0 := by
        intro h
        subst h
        obtain ⟨_, h | ⟨_, _, _, h, _⟩⟩ := ho6
        · exact h.2
        · cases h
      have hne6 : ∀ a', A6 = some a' → a'.block ≠ gr := fun a' h => by have := (hb6 a' h).1; omega
      have hmine : ¬ gm = gr := fun h => hgmr h.symm
      clear ho6 hb6 hu6 ho hI
      go_loopw [8, 49] (fun x i wr => ∃ (q : Nat) (Ax : Option Addr) (cx : Nat) (R : List Bool) (lR a : Nat), q ≤ m ∧ i = .int .i64 q ∧ x = .slice Ax lR cx ∧ R.length = lR ∧ lR ≤ 8 * j ∧ lR ≤ cx ∧ cx ≤ maxLen ∧ (Ax = none → lR = 0) ∧ Rd wr Ax (bools R) ∧ (∀ a', Ax = some a' → a'.block ≠ gr) ∧ IsR wr gr vr P a ∧ (Bi.bitsOf P).drop a = R ∧ a ≤ 8 * P.length ∧ New w wr ∧ wr.ownsRow w.heap.size 5 1 (.slice (some ⟨gm, 0, none⟩) (j + 1) cm) (j + 1) (u8s L)) (fun _ i _ => m - (intOf i).toNat)
      case atStart => exact ⟨0, A6, c6, Bi.bitsOf P, 8 * j, 0, by omega, rfl, rfl, by rw [hbits.out, HL.out], by omega, hc6, hm6, hA6, hr6, hne6, hI6, rfl, by omega, hN6, hoM⟩
      case round =>
        obtain ⟨q, Ax, cx, R, lR, a, hq, rfl, rfl, hRl, hlR, hcx, hcxm, hAx, hrx, hnx, hI2, hR2, ha2, hN2, hoM2⟩ := hrel
        by_cases hlt2 : q < m
        · by_cases h80 : 80 ≤ q
          · obtain ⟨b0, off, rfl, hcw⟩ := (hw.new hN2).at_ q (by simpa [hwl] using hlt2)
            simp only [List.getElem_map] at hcw
            have hcell := HC.out hL165 hoM2
            have hk1 : (j : Int) + 1 ≤ (cm : Int) := by omega
            have hk2 : (j : Int) < (j : Int) + 1 := by omega
            go_wp2
            go_ret
            exact ⟨rfl, hN2⟩
          · obtain ⟨b0, off, rfl, hcw⟩ := (hw.new hN2).at_ q (by simpa [hwl] using hlt2)
            simp only [List.getElem_map] at hcw
            have hub := hb (ws[q]'(by omega)) (List.getElem_mem _)
            generalize ws[q]'(by omega) = u at hcw hub
            have HU := Bx.mk hub
            clear hub
            obtain ⟨V, hV⟩ : ∃ V : Nat, Bi.getVal R u = V := ⟨_, rfl⟩
            obtain ⟨E, hE⟩ : ∃ E, Bi.getErr R u = E := ⟨_, rfl⟩
            obtain ⟨R', hR'⟩ : ∃ R', Bi.getRest R u = R' := ⟨_, rfl⟩
            obtain ⟨E2, hE2⟩ : ∃ E, Bi.endErr R' = E := ⟨_, rfl⟩
            have hle := rest_le R u
            rw [hR', hRl] at hle
            have BV := Bx.mk hV
            have BE := Bx.mk hE
            have BR := Bx.mk hR'
            have BE2 := Bx.mk hE2
            have BRl := Bx.mk hRl
            have BR2 := Bx.mk hR2
            have hPl := HL.out
            have BPl := Bx.mk (show P.length ≤ 1000000 by omega)
            clear hV hE hR' hE2 hRl hR2 hPl
            repeat' (first | (first
              | (go_at_call 19; go_loud ((with_reducible refine (refGet_e Ax lR cx R u _ BRl.out (by omega) hcx hcxm hAx hrx HU.out.1 HU.out.2 V E (by rw [BV.out]) BE.out R' BR.out).mono ?_); rintro e w7 ⟨Ay, cy, rfl, hcy, hcym, hAy, hry, hu7, hby⟩; have hI7 := hI2.new hu7; have hne7 : ∀ a', Ay = some a' → a'.block ≠ gr := (fun a' h => by obtain ⟨a0, h0, h1⟩ := hby a' h; have := hnx a0 h0; omega); dsimp only))
              | (go_at_call 20; go_loud ((with_reducible refine (Get_e hI7 R u BR2.out ha2 BPl.out HU.out.1 HU.out.2 V E (by rw [BV.out]) BE.out R' BR.out).mono ?_); rintro e w8 ⟨rfl, a', hI8, hR8, ha8, hU8⟩; have hry8 := hry.upd hU8 (fun a1 h1 _ => hne7 a1 h1); dsimp only))
              | (go_at_call 21; go_loud ((with_reducible refine (Left_e hI8 R' hR8 ha8 BPl.out R'.length rfl).mono ?_); rintro e w9 ⟨rfl, hu9⟩; have hI9 := hI8.new hu9; have hry9 := hry8.new hu9; dsimp only))
              | (go_at_call 22; go_loud ((with_reducible refine (End_e hI9 R' hR8 ha8 BPl.out E2 BE2.out).mono ?_); rintro e w10 ⟨rfl, hu10⟩; have hI10 := hI9.new hu10; have hry10 := hry9.new hu10; dsimp only))
              | (go_at_call 23; go_loud ((with_reducible refine (refEnd_e Ay _ cy R' _ rfl (by omega) hry10 E2 BE2.out).mono ?_); rintro e w11 ⟨rfl, rfl⟩; dsimp only))) | go_values | go_skip | go_guarded | go_step | go_upon | go_back)
            go_roundw
            case rel =>
              have hU : Upd (fun b => b = gr) w7 w10 := (hU8.trans hu9.upd).trans hu10.upd
              have hoff : ∀ b, (Value.slice (some ⟨gm, 0, none⟩) (j + 1) cm).ownBlock = some b → ¬ b = gr := by
                intro b hb q
                have h2 : gm = b := by simpa [Value.ownBlock] using hb
                omega
              exact ⟨q + 1, Ay, cy, R', R'.length, a', by omega, by go_num, rfl, rfl, by omega, hcy, hcym, hAy, hry10, hne7, hI10, hR8, ha8, (hN2.trans hu7).then hU (fun b hb => .inr (by have hb' : b = gr := hb; omega)), own_upd (own_new hoM2 hu7) hU hoff⟩
            case measure => simp [intOf]; omega
        · obtain rfl : q = m := by omega
          have hcell := HC.out hL165 hoM2
          have hk1 : (j : Int) + 1 ≤ (cm : Int) := by omega
          have hk2 : (j : Int) < (j : Int) + 1 := by omega
          go_wp2
          go_ret
          exact ⟨rfl, hN2⟩
end Go.Proofs.Ytfhkonjklhaknaa
