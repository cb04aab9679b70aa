/- CellsStill: the law, walked. -/
import Derived.Test.YtaliadekdpbfdaaCa3
import Derived.Test.YtaliadekdpbfdaaCa4
namespace Go.Proofs.Ytaliadekdpbfdaa
open Go.RowKit Go.Maps
set_option maxRecDepth 20000 in
set_option maxHeartbeats 16000000 in
theorem CellsStill_any (A : Option Addr) (n c : Nat) (L : List OpQ) (w : World) (hn : L.length = n) (hsz : n ≤ 9223372036854775807) (hr : Rd w A (L.flatMap opC)) (hok : ∀ q ∈ L, opOk q) (id : Nat) (hid : id < 4294967296) (x y x2 y2 : Int) (hx : inI32 x) (hy : inI32 y) (hx2 : inI32 x2) (hy2 : inI32 y2) :
    Calls Try.prog 4 #[.slice A n c, .int .u32 id, .int .i32 x, .int .i32 y, .int .i32 x2, .int .i32 y2] w fun e w' => e = .returned (.bool true) ∧ New w w' := by
  have CA := Bx.mk (fun w => awake16_any w)
  have CN := Bx.mk (fun {w' : World} (u : New w w') => newG w.heap.size w' u.size)
  have HN := Bx.mk hn
  have HR := Bx.mk hr
  have HO := Bx.mk hok
  have OX := Bx.mk (fun w => Of_any x w hx.1 hx.2)
  have OY := Bx.mk (fun w => Of_any y w hy.1 hy.2)
  have BX1 := Bx.mk (And.intro hx hy)
  have BX2 := Bx.mk (And.intro hx2 hy2)
  clear hn hr hok hx hy hx2 hy2
  go_enter Try.func4, Try.ntmps4
  repeat' (first | (first | (go_at_call 9; (with_reducible refine (CA.out _).mono ?_); rintro e w1 ⟨rfl, U1⟩; dsimp only) | (have _m := U1; (go_at_call 11; (with_reducible refine (CN.out U1).mono ?_); rintro e w2 ⟨g, rfl, G2, V2, hg⟩; dsimp only))) | go_values | go_skip | go_guarded | go_step | go_upon | go_back)
  have U2 := Bx.mk (U1.trans V2)
  have G2' := Bx.mk G2
  clear U1 V2 G2 _m CN CA
  go_loopw [23] (fun iv wr => ∃ (j : Nat), iv = .int .i64 j ∧ j ≤ n ∧ Bx (GR w.heap.size wr g (runM (L.take (min j 80)) M0)) ∧ Bx (New w wr)) (fun iv _ => n - (intOf iv).toNat)
  case atStart => exact ⟨0, rfl, Nat.zero_le _, by simpa [runM] using G2', U2⟩
  case round =>
    clear G2' U2
    obtain ⟨j, rfl, hj, HG, HU⟩ := hrel
    by_cases hlt : j < n
    · have hltI : (j : Int) < (n : Int) := by omega
      have hjL : j < L.length := by rw [HN.out]; exact hlt
      obtain ⟨b, o, rfl, e0, e1, e2, e3⟩ := op_at (HR.out.new HU.out) j hjL
      have hq := HO.out L[j] (List.getElem_mem hjL)
      by_cases h80 : j < 80
      · have h80I : (j : Int) < 80 := by omega
        have HM := Bx.mk (show runM (L.take (min (j + 1) 80)) M0 = putM (runM (L.take (min j 80)) M0) L[j].2.1 L[j].2.2.1 L[j].2.2.2 by rw [take_min_step L j 80 hjL h80, runM_snoc])
        have HF := few_run L j
        generalize runM (L.take (min j 80)) M0 = M at *
        obtain ⟨⟨d0, i0, x0, y0⟩, hq0⟩ : ∃ q, L[j] = q := ⟨_, rfl⟩
        rw [hq0] at e0 e1 e2 e3 hq
        have HM2 := HM.out
        rw [hq0] at HM2
        have HM3 := Bx.mk HM2
        obtain ⟨_, q1, q2, q3⟩ := hq
        have AL := (Upd.refl Nowhere wr).alloc (.cells #[.int .u8 d0, .int .u32 i0, .int .i32 x0, .int .i32 y0] 31)
        have CP := Bx.mk (putG (HG.out.new AL) HF (by omega) i0 i0 rfl q1 x0 y0 q2 q3 _ rfl)
        have b1 := box_at wr #[.int .u8 d0, .int .u32 i0, .int .i32 x0, .int .i32 y0] 31 1 _ rfl
        have b2 := box_at wr #[.int .u8 d0, .int .u32 i0, .int .i32 x0, .int .i32 y0] 31 2 _ rfl
        have b3 := box_at wr #[.int .u8 d0, .int .u32 i0, .int .i32 x0, .int .i32 y0] 31 3 _ rfl
        obtain ⟨E, hE⟩ : ∃ E, putE i0 x0 y0 = E := ⟨_, rfl⟩
        rw [hE] at CP
        have BAL := Bx.mk AL
        clear hq0 HM HM2 q1 q2 q3 AL HF hE
        repeat' (first | (go_at_call 12; (with_reducible refine (CP.out).mono ?_); rintro e w3 ⟨rfl, V3, G3⟩; dsimp only) | go_values | go_skip | go_guarded | go_step | go_upon | go_back)
        go_roundw
        case rel => exact ⟨j + 1, by go_num, by omega, ⟨by rw [HM3.out]; exact G3⟩, ⟨GUpd.now (HU.out.trans BAL.out) V3⟩⟩
        case measure => simp [intOf]; omega
      · have h80I : ¬ (j : Int) < 80 := by omega
        have HM := Bx.mk (show runM (L.take (min (j + 1) 80)) M0 = runM (L.take (min j 80)) M0 by rw [take_min_same L j 80 (by omega)])
        obtain ⟨⟨d0, i0, x0, y0⟩, hq0⟩ : ∃ q, L[j] = q := ⟨_, rfl⟩
        rw [hq0] at e0 e1 e2 e3
        have AL := Bx.mk ((Upd.refl Nowhere wr).alloc (.cells #[.int .u8 d0, .int .u32 i0, .int .i32 x0, .int .i32 y0] 31))
        clear hq0 hq
        repeat' (first | fail | go_values | go_skip | go_guarded | go_step | go_upon | go_back)
        go_roundw
        case rel => exact ⟨j + 1, by go_num, by omega, ⟨by rw [HM.out]; exact HG.out.new AL.out⟩, ⟨HU.out.trans AL.out⟩⟩
        case measure => simp [intOf]; omega
    · have hltI : ¬ (j : Int) < (n : Int) := by omega
      have HF := few_run L j
      generalize runM (L.take (min j 80)) M0 = M at *
      obtain ⟨hx, hy⟩ := BX1.out
      obtain ⟨hx2, hy2⟩ := BX2.out
      obtain ⟨E1, hE1⟩ : ∃ E, putE id x y = E := ⟨_, rfl⟩
      have P1 := Bx.mk (putG HG.out HF (by omega) id id rfl hid x y hx hy E1 hE1)
      by_cases h1 : E1 = 0
      · subst h1
        rw [putM_ok hE1] at P1
        have hw1 := putE_in hE1
        obtain ⟨cx, hcx⟩ : ∃ cx, cell x = cx := ⟨_, rfl⟩
        obtain ⟨cy, hcy⟩ : ∃ cy, cell y = cy := ⟨_, rfl⟩
        have hin : inI64 cx ∧ inI64 cy := by unfold cell at hcx hcy; unfold inWorld at hw1; unfold inI64; omega
        rw [hcx] at OX P1
        rw [hcy] at OY P1
        have HC := Bx.mk (And.intro hcx hcy)
        have hM1 := mset_same M id (some (cx, cy))
        have HF1 : Few (mset M id (some (cx, cy))) 81 := HF.set id _
        generalize mset M id (some (cx, cy)) = M1 at *
        obtain ⟨us, hu1, hu2⟩ := cells_ex HF1
        obtain ⟨nu, hnu⟩ : ∃ nu, us.length = nu := ⟨_, rfl⟩
        have CU := Bx.mk (fun {w' : World} (h : GR w.heap.size w' g M1) => usedG h us hu1 hu2 nu hnu)
        have hdom : ∀ {w' : World}, GR w.heap.size w' g M1 → ∀ i, M1 i = some (cx, cy) → i < 4294967296 := fun h i hi => (h.dom hi).1
        have HD := Bx.mk (@hdom)
        have HF2 := Bx.mk HF1
        have HI := Bx.mk hin
        obtain ⟨E2, hE2⟩ : ∃ E, putE id x2 y2 = E := ⟨_, rfl⟩
        have P2 := Bx.mk (fun {w' : World} (h : GR w.heap.size w' g M1) => putG h HF1 (by omega) id id rfl hid x2 y2 hx2 hy2 E2 hE2)
        have HE2 := Bx.mk hE2
        have HM1 := Bx.mk hM1
        have HE1 := Bx.mk hE1
        clear hu1 hu2 hnu hdom HF1 hin hE2 hM1 hE1 HF hw1
        have HXS : ∀ {w' : World}, GR w.heap.size w' g M1 → ∃ xs : List Nat, ∃ nx, xs.length = nx ∧ nx ≤ 81 ∧ Bx (∀ {w' : World}, GR w.heap.size w' g M1 → Calls Try.prog 13 #[.pointer (some ⟨g, 0, none⟩), .int .i64 cx, .int .i64 cy] w' fun e w2 => ∃ A c, e = .returned (.slice A nx c) ∧ Rd w2 A (idv xs) ∧ (A = none → nx = 0) ∧ New w' w2) := fun h => by
          obtain ⟨xs, hs1, hs2⟩ := sorted_ex (fun i => M1 i = some (cx, cy)) (fun i hi => HD.out h i hi)
          exact ⟨xs, _, rfl, few_len HF2.out (hs1.imp fun {a b} q => Nat.ne_of_lt q) (fun i hi => ⟨_, (hs2 i).1 hi⟩), ⟨fun h' => atG h' HF2.out (by omega) cx cy HI.out.1 HI.out.2 xs hs1 hs2 _ rfl⟩⟩
        have BXS := Bx.mk (@HXS)
        clear HXS
        go_upto_region 12 with (first | (go_at_call 12; (with_reducible refine (P1.out).mono ?_); rintro e w3 ⟨rfl, V3, G3⟩; dsimp only))
        obtain ⟨xs, nx, hnx, hnx81, CA⟩ := BXS.out G3
        have CS := Bx.mk (fun (A B : Option Addr) (c d : Nat) (w' : World) (hx : Rd w' A (idv xs)) (hy : Rd w' B (idv xs)) => (same_any A B nx nx c d xs xs w' hx hy hnx hnx (by omega)).mono (fun e w2 h => show e = .returned (.bool true) ∧ New w' w2 from ⟨h.1.trans (by simp), h.2⟩))
        have U3 := Bx.mk (GUpd.now HU.out V3)
        have G3b := Bx.mk G3
        clear V3 G3 BXS hnx81 hnx P1 HG HU
        by_cases h2 : E2 = 0
        · subst h2
          rw [putM_ok HE2.out] at P2
          have P3 := Bx.mk (fun {w' : World} (h : GR w.heap.size w' g (mset M1 id (some (cell x2, cell y2)))) => putG h (HF2.out.set id _) (by omega) id id rfl hid x y hx hy 0 HE1.out)
          have P4 := Bx.mk (fun {w' : World} (h : GR w.heap.size w' g M1) => putG h HF2.out (by omega) id id rfl hid x y hx hy 0 HE1.out)
          rw [putM_ok HE1.out, HC.out.1, HC.out.2, mset_back (some (cell x2, cell y2)) HM1.out] at P3
          rw [putM_ok HE1.out, HC.out.1, HC.out.2, mset_id HM1.out] at P4
          repeat' (first | (first
            | (have _m := S9; (go_at_call 14; (with_reducible refine (CU.out G9).mono ?_); rintro e w9' ⟨rfl, rfl⟩; dsimp only))
            | (have _m := R8; (go_at_call 15; (with_reducible refine (CS.out _ _ _ _ _ R8 R4').mono ?_); rintro e w9 ⟨rfl, V9⟩; have G9 := G8.new V9; have U9 := U8.trans V9; have S9 := V9; clear G8; dsimp only))
            | (have _m := G7; (go_at_call 13; (with_reducible refine (CA.out G7).mono ?_); rintro e w8 ⟨A8, c8, rfl, R8, _, V8⟩; have R4' := (GUpd.rd V7 (GUpd.rd V6 (GUpd.rd V5 R4))).new V8; have G8 := G7.new V8; have U8 := U7.trans V8; clear G7; dsimp only))
            | ((go_at_call 8; (with_reducible refine (OX.out _).mono ?_); rintro e w0' ⟨rfl, rfl⟩; dsimp only))
            | ((go_at_call 8; (with_reducible refine (OY.out _).mono ?_); rintro e w0' ⟨rfl, rfl⟩; dsimp only))
            | ((go_at_call 12; (with_reducible refine (P4.out G6).mono ?_); rintro e w7 ⟨rfl, V7, G7⟩; have U7 := GUpd.now U6 V7; clear G6; dsimp only))
            | ((go_at_call 12; (with_reducible refine (P3.out G5).mono ?_); rintro e w6 ⟨rfl, V6, G6⟩; have U6 := GUpd.now U5 V6; clear G5; dsimp only))
            | (have _m := GS; (go_at_call 12; (with_reducible refine (P2.out G4).mono ?_); rintro e w5 ⟨rfl, V5, G5⟩; have U5 := GUpd.now U4 V5; clear G4; dsimp only))
            | (have _m := R4; (go_at_call 14; (with_reducible refine (CU.out G4).mono ?_); rintro e w4' ⟨rfl, rfl⟩; have GS := U4; dsimp only))
            | ((go_at_call 13; (with_reducible refine (CA.out G3b.out).mono ?_); rintro e w4 ⟨A4, c4, rfl, R4, _, V4⟩; have G4 := G3b.out.new V4; have U4 := U3.out.trans V4; clear G3b; dsimp only))) | go_values | go_skip | go_guarded | go_step | go_upon | go_back)
          go_returns
          exact ⟨rfl, U9⟩
        · have h2I : ¬ E2 = 0 := h2
          have P2' := Bx.mk (fun {w' : World} (h : GR w.heap.size w' g M1) => (putM_no (M := M1) (by rw [HE2.out]; exact h2)) ▸ P2.out h)
          clear P2
          repeat' (first | (first
            | (have _m := GS; (go_at_call 13; (with_reducible refine (CA.out G5).mono ?_); rintro e w6 ⟨A6, c6, rfl, R6, _, V6⟩; have R4' := (GUpd.rd V5 R4).new V6; have G6 := G5.new V6; have U6 := U5.trans V6; clear R4; dsimp only))
            | (have _m := R6; (go_at_call 15; (with_reducible refine (CS.out _ _ _ _ _ R6 R4').mono ?_); rintro e w7 ⟨rfl, V7⟩; dsimp only))
            | ((go_at_call 8; (with_reducible refine (OX.out _).mono ?_); rintro e w0' ⟨rfl, rfl⟩; dsimp only))
            | ((go_at_call 8; (with_reducible refine (OY.out _).mono ?_); rintro e w0' ⟨rfl, rfl⟩; dsimp only))
            | (have _m := R4; (go_at_call 14; (with_reducible refine (CU.out G4).mono ?_); rintro e w4' ⟨rfl, rfl⟩; have GS := G4; dsimp only))
            | (have _m := GS; (go_at_call 12; (with_reducible refine (P2'.out G4).mono ?_); rintro e w5 ⟨rfl, V5, G5⟩; have U5 := GUpd.now U4 V5; dsimp only))
            | ((go_at_call 13; (with_reducible refine (CA.out G3b.out).mono ?_); rintro e w4 ⟨A4, c4, rfl, R4, _, V4⟩; have G4 := G3b.out.new V4; have U4 := U3.out.trans V4; dsimp only))) | go_values | go_skip | go_guarded | go_step | go_upon | go_back)
          go_returns
          exact ⟨rfl, U6.trans V7⟩
      · have h1I : ¬ E1 = 0 := h1
        rw [putM_no (by rw [hE1]; exact h1)] at P1
        repeat' (first | (go_at_call 12; (with_reducible refine (P1.out).mono ?_); rintro e w3 ⟨rfl, V3, G3⟩; dsimp only) | go_values | go_skip | go_guarded | go_step | go_upon | go_back)
        go_returns
        exact ⟨rfl, GUpd.now HU.out V3⟩
end Go.Proofs.Ytaliadekdpbfdaa
