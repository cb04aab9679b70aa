/- The reference's Put of a component: walked. -/
import Derived.Test.YtpfdbkfjjjiamaaCmP2
namespace Go.Proofs.Ytpfdbkfjjjiamaa
open Go.RowKit
theorem inL_in (n lo hi : Int) (h1 : lo ≤ n) (h2 : n ≤ hi) : inL n lo hi = Bi.numBits (n - lo).toNat (wid lo hi) := by
  rw [inL, if_neg (by omega)]
theorem bools_one' (l : List Bool) : ∀ u ∈ bools l, u.oneCell' = true := bools_one l
set_option maxRecDepth 20000 in
set_option maxHeartbeats 4000000 in
theorem refCmPut_any (k : Nat) (a b c : Int) (w : World) (hk : k < 256) :
    Calls Try.prog 21 #[.agg #[.int .u8 k, .int .i32 a, .int .i32 b, .int .i32 c]] w fun e w' => ∃ v', e = .returned (.tuple #[v', .int .i64 (chk k [a, b, c])]) ∧ w'.ownsRow w.heap.size 4 1 v' (ownW k [a, b, c]).length (bools (ownW k [a, b, c])) ∧ New w w' := by
  have C1 := Bx.mk (fun w => refCheck_any k a b c w hk)
  have BR := Bx.mk (rd_new w [.int .u8 k, .int .i32 a, .int .i32 b, .int .i32 c] 24)
  have hN0 : New w (w.alloc (.cells #[.int .u8 k, .int .i32 a, .int .i32 b, .int .i32 c] 24)) := (Upd.refl _ w).alloc _
  by_cases hg : chk k [a, b, c] = 0
  · have HE := Bx.mk (show ownW k [a, b, c] = bitsP (wholeTo k [a, b, c] (flds k).length) from if_pos hg)
    obtain ⟨_, g1, _⟩ := chk_good k a b c hg
    have hfl := flds_len k
    have HC := Bx.mk (fun w => refCount_any k w hk)
    have CRg := Bx.mk (fun (i : Nat) w => refRange_any k (i : Int) w hk)
    have CI := Bx.mk (fun (i : Nat) (hi : i < (flds k).length) w => refIn_any ([a, b, c].getD i 0) (rngLo k i) (rngHi k i) w (by have := g1 i hi; have := rng_bd k i hi; omega) (by have := g1 i hi; have := rng_bd k i hi; omega) (by have := rng_bd k i hi; omega) (by have := rng_bd k i hi; omega) (by have := rng_bd k i hi; omega) (by have := rng_bd k i hi; omega))
    have CB := Bx.mk (fun (i : Nat) (hi : i < (flds k).length) => And.intro (rng_bd k i hi) (g1 i hi))
    have CL := Bx.mk (fun (i : Nat) (hi : i < (flds k).length) => show bitsP (wholeTo k [a, b, c] (i + 1)) = bitsP (wholeTo k [a, b, c] i) ++ inL ([a, b, c].getD i 0) (rngLo k i) (rngHi k i) by rw [wholeTo_succ, bitsP_append, bitsP_cons, inL_in _ _ _ (g1 i hi).1 (g1 i hi).2]; simp [bitsP, fldP])
    have C0 := Bx.mk (show bitsP (wholeTo k [a, b, c] 0) = [] from rfl)
    have C6 := Bx.mk (fun (i : Nat) => show (bitsP (wholeTo k [a, b, c] i)).length ≤ 64 * i by rw [bitsP_length]; have := psize_le9 (wholeTo k [a, b, c] i) (wholeTo_64 _ _ _); rw [wholeTo_length] at this; exact this)
    have C7 := Bx.mk (fun (i : Nat) => inL_le ([a, b, c].getD i 0) (rngLo k i) (rngHi k i))
    rw [HE.out]
    rw [hg] at C1 ⊢
    generalize (flds k).length = n at *
    clear hg g1 HE
    go_enter Try.func21, Try.ntmps21
    obtain ⟨c0, c1, c2, c3⟩ := four_cells BR.out
    repeat' (first | (first
      | (go_at_call 10; go_loud ((with_reducible refine (C1.out _).mono ?_); rintro e w1 ⟨rfl, hu1⟩; (obtain ⟨e0, e1, e2, e3⟩ := four_cells (BR.out.new hu1)); dsimp only))
      | (go_at_call 11; go_loud ((with_reducible refine (HC.out _).mono ?_); rintro e w2 ⟨rfl, hu2⟩; dsimp only))) | go_values | go_skip | go_guarded | go_step | go_upon | go_back)
    have hN2 := (hN0.trans hu1).trans hu2
    have BR2 := Bx.mk ((BR.out.new hu1).new hu2)
    clear c0 c1 c2 c3 e0 e1 e2 e3
    go_loopw [5, 20] (fun s i wr => ∃ j : Nat, j ≤ n ∧ i = .int .i64 j ∧ wr.ownsRow w2.heap.size 4 1 s (bitsP (wholeTo k [a, b, c] j)).length (bools (bitsP (wholeTo k [a, b, c] j))) ∧ New w2 wr) (fun _ i _ => n - (intOf i).toNat)
    case atStart => exact ⟨0, Nat.zero_le _, rfl, by rw [C0.out]; exact World.ownsRow_nil _ _ _ _, Upd.refl _ _⟩
    case round =>
      obtain ⟨j, hj, rfl, ho, hN2r⟩ := hrel
      obtain ⟨x0, x1, x2, x3⟩ := four_cells (BR2.out.new hN2r)
      by_cases hlt : j < n
      · have hji : (j : Int) < (n : Int) := by omega
        obtain ⟨hb, hb2⟩ := CB.out j hlt
        have hcl := CL.out j hlt
        have h6 := C6.out j
        have h7 := C7.out j
        have hci := Bx.mk (CI.out j hlt)
        have hcr := Bx.mk (CRg.out j)
        have hHB := Bx.mk (comp_cell3 (BR2.out.new hN2r) j (by omega))
        have w1' : IntKind.i64.wrap ([a, b, c].getD j 0) = [a, b, c].getD j 0 := by rw [IntKind.wrap_i64]; omega
        have w2' : IntKind.i64.wrap (rngLo k j) = rngLo k j := by rw [IntKind.wrap_i64]; omega
        have w3' : IntKind.i64.wrap (rngHi k j) = rngHi k j := by rw [IntKind.wrap_i64]; omega
        generalize inL ([a, b, c].getD j 0) (rngLo k j) (rngHi k j) = I at *
        generalize [a, b, c].getD j 0 = f at *
        generalize rngLo k (j : Int) = lo at *
        generalize rngHi k (j : Int) = hh at *
        generalize rngE k (j : Int) = re at *
        have HCL := Bx.mk hcl
        clear hb hb2 hcl
        generalize bitsP (wholeTo k [a, b, c] j) = M at *
        obtain ⟨m, hm⟩ : ∃ m, M.length = m := ⟨_, rfl⟩
        obtain ⟨p, hp⟩ : ∃ p, I.length = p := ⟨_, rfl⟩
        rw [hm] at ho h6
        rw [hp] at hci h7
        have HM := Bx.mk hm
        have HP := Bx.mk hp
        clear hm hp
        have hj3 : (j : Int) < 3 := by omega
        repeat' (first | (first
          | (go_at_call 32; go_loud ((with_reducible refine (hcr.out _).mono ?_); rintro e w3 ⟨rfl, hu3⟩; (have hcc := hu3.cell hHB.out (fun q => q)); dsimp only))
          | (go_at_call 47; go_loud ((with_reducible refine (hci.out _).mono ?_); rintro e w4 ⟨vx, rfl, ho4, hu4⟩; have hN4 := (hN2r.trans hu3).trans hu4; have hoM := own_new (own_new ho hu3) hu4; have hs4 := own_src (P := Try.prog) (tx := 34) Try.underlying34 ho4 (bools_one I); dsimp only))
          | (at_builtin; go_loud (refine wpList_appN _ rfl _ _ 34 34 rfl _ 4 (.bool false) 1 1 Try.underlying34 infob rfl _ _ _ hoM rfl _ _ _ hs4 rfl _ hN4 ?c1 ?c2 ?_; (case c1 => unfold maxLen; omega); (case c2 => omega); intro v5 w5 ho5 hu5 hk5 hv5))) | go_values | go_skip | go_guarded | go_step | go_upon | go_back)
        go_roundw
        case rel => exact ⟨j + 1, by omega, by go_num, by rw [HCL.out, List.length_append, HM.out, HP.out, bools_append]; exact ho5, hu5⟩
        case measure => simp [intOf]; omega
      · obtain rfl : j = n := by omega
        repeat' (first | fail | go_values | go_skip | go_guarded | go_step | go_upon | go_back)
        go_returns
        exact ⟨_, rfl, own_lower ho hN2.size, hN2.trans hN2r⟩
  · have HE := Bx.mk (show ownW k [a, b, c] = [] from if_neg hg)
    rw [HE.out]
    have g1i : (chk k [a, b, c] == 0) = false := by simpa using hg
    generalize chk k [a, b, c] = e1 at *
    clear HE
    go_enter Try.func21, Try.ntmps21
    obtain ⟨c0, c1, c2, c3⟩ := four_cells BR.out
    repeat' (first | (first
      | (go_at_call 10; go_loud ((with_reducible refine (C1.out _).mono ?_); rintro e w1 ⟨rfl, hu1⟩; dsimp only))) | go_values | go_skip | go_guarded | go_step | go_upon | go_back)
    go_returns
    exact ⟨_, rfl, World.ownsRow_nil _ _ _ _, hN0.trans hu1⟩
end Go.Proofs.Ytpfdbkfjjjiamaa
