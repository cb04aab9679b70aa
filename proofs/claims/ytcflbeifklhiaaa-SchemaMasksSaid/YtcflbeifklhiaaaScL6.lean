/- The law of masks. -/
import Derived.Test.YtcflbeifklhiaaaSc12
namespace Go.Proofs.Ytcflbeifklhiaaa
open Go.RowKit

def cnt (p : Nat → Bool) (j : Nat) : Nat := (List.range j).countP p
theorem cnt_succ (p : Nat → Bool) (j : Nat) : cnt p (j + 1) = cnt p j + (p j).toNat := by
  rw [cnt, List.range_succ, List.countP_append]; cases h : p j <;> simp [cnt, h]
theorem cnt_le (p : Nat → Bool) (j : Nat) : cnt p j ≤ j := by
  have := List.countP_le_length (p := p) (l := List.range j)
  simpa [cnt] using this
theorem cnt_one (a : Nat) (p : Nat → Bool) (h : p a = false) (j : Nat) : cnt (fun i => (a == i) || p i) j = cnt p j + (if a < j then 1 else 0) := by
  induction j with
  | zero => simp [cnt]
  | succ j ih =>
    rw [cnt_succ, cnt_succ, ih]
    by_cases hj : a = j
    · subst hj; simp [h]
    · have : (a == j) = false := by simpa using hj
      simp only [this, Bool.false_or]
      split <;> split <;> omega
theorem chk_six (k : Nat) (F : List Int) (h : chk k F = 0) : k < 6 := by
  rcases Nat.lt_or_ge k 6 with q | q
  · exact q
  · rw [chk, flds_big k q] at h; simp at h
theorem lsE_ok : ∀ (L : List C4) (last : Int), lsE last L = 0 → (∀ q ∈ L, q.k < 6 ∧ last < (q.k : Int)) ∧ cnt (has L) 8 = L.length := by
  intro L
  induction L with
  | nil => intro last _; exact ⟨(fun q h => by cases h), by decide⟩
  | cons q L ih =>
    intro last h
    rw [lsE] at h
    by_cases he : q.e ≠ 0
    · rw [if_pos he] at h; exact absurd h he
    · rw [if_neg he] at h
      by_cases hk : (q.k : Int) ≤ last
      · rw [if_pos hk] at h; cases h
      · rw [if_neg hk] at h
        obtain ⟨h1, h2⟩ := ih _ h
        have h6 : q.k < 6 := chk_six q.k _ (by simpa [C4.e] using he)
        refine ⟨fun r hr => ?_, ?_⟩
        · rcases List.mem_cons.1 hr with rfl | hr
          · exact ⟨h6, by omega⟩
          · have := h1 r hr; exact ⟨this.1, by omega⟩
        · have hno : has L q.k = false := by
            rw [has, List.any_eq_false]
            intro r hr hrk
            have := (h1 r hr).2
            simp at hrk
            omega
          have hf : has (q :: L) = fun i => (q.k == i) || has L i := by funext i; simp [has]
          rw [hf, cnt_one q.k _ hno 8, if_pos (by omega), h2, List.length_cons]
theorem and_bit8 (y : BitVec 8) (r : Nat) : bits .and .u8 ((y.toNat : Int) / 2 ^ r) 1 = ((y.getLsbD r).toNat : Int) := by
  have e : ((y.toNat : Int) / 2 ^ r) = ((y.toNat / 2 ^ r : Nat) : Int) := by rw [Int.natCast_ediv, Int.natCast_pow]; rfl
  rw [e, show (1 : Int) = ((1 : Nat) : Int) from rfl, u8_and_nat _ _ (Nat.lt_of_le_of_lt (Nat.div_le_self _ _) y.isLt) (by decide), Nat.and_one_is_mod, BitVec.getLsbD, Nat.testBit, Nat.shiftRight_eq_div_pow, Nat.one_and_eq_mod_two]
  rcases Nat.mod_two_eq_zero_or_one (y.toNat / 2 ^ r) with h | h <;> simp [h]
theorem ccells_take (L : List C4) (k : Nat) : ccells (L.take k) = (ccells L).take (k * 4) := by
  induction L generalizing k with
  | nil => simp [ccells]
  | cons q L ih =>
    cases k with
    | zero => simp [ccells]
    | succ k =>
      have e : ccells (q :: L) = [.int .u8 q.k, .int .i32 q.a, .int .i32 q.b, .int .i32 q.c] ++ ccells L := by simp [ccells]
      have e2 : ccells ((q :: L).take (k + 1)) = [.int .u8 q.k, .int .i32 q.a, .int .i32 q.b, .int .i32 q.c] ++ ccells (L.take k) := by simp [ccells]
      rw [e, e2, ih, show (k + 1) * 4 = k * 4 + 4 by omega]
      simp [List.take_succ_cons]

set_option maxHeartbeats 4000000 in
theorem masks_any (A : Option Addr) (n c : Nat) (Ls : List C4) (w : World) (hl : Ls.length = n) (hc : n ≤ c) (hA : A = none → n = 0) (hx : Rd w A (ccells Ls)) (hk : ∀ q ∈ Ls, q.k < 256) :
    Calls Try.prog 7 #[.slice A n c] w fun e w' => e = .returned (.bool true) ∧ New w w' := by
  obtain ⟨m, hm⟩ : ∃ m, min n 20 = m := ⟨_, rfl⟩
  have hmin : min (n : Int) 20 = (m : Int) := by omega
  have hm20 : m ≤ 20 := by omega
  have hmn : m ≤ n := by omega
  have hmni : (m : Int) ≤ (n : Int) := by omega
  have hmc : m ≤ c := by omega
  have hmci : (m : Int) ≤ (c : Int) := by omega
  have hx1 := hx.take (m * 4)
  rw [← ccells_take] at hx1
  have hl1 : (Ls.take m).length = m := by rw [List.length_take]; omega
  have hA1 : A = none → m = 0 := fun h => by have := hA h; omega
  have hk1 : ∀ q ∈ Ls.take m, q.k < 256 := fun q hq => hk q (List.mem_of_mem_take hq)
  generalize Ls.take m = L at *
  have HL := Bx.mk hl1
  have HA := Bx.mk hA1
  have HK := Bx.mk hk1
  obtain ⟨E, hE⟩ : ∃ E, lsE (-1) L = E := ⟨_, rfl⟩
  have BE := Bx.mk hE
  clear hl hA hA1 hx hl1 hm hk hk1
  have CT := Bx.mk (fun w h => Twin_any A m c L w HL.out (by omega) HA.out h)
  have CL := Bx.mk (fun (A' : Option Addr) c' w h => by
    have := List_any A' m c' L w HL.out (by omega) h HK.out
    rw [BE.out] at this
    exact this)
  have CR := Bx.mk (fun w h => by
    have := refList_any A m c L w HL.out (by omega) h HK.out
    rw [BE.out] at this
    exact this)
  have CM := Bx.mk (fun w h => Mask_any A m c L w HL.out (by omega) h)
  have CF := Bx.mk (fun i w h => Find_any A m c L i w HL.out (by omega) h)
  by_cases hE0 : E = 0
  · subst hE0
    obtain ⟨hs6, hcnt⟩ := lsE_ok L (-1) hE
    have HM := Bx.mk (fun i (hi : i < 8) => mk_bit L i hi (fun q hq => (hs6 q hq).1))
    have HN := Bx.mk hcnt
    have HAnd := Bx.mk (fun i => and_bit8 (mk L) i)
    clear hE hs6 hcnt
    generalize mk L = y at *
    go_enter Try.func7, Try.ntmps7
    repeat' (first | (first
      | ((with_reducible refine at_wpList ?_); refine wpList_min rfl _ _ _ _ rfl _ _ _ _ _ hmin rfl rfl ?_) | (go_at_call 9; go_loud ((with_reducible refine (awake_any _).mono ?_); rintro e w1 ⟨rfl, hu1⟩; dsimp only))
      | (go_at_call 17; go_loud ((with_reducible refine (CT.out _ (hx1.new hu1)).mono ?_); rintro e w2 ⟨v2, rfl, ho2, hu2⟩; (obtain ⟨A2, c2, rfl, _, _, hr2, _⟩ := own_rd ho2); have hN2 := hu1.trans hu2; dsimp only))
      | (go_at_call 18; go_loud ((with_reducible refine (CL.out A2 c2 _ hr2).mono ?_); rintro e w3 ⟨rfl, hu3⟩; have hN3 := hN2.trans hu3; dsimp only))
      | (go_at_call 20; go_loud ((with_reducible refine (CM.out _ (hx1.new hN3)).mono ?_); rintro e w4 ⟨rfl, hu4⟩; have hN4 := hN3.trans hu4; dsimp only))) | go_values | go_skip | go_guarded | go_step | go_upon | go_back)
    go_loopw [4, 22] (fun z i wr => ∃ (j : Nat), j ≤ 8 ∧ i = .int .u8 j ∧ z = .int .i64 (cnt (has L) j) ∧ New w wr) (fun _ i _ => 8 - (intOf i).toNat)
    case atStart => exact ⟨0, by omega, rfl, rfl, hN4⟩
    case round =>
      obtain ⟨j, hj, rfl, rfl, hN⟩ := hrel
      by_cases hlt : j < 8
      · have hb := HM.out j hlt
        have hand := HAnd.out j
        rw [hb] at hand
        have HS := Bx.mk (cnt_succ (has L) j)
        have hle := cnt_le (has L) j
        have BF := Bx.mk (fun w h => CF.out j w h)
        have hxr := hx1.new hN
        generalize cnt (has L) j = z at *
        generalize has L j = bit at *
        cases bit with
        | true =>
          rw [Bool.toNat_true] at hand
          repeat' (first | (go_at_call 23; go_loud ((with_reducible refine (BF.out _ hxr).mono ?_); rintro e w5 ⟨F, rfl, hF, hu5⟩; dsimp only)) | go_values | go_skip | go_guarded | go_step | go_upon | go_back)
          go_roundw
          case rel => exact ⟨j + 1, by omega, by go_num, by rw [HS.out]; go_num, hN.trans hu5⟩
          case measure => simp [intOf]; omega
        | false =>
          rw [Bool.toNat_false] at hand
          repeat' (first | (go_at_call 23; go_loud ((with_reducible refine (BF.out _ hxr).mono ?_); rintro e w5 ⟨F, rfl, hF, hu5⟩; dsimp only)) | go_values | go_skip | go_guarded | go_step | go_upon | go_back)
          go_roundw
          case rel => exact ⟨j + 1, by omega, by go_num, by rw [HS.out]; go_num, hN.trans hu5⟩
          case measure => simp [intOf]; omega
      · obtain rfl : j = 8 := by omega
        rw [HN.out, HL.out]
        repeat' (first | fail | go_values | go_skip | go_guarded | go_step | go_upon | go_back)
        go_ret
        exact ⟨rfl, hN⟩
  · clear hE
    go_enter Try.func7, Try.ntmps7
    repeat' (first | (first
      | ((with_reducible refine at_wpList ?_); refine wpList_min rfl _ _ _ _ rfl _ _ _ _ _ hmin rfl rfl ?_) | (go_at_call 9; go_loud ((with_reducible refine (awake_any _).mono ?_); rintro e w1 ⟨rfl, hu1⟩; dsimp only))
      | (go_at_call 17; go_loud ((with_reducible refine (CT.out _ (hx1.new hu1)).mono ?_); rintro e w2 ⟨v2, rfl, ho2, hu2⟩; (obtain ⟨A2, c2, rfl, _, _, hr2, _⟩ := own_rd ho2); have hN2 := hu1.trans hu2; dsimp only))
      | (go_at_call 18; go_loud ((with_reducible refine (CL.out A2 c2 _ hr2).mono ?_); rintro e w3 ⟨rfl, hu3⟩; have hN3 := hN2.trans hu3; dsimp only))
      | (go_at_call 19; go_loud ((with_reducible refine (CR.out _ (hx1.new hN3)).mono ?_); rintro e w4 ⟨rfl, hu4⟩; have hN4 := hN3.trans hu4; dsimp only))) | go_values | go_skip | go_guarded | go_step | go_upon | go_back)
    go_ret
    exact ⟨rfl, hN4⟩
end Go.Proofs.Ytcflbeifklhiaaa
