/- The lowest bit of a word, and the bits of bytes turned: walked. -/
import Derived.Test.YtefnpkmbjabcmaaDoorBi8
import Derived.Test.YtefnpkmbjabcmaaDoorNtPure
import Derived.Laws.BitsAllLaws
import Derived.StillTailTactics
namespace Go.Proofs.YtefnpkmbjabcmaaDoor
open Go.RowKit

/-- the table of the lowest bits lies where the package's variable lies -/
structure IsTab (w : World) : Prop where
  at_ : ∀ k : Nat, k < 32 → w.cell? ⟨0, (2 ^ k * 125613361 % 4294967296) / 134217728, none⟩ = some (.int .u8 k)
theorem IsTab.upd {S : Nat → Prop} {w w' : World} (h : IsTab w) (k : Upd S w w') (hn : ¬ S 0) : IsTab w' := ⟨fun i hi => k.cell (h.at_ i hi) hn⟩
theorem IsTab.new {w w' : World} (h : IsTab w) (k : New w w') : IsTab w' := h.upd k (fun q => q)

theorem TZ_any (x k : Nat) (w : World) (h0 : 0 < x) (hx : x < 4294967296) (hk : k < 32) (hl : x &&& (4294967296 - x) = 2 ^ k) (ht : IsTab w) :
    Calls Tryd.prog 26 #[.int .u32 x] w fun e w' => e = .returned (.int .i64 k) ∧ w' = w := by
  have hc := ht.at_ k hk
  have hb : bits .and .u32 (x : Int) (-(x : Int) % 4294967296) = ((2 ^ k : Nat) : Int) := by
    rw [show (-(x : Int) % 4294967296) = ((4294967296 - x : Nat) : Int) by omega, u32_and_nat _ _ hx (by omega), hl]
  have hq : 2 ^ k * 125613361 % 4294967296 / 134217728 < 32 := Nat.div_lt_of_lt_mul (Nat.mod_lt _ (by decide))
  have hm : ((2 ^ k : Nat) : Int) * 125613361 % 4294967296 / 134217728 = ((2 ^ k * 125613361 % 4294967296 / 134217728 : Nat) : Int) := by simp only [Int.natCast_ediv, Int.natCast_emod, Int.natCast_mul]; rfl
  generalize 2 ^ k * 125613361 % 4294967296 / 134217728 = q at hc hq hm
  generalize ((2 ^ k : Nat) : Int) = y at hb hm
  generalize hz : y * 125613361 % 4294967296 = z at hm
  have hq2 : (q : Int) < 32 := by omega
  clear hl hx hq
  go_enter Tryd.func26, Tryd.ntmps26
  generalize hQ : (q : Int) = Q at hm hq2
  have h00 : 0 ≤ Q := by omega
  rw [show q = Q.toNat by omega] at hc
  clear hQ
  go_wp2
  go_ret
  exact ⟨rfl, rfl⟩

theorem xor_bits8 (x y : BitVec 8) : bits .xor .u8 (x.toNat : Int) (y.toNat : Int) = ((x ^^^ y).toNat : Int) := by
  rw [u8_xor_nat _ _ x.isLt y.isLt, BitVec.toNat_xor]
theorem shl_one (r : Nat) (hr : r < 8) : ((2 : Int) ^ r % 256) = ((BitVec.twoPow 8 r).toNat : Int) := by
  have : r = 0 ∨ r = 1 ∨ r = 2 ∨ r = 3 ∨ r = 4 ∨ r = 5 ∨ r = 6 ∨ r = 7 := by omega
  rcases this with rfl | rfl | rfl | rfl | rfl | rfl | rfl | rfl <;> rfl

set_option maxRecDepth 4000 in
set_option maxHeartbeats 1000000 in
theorem Turned_any (A : Option Addr) (n c : Nat) (xs : List (BitVec 8)) (a : Int) (pat : Nat) (w : World) (hl : xs.length = n) (hm : n ≤ 200000) (hx : Rd w A (u8s xs))
    (ha : -9223372036854775808 ≤ a ∧ a ≤ 9223372036854775807) (hp : pat < 4294967296) (ht : IsTab w) :
    Calls Tryd.prog 8 #[.slice A n c, .int .i64 a, .int .u32 pat] w (RetRow 5 1 n (u8s (Nt.turned xs a pat)) w) := by
  have HL := Bx.mk hl
  have HPT := Bx.mk hp
  clear hl hp
  have hnb : (0 : Int) ≤ 8 * (n : Int) ∧ 8 * (n : Int) ≤ 8000000 := by omega
  have ha1 := ha.1
  have ha2 := ha.2
  clear ha
  go_enter Tryd.func8, Tryd.ntmps8
  repeat' (first | (go_at_call 25; (with_reducible refine (Clone_n A n c xs _ HL.out (by omega) hx).mono ?_); rintro e w1 ⟨v1, rfl, ho1, hu1⟩; (obtain ⟨A1, c1, rfl, hc1, hcm1, _, _⟩ := own_rd ho1); dsimp only) | go_values | go_skip | go_guarded | go_step | go_upon | go_back)
  go_loopw [2] (fun p wr => ∃ cur : Nat, p = .int .u32 cur ∧ Bx (cur < 4294967296) ∧ wr.ownsRow w.heap.size 5 1 (.slice A1 n c1) n (u8s (Nt.turned xs a (pat ^^^ cur))) ∧ New w wr) (fun p _ => (intOf p).toNat)
  case atStart => exact ⟨pat, rfl, HPT, by rw [Nat.xor_self, Nt.turned_zero]; exact ho1, hu1⟩
  case round =>
    obtain ⟨cur, rfl, HC, ho, hN⟩ := hrel
    rcases Nat.eq_zero_or_pos cur with rfl | hpos
    · rw [Nat.xor_zero] at ho
      go_wp2
      go_ret
      exact ⟨_, rfl, ho, hN⟩
    · obtain ⟨k, hk, e1, e2, e3⟩ := Nt.lowest cur hpos HC.out
      have hne : ¬ (cur : Int) = 0 := by omega
      have HX := Bx.mk (show pat ^^^ (cur ^^^ 2 ^ k) = (pat ^^^ cur) ^^^ 2 ^ k by rw [Nat.xor_assoc])
      have HA := Bx.mk (show bits .and .u32 (cur : Int) (((cur : Int) - 1) % 4294967296) = ((cur ^^^ 2 ^ k : Nat) : Int) by
        have hC := HC.out
        rw [← e1, ← u32_and_nat _ _ hC (by omega)]
        congr 1; omega)
      have H2 := Bx.mk e2
      have HC' := Bx.mk (show cur ^^^ 2 ^ k < 4294967296 by have := HC.out; omega)
      have hkI : (k : Int) < 32 := by omega
      generalize cur ^^^ 2 ^ k = nxt at *
      have H3 := Bx.mk e3
      clear e1 e2 e3
      have hT := ht.new hN
      by_cases hin : 0 ≤ a + k ∧ a + k < 8 * n
      · obtain ⟨j, hj⟩ := Int.eq_ofNat_of_zero_le hin.1
        have HP := Bx.mk (Nt.turned_in xs a (pat ^^^ cur) k j hk hj.symm)
        have hjn : j / 8 < n := by omega
        have f1 : -(k : Int) ≤ a := by omega
        have f2 : a < 8 * (n : Int) - (k : Int) := by omega
        have f3 : a + (k : Int) = (j : Int) := hj
        have f4 : IntKind.i64.wrap ((j : Int) / 8) = ((j / 8 : Nat) : Int) := by rw [IntKind.wrap_i64]; omega
        have f7 : IntKind.i64.wrap ((j : Int).tdiv 8) = ((j / 8 : Nat) : Int) := by rw [Int.tdiv_eq_ediv_of_nonneg (by omega), IntKind.wrap_i64]; omega
        have f5 : (j : Int).tmod 8 = ((j % 8 : Nat) : Int) := by rw [Int.tmod_eq_emod_of_nonneg (by omega)]; omega
        obtain ⟨g, c', hv, hg, hcell, hfz, hset⟩ := own_u8 ho (j / 8) hjn
        obtain ⟨rfl, rfl⟩ : A1 = some ⟨g, 0, none⟩ ∧ c1 = c' := by simpa using hv
        have HY := Bx.mk (show Nt.flip (Nt.turned xs a (pat ^^^ cur)) j = (Nt.turned xs a (pat ^^^ cur)).set (j / 8) ((Nt.turned xs a (pat ^^^ cur)).getD (j / 8) 0#8 ^^^ BitVec.twoPow 8 (j % 8)) from rfl)
        have hr8 : j % 8 < 8 := by omega
        have hsh := shl_one (j % 8) hr8
        generalize (Nt.turned xs a (pat ^^^ cur)).getD (j / 8) 0#8 = y at *
        have HO := Bx.mk (xor_bits8 y (BitVec.twoPow 8 (j % 8)))
        have HS := Bx.mk hset
        have hqn : ((j / 8 : Nat) : Int) < (n : Int) := by omega
        generalize j / 8 = q at *
        generalize j % 8 = r at *
        generalize BitVec.twoPow 8 r = msk at *
        clear hset hin
        go_wp2_with (go_at_call 26; (with_reducible refine (TZ_any cur k _ hpos HC.out hk H2.out hT).mono ?_); rintro e w2 ⟨rfl, rfl⟩; dsimp only)
        have f6 : IntKind.i64.wrap (j : Int) = (j : Int) := by rw [IntKind.wrap_i64]; omega
        go_still_tail 14, (by kernel_rfl)
        change wpList _ _ _ _ _ w2.drew
        go_wp2
        go_roundw
        case rel =>
          refine ⟨nxt, by rw [HA.out], HC', ?_, ?_⟩
          · rw [HX.out, HP.out, HY.out, HO.out]
            exact own_new (HS.out _) ((Upd.refl _ _).drew)
          · exact (hN.setCell (p := ⟨g, q, none⟩) (.inr hg) _).drew
        case measure => have := H3.out; simp [intOf, HA.out]; omega
      · have HP := Bx.mk (Nt.turned_out xs a (pat ^^^ cur) k hk (by rw [HL.out]; exact hin))
        by_cases f1 : -(k : Int) ≤ a
        · have f2 : ¬ a < 8 * (n : Int) - (k : Int) := by omega
          clear hin
          go_wp2_with (go_at_call 26; (with_reducible refine (TZ_any cur k _ hpos HC.out hk H2.out hT).mono ?_); rintro e w2 ⟨rfl, rfl⟩; dsimp only)
          go_roundw
          case rel => exact ⟨nxt, by rw [HA.out], HC', by rw [HX.out, HP.out]; exact ho, hN⟩
          case measure => have := H3.out; simp [intOf, HA.out]; omega
        · clear hin
          go_wp2_with (go_at_call 26; (with_reducible refine (TZ_any cur k _ hpos HC.out hk H2.out hT).mono ?_); rintro e w2 ⟨rfl, rfl⟩; dsimp only)
          go_roundw
          case rel => exact ⟨nxt, by rw [HA.out], HC', by rw [HX.out, HP.out]; exact ho, hN⟩
          case measure => have := H3.out; simp [intOf, HA.out]; omega

theorem hit_case (a : Int) (n i : Nat) (ha : -9223372036854775808 ≤ a ∧ a ≤ 9223372036854775807) (hi : i ≤ 8000000) :
    ((0 ≤ wrap64 ((i : Int) - a) ∧ wrap64 ((i : Int) - a) < 32 ∧ a ≤ i) ∧ ∃ k : Nat, k < 32 ∧ wrap64 ((i : Int) - a) = k ∧ Nt.hit a n i = n.testBit k) ∨ (¬ (0 ≤ wrap64 ((i : Int) - a) ∧ wrap64 ((i : Int) - a) < 32 ∧ a ≤ i) ∧ Nt.hit a n i = false) := by
  by_cases h : a ≤ i ∧ (i : Int) < a + 32
  · left
    have e : wrap64 ((i : Int) - a) = (i : Int) - a := by unfold wrap64; omega
    refine ⟨by omega, ((i : Int) - a).toNat, by omega, by omega, ?_⟩
    simp [Nt.hit, h]
  · right
    refine ⟨?_, by simp [Nt.hit, h]⟩
    unfold wrap64; omega
set_option maxHeartbeats 1000000 in
theorem refTurned_any (A : Option Addr) (n c : Nat) (xs : List (BitVec 8)) (a : Int) (pat : Nat) (w : World) (hl : xs.length = n) (hm : n ≤ 200000) (hx : Rd w A (u8s xs))
    (ha : -9223372036854775808 ≤ a ∧ a ≤ 9223372036854775807) (hp : pat < 4294967296) :
    Calls Tryd.prog 10 #[.slice A n c, .int .i64 a, .int .u32 pat] w (RetRow 5 1 n (u8s (Nt.turned xs a pat)) w) := by
  have HL := Bx.mk hl
  have HPT := Bx.mk hp
  have HBL := Bx.mk (Bi.bitsOf_length xs)
  have HD := Bx.mk (show Nt.turned xs a pat = Bi.pack (Nt.turnL (Bi.bitsOf xs) a pat) from rfl)
  have HNB := Bx.mk (Nt.turned_nbytes xs a pat)
  have hnb : (0 : Int) ≤ 8 * (n : Int) ∧ 8 * (n : Int) ≤ 8000000 := by omega
  rw [HL.out] at HBL HNB
  generalize hLL : Bi.bitsOf xs = L at *
  have HLL := Bx.mk hLL
  have ha1 := ha.1
  have ha2 := ha.2
  have HA := Bx.mk ha
  clear hl hp hLL ha
  go_enter Tryd.func10, Tryd.ntmps10
  repeat' (first | (go_at_call 27; (with_reducible refine (Bits_any A n c xs _ HL.out (by omega) hx).mono ?_); rintro e w1 ⟨v1, rfl, ho1, hu1⟩; (obtain ⟨A1, c1, rfl, hc1, hcm1, _, _⟩ := own_rd ho1); dsimp only) | go_values | go_skip | go_guarded | go_step | go_upon | go_back)
  rw [HLL.out] at ho1
  go_loopw [14] (fun i wr => ∃ k : Nat, k ≤ 8 * n ∧ i = .int .i64 k ∧ New w wr ∧ wr.ownsRow w.heap.size 4 1 (.slice A1 (8 * n) c1) (8 * n) (bools (Nt.upTo L a pat k))) (fun i _ => 8 * n - (intOf i).toNat)
  case atStart => exact ⟨0, by omega, rfl, hu1, by rw [Nt.upTo_zero]; exact ho1⟩
  case round =>
    obtain ⟨i, hi, rfl, hN, ho⟩ := hrel
    by_cases hlt : i < 8 * n
    · have hltI : (i : Int) < 8 * (n : Int) := by omega
      have HS := Bx.mk (Nt.upTo_succ L a pat i (by rw [HBL.out]; exact hlt))
      have HS2 := Bx.mk (Nt.upTo_same L a pat i (by rw [HBL.out]; exact hlt))
      have HG := Bx.mk (Nt.upTo_at L a pat i (by rw [HBL.out]; exact hlt))
      rcases hit_case a pat i HA.out (by omega) with ⟨⟨q1, q2, q3⟩, k, hk, hw, hb⟩ | ⟨hq, hb⟩
      · have HB := Bx.mk hb
        obtain ⟨g, c', hv, hg, hcell, hfz, hset⟩ := own_bool ho i hlt
        obtain ⟨rfl, rfl⟩ : A1 = some ⟨g, 0, none⟩ ∧ c1 = c' := by simpa using hv
        rw [HG.out] at hcell
        have hbit : (((pat : Int) / 2 ^ k).tmod 2 == 1) = pat.testBit k := by
          have e : ((pat : Int) / 2 ^ k) = ((pat / 2 ^ k : Nat) : Int) := by rw [Int.natCast_ediv, Int.natCast_pow]; rfl
          rw [e, Int.tmod_eq_emod_of_nonneg (Int.natCast_nonneg _), ← Bi.testBit_parity, Bool.eq_iff_iff]; simp; omega
        generalize pat.testBit k = bt at hbit HB
        generalize L.getD i false = y at hcell HG HS
        have HW := Bx.mk hset
        clear hb hset q1 q2
        cases bt
        · go_wp2
          go_roundw
          case rel => exact ⟨i + 1, by omega, by go_num, hN, by rw [HS2.out HB.out]; exact ho⟩
          case measure => simp [intOf]; omega
        · go_wp2
          go_roundw
          case rel => exact ⟨i + 1, by omega, by go_num, hN.setCell (p := ⟨g, i, none⟩) (.inr hg) _, by rw [HS.out, HB.out]; have := HW.out (!y); simpa using this⟩
          case measure => simp [intOf]; omega
      · have HB := Bx.mk hb
        clear hb
        by_cases q1 : 0 ≤ wrap64 ((i : Int) - a)
        · by_cases q2 : wrap64 ((i : Int) - a) < 32
          · have q3 : ¬ a ≤ (i : Int) := fun h => hq ⟨q1, q2, h⟩
            clear hq
            go_wp2
            go_roundw
            case rel => exact ⟨i + 1, by omega, by go_num, hN, by rw [HS2.out HB.out]; exact ho⟩
            case measure => simp [intOf]; omega
          · clear hq
            go_wp2
            go_roundw
            case rel => exact ⟨i + 1, by omega, by go_num, hN, by rw [HS2.out HB.out]; exact ho⟩
            case measure => simp [intOf]; omega
        · clear hq
          go_wp2
          go_roundw
          case rel => exact ⟨i + 1, by omega, by go_num, hN, by rw [HS2.out HB.out]; exact ho⟩
          case measure => simp [intOf]; omega
    · obtain rfl : i = 8 * n := by omega
      have HU := Bx.mk (show Nt.upTo L a pat (8 * n) = Nt.turnL L a pat by rw [← HBL.out]; exact Nt.upTo_all L a pat)
      rw [HU.out] at ho
      obtain ⟨A2, c2, hv2, _, _, hr2, _⟩ := own_rd ho
      obtain ⟨rfl, rfl⟩ : A1 = A2 ∧ c1 = c2 := by simpa using hv2
      clear hv2
      go_wp2_with (go_at_call 28; (with_reducible refine (refBytes_any A1 c1 (8 * n) (Nt.turnL L a pat) _ (by rw [Nt.turnL_length, HBL.out]) (by omega) hr2).mono ?_); rintro e w3 ⟨v3, rfl, ho3, hu3⟩; dsimp only)
      go_ret
      rw [HNB.out, ← HD.out] at ho3
      exact ⟨_, rfl, own_lower ho3 hN.size, hN.trans hu3⟩
end Go.Proofs.YtefnpkmbjabcmaaDoor
