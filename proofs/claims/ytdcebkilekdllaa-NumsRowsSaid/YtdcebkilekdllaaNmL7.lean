/- The law of numbers of both kinds, one behind the other. -/
import Derived.Test.YtdcebkilekdllaaNmL6
import Derived.Test.YtdcebkilekdllaaIntRow
namespace Go.Proofs.Ytdcebkilekdllaa
open Go.RowKit

def catTo (F : Nat → List Bool) (k : Nat) : List Bool := (List.range k).flatMap F
def catFrom (F : Nat → List Bool) (k j : Nat) : List Bool := (List.range' k j).flatMap F
theorem catTo_succ (F : Nat → List Bool) (k : Nat) : catTo F (k + 1) = catTo F k ++ F k := by simp [catTo, List.range_succ]
theorem catFrom_succ (F : Nat → List Bool) (k j : Nat) : catFrom F k (j + 1) = F k ++ catFrom F (k + 1) j := by simp [catFrom, List.range'_succ]
theorem catTo_from (F : Nat → List Bool) (k : Nat) : catTo F k = catFrom F 0 k := by rw [catTo, catFrom, List.range_eq_range']
theorem catTo_le (F : Nat → List Bool) (h : ∀ i, (F i).length ≤ 160) (k : Nat) : (catTo F k).length ≤ 160 * k := by
  induction k with
  | zero => simp [catTo]
  | succ k ih => rw [catTo_succ, List.length_append]; have := h k; omega
def rowF (Ns : List Int) (Ss : List Bool) (i : Nat) : List Bool := varBits (IntKind.u64.wrap (Ns.getD i 0)).toNat ++ (if Ss.getD i false = true then varBits (zig (Ns.getD i 0)).toNat else [])
theorem rowF_le (Ns : List Int) (Ss : List Bool) (i : Nat) : (rowF Ns Ss i).length ≤ 160 := by
  unfold rowF
  have h1 := grp_bd (IntKind.u64.wrap (Ns.getD i 0)).toNat
  have h2 := grp_bd (zig (Ns.getD i 0)).toNat
  rw [List.length_append, varBits_length]
  split
  · rw [varBits_length]; omega
  · rw [List.length_nil]; omega
theorem pv_big (L : List Bool) (x : Nat) (hL : L.length ≤ 1000000) : pvErr L x = 0 ∧ pvRes L x = L ++ varBits x := by
  have h := grp_bd x
  have hE : pvErr L x = 0 := by rw [pvErr, if_neg (by omega)]
  exact ⟨hE, by rw [pvRes, if_pos hE]⟩
theorem PutInt_b {w : World} {base g : Nat} {v : Value} {L : List Bool} (h : IsW w base g v L) (hb : base ≤ w.heap.size) (hL : L.length ≤ 1000000) (n : Int) (h1 : -9223372036854775808 ≤ n) (h2 : n ≤ 9223372036854775807) (z : Nat) (hz : zig n = z) (hzl : z < 18446744073709551616) :
    Calls Try.prog 35 #[.pointer (some ⟨g, 0, none⟩), .int .i64 n] w fun e w' => e = .returned (.int .i64 0) ∧ ∃ v', IsW w' base g v' (L ++ varBits z) ∧ Wrote base g v v' w w' := by
  have := PutInt_any h hb (by omega) n h1 h2 z hz hzl
  rwa [(pv_big L z hL).1, (pv_big L z hL).2] at this

set_option maxHeartbeats 4000000 in
theorem rows_any (A : Option Addr) (n c : Nat) (Ns : List Int) (B : Option Addr) (ns cs : Nat) (Ss : List Bool) (w : World) (hl : Ns.length = n) (hc : n ≤ c) (hA : A = none → n = 0) (hx : Rd w A (Ns.map (Value.int .i64))) (hb : ∀ i ∈ Ns, -9223372036854775808 ≤ i ∧ i ≤ 9223372036854775807) (hsl : Ss.length = ns) (hy : Rd w B (bools Ss)) :
    Calls Try.prog 9 #[.slice A n c, .slice B ns cs] w fun e w' => e = .returned (.bool true) ∧ New w w' := by
  obtain ⟨m, hm⟩ : ∃ m, min n 100 = m := ⟨_, rfl⟩
  have hmin : min (n : Int) 100 = (m : Int) := by omega
  have hm100 : m ≤ 100 := by omega
  have hmn : m ≤ n := by omega
  have hmni : (m : Int) ≤ (n : Int) := by omega
  have hmc : m ≤ c := by omega
  have hmci : (m : Int) ≤ (c : Int) := by omega
  have BCat := Bx.mk (catTo_le (rowF Ns Ss) (rowF_le Ns Ss))
  have BTo := Bx.mk (catTo_succ (rowF Ns Ss))
  have BFr := Bx.mk (catFrom_succ (rowF Ns Ss))
  have BTF := Bx.mk (catTo_from (rowF Ns Ss))
  have HL := Bx.mk hl
  have HS := Bx.mk hsl
  have BB := Bx.mk hb
  -- each number's facts
  have BN := Bx.mk (show ∀ k, k < m → ∃ (q : Int) (x z : Nat), Ns[k]? = some q ∧ IntKind.u64.wrap q = (x : Int) ∧ x < 18446744073709551616 ∧ zig q = z ∧ z < 18446744073709551616 ∧ -9223372036854775808 ≤ q ∧ q ≤ 9223372036854775807 ∧ rowF Ns Ss k = varBits x ++ (if Ss.getD k false = true then varBits z else []) by
    intro k hk
    have hkl : k < Ns.length := by omega
    have h := hb Ns[k] (List.getElem_mem hkl)
    have hz : 0 ≤ zig Ns[k] ∧ zig Ns[k] < 18446744073709551616 := by unfold zig; split <;> omega
    have hw : 0 ≤ IntKind.u64.wrap Ns[k] ∧ IntKind.u64.wrap Ns[k] < 18446744073709551616 := by rw [IntKind.wrap_u64]; omega
    refine ⟨Ns[k], (IntKind.u64.wrap Ns[k]).toNat, (zig Ns[k]).toNat, List.getElem?_eq_getElem hkl, by omega, by omega, by omega, by omega, h.1, h.2, ?_⟩
    rw [rowF, List.getD_eq_getElem?_getD, List.getElem?_eq_getElem hkl]; rfl)
  generalize rowF Ns Ss = F at *
  clear hm hl hsl hb hA hc
  go_enter Try.func9, Try.ntmps9
  repeat' (first | (first
    | ((with_reducible refine at_wpList ?_); refine wpList_min rfl _ _ _ _ rfl _ _ _ _ _ hmin rfl rfl ?_) | (go_at_call 11; go_loud ((with_reducible refine (awake_any _).mono ?_); rintro e w1 ⟨rfl, hu1⟩; dsimp only))
    | (go_at_call 38; go_loud ((with_reducible refine (New_any _).mono ?_); rintro e w2 ⟨rfl, hu2, hW2, -⟩; dsimp only))) | go_values | go_skip | go_guarded | go_step | go_upon | go_back)
  have hg := hu1.size
  have hN2 := hu1.trans hu2
  generalize w1.heap.size = g at *
  go_loopw [26] (fun i wr => ∃ (k : Nat) (v : Value), k ≤ m ∧ i = .int .i64 k ∧ IsW wr 0 g v (catTo F k) ∧ New w wr ∧ ∀ b, v.ownBlock = some b → w.heap.size ≤ b) (fun i _ => m - (intOf i).toNat)
  case atStart => exact ⟨0, _, by omega, rfl, hW2 0, hN2, fun b hb => by cases hb⟩
  case round =>
    obtain ⟨k, v, hk, rfl, hW, hN, hv⟩ := hrel
    by_cases hlt : k < m
    · obtain ⟨q, x, z, hq, hX, hxl, hz, hzl, hq1, hq2, hF⟩ := BN.out k hlt
      obtain ⟨b0, off, rfl, hcell⟩ : ∃ b off, A = some ⟨b, off, none⟩ ∧ wr.cell? ⟨b, off + k, none⟩ = some (.int .i64 q) := by
        have g0 : (Ns.map (Value.int .i64))[k]? = some (.int .i64 q) := by rw [List.getElem?_map, hq]; rfl
        rcases (hx.new hN) with h | ⟨b, off, h, hc⟩
        · rw [h] at g0; cases g0
        · exact ⟨b, off, h, hc _ _ g0⟩
      have hlen := BCat.out k
      have BL := Bx.mk (show (catTo F k).length ≤ 100000 by omega)
      have BL2 := Bx.mk (show (catTo F k ++ varBits x).length ≤ 1000000 by rw [List.length_append, varBits_length]; have := grp_bd x; omega)
      have CP := Bx.mk (PutVar_e hW (Nat.zero_le _) (by have := BL.out; omega) x _ hX hxl 0 (pv_big _ x (by have := BL.out; omega)).1 _ (pv_big _ x (by have := BL.out; omega)).2)
      have CI := Bx.mk (fun {w' : World} {v' : Value} (h : IsW w' 0 g v' (catTo F k ++ varBits x)) => PutInt_b h (Nat.zero_le _) BL2.out q hq1 hq2 z hz hzl)
      have BT := Bx.mk (show catTo F (k + 1) = catTo F k ++ varBits x ++ (if Ss.getD k false = true then varBits z else []) by rw [BTo.out, hF, List.append_assoc])
      clear hq hX hxl hz hzl hq1 hq2 hF hlen
      by_cases hks : k < ns
      · obtain ⟨b1, o1, rfl, hcs⟩ := bools_at hy k (by rw [HS.out]; exact hks)
        have BD := Bx.mk (show Ss.getD k false = Ss[k]'(by rw [HS.out]; exact hks) by rw [List.getD_eq_getElem?_getD, List.getElem?_eq_getElem (by rw [HS.out]; exact hks)]; rfl)
        generalize Ss[k]'(by rw [HS.out]; exact hks) = sb at hcs BD
        cases sb
        · rw [BD.out, if_neg (by decide), List.append_nil] at BT
          repeat' (first | (first
            | (go_at_call 34; go_loud ((with_reducible refine (CP.out).mono ?_); rintro e w4 ⟨rfl, v4, hW4, hU4⟩; (obtain ⟨hN4, hv4⟩ := hU4.fresh hN hg hv); have hcs4 := hN4.cell hcs (fun q => q); dsimp only))) | go_values | go_skip | go_guarded | go_step | go_upon | go_back)
          go_roundw
          case rel => exact ⟨k + 1, v4, by omega, by go_num, by rw [BT.out]; exact hW4, hN4, hv4⟩
          case measure => simp [intOf]; omega
        · rw [BD.out, if_pos rfl] at BT
          repeat' (first | (first
            | (go_at_call 34; go_loud ((with_reducible refine (CP.out).mono ?_); rintro e w4 ⟨rfl, v4, hW4, hU4⟩; (obtain ⟨hN4, hv4⟩ := hU4.fresh hN hg hv); have hcs4 := hN4.cell hcs (fun q => q); dsimp only))
            | (go_at_call 35; go_loud ((with_reducible refine (CI.out hW4).mono ?_); rintro e w5 ⟨rfl, v5, hW5, hU5⟩; (obtain ⟨hN5, hv5⟩ := hU5.fresh hN4 hg hv4); dsimp only))) | go_values | go_skip | go_guarded | go_step | go_upon | go_back)
          go_roundw
          case rel => exact ⟨k + 1, v5, by omega, by go_num, by rw [BT.out]; exact hW5, hN5, hv5⟩
          case measure => simp [intOf]; omega
      · have BD := Bx.mk (show Ss.getD k false = false by rw [List.getD_eq_getElem?_getD, List.getElem?_eq_none (by rw [HS.out]; omega)]; rfl)
        rw [BD.out, if_neg (by decide), List.append_nil] at BT
        repeat' (first | (first
          | (go_at_call 34; go_loud ((with_reducible refine (CP.out).mono ?_); rintro e w4 ⟨rfl, v4, hW4, hU4⟩; (obtain ⟨hN4, hv4⟩ := hU4.fresh hN hg hv); dsimp only))) | go_values | go_skip | go_guarded | go_step | go_upon | go_back)
        go_roundw
        case rel => exact ⟨k + 1, v4, by omega, by go_num, by rw [BT.out]; exact hW4, hN4, hv4⟩
        case measure => simp [intOf]; omega
    · obtain rfl : k = m := by omega
      have hlen := BCat.out k
      have BLL := Bx.mk (show (catTo F k).length ≤ 100000 by omega)
      obtain ⟨t, ht, hT⟩ := Bi.bitsOf_pack (catTo F k)
      have BT := Bx.mk (show Bi.bitsOf (Bi.pack (catTo F k)) = catFrom F 0 k ++ List.replicate t false by rw [← BTF.out]; exact hT)
      have BPl := Bx.mk (show (Bi.pack (catTo F k)).length ≤ 1000000 by rw [Bi.pack_length]; have := BLL.out; unfold Bi.nbytes; omega)
      clear hlen hT
      repeat' (first | (first
        | (go_at_call 22; go_loud ((with_reducible refine (Bytes_e hW (Nat.le_trans BLL.out (by decide)) _ rfl _ rfl).mono ?_); rintro e w13 ⟨v13, rfl, ho13, hu13⟩; (obtain ⟨A13, c13, rfl, _, _, hr13, _⟩ := own_rd ho13); dsimp only))
        | (go_at_call 25; go_loud ((with_reducible refine (Read_any A13 _ c13 _ _ (Bi.pack_length (catTo F k)) (by have := BLL.out; unfold Bi.nbytes; omega) hr13).mono ?_); rintro e w15 ⟨gr, vr, rfl, hI, hu15, hgr, -⟩; dsimp only))) | go_values | go_skip | go_guarded | go_step | go_upon | go_back)
      have hgr0 : w.heap.size ≤ gr := Nat.le_trans (hN.trans hu13).size hgr
      have n15 := (hN.trans hu13).trans hu15
      generalize Bi.pack (catTo F k) = P at *
      clear hW hN hv ho13 hu13 hr13 hu15 hW2 hN2 hu1 hu2
      obtain ⟨m, hmk⟩ : ∃ m, m = k := ⟨_, rfl⟩
      subst hmk
      go_loopw [56] (fun i wr => ∃ (k a : Nat), k ≤ m ∧ i = .int .i64 k ∧ IsR wr gr vr P a ∧ (Bi.bitsOf P).drop a = catFrom F k (m - k) ++ List.replicate t false ∧ a ≤ 8 * P.length ∧ New w wr) (fun i _ => m - (intOf i).toNat)
      case atStart => exact ⟨0, 0, by omega, rfl, hI, by rw [List.drop_zero, Nat.sub_zero]; exact BT.out, by omega, n15⟩
      case round =>
        obtain ⟨k, a, hk, rfl, hI, hR, ha, hN⟩ := hrel
        by_cases hlt : k < m
        · obtain ⟨q, x, z, hq, hX, hxl, hz, hzl, hq1, hq2, hF⟩ := BN.out k hlt
          obtain ⟨b0, off, rfl, hcell⟩ : ∃ b off, A = some ⟨b, off, none⟩ ∧ wr.cell? ⟨b, off + k, none⟩ = some (.int .i64 q) := by
            have g0 : (Ns.map (Value.int .i64))[k]? = some (.int .i64 q) := by rw [List.getElem?_map, hq]; rfl
            rcases (hx.new hN) with h | ⟨b, off, h, hc⟩
            · rw [h] at g0; cases g0
            · exact ⟨b, off, h, hc _ _ g0⟩
          have BGx := Bx.mk (fun T => gv_var x hxl T)
          have BGz := Bx.mk (fun T => gv_var z hzl T)
          have BZz := Bx.mk (zag_zig q z hz)
          have BZl := Bx.mk hzl
          have BS := Bx.mk (show m - k = m - (k + 1) + 1 by omega)
          rw [BS.out, BFr.out, hF, List.append_assoc, List.append_assoc] at hR
          have BH := Bx.mk hR
          clear hR hq hxl hz hzl hq1 hq2 hF BS
          by_cases hks : k < ns
          · obtain ⟨b1, o1, rfl, hcs⟩ := bools_at hy k (by rw [HS.out]; exact hks)
            have BD := Bx.mk (show Ss.getD k false = Ss[k]'(by rw [HS.out]; exact hks) by rw [List.getD_eq_getElem?_getD, List.getElem?_eq_getElem (by rw [HS.out]; exact hks)]; rfl)
            generalize Ss[k]'(by rw [HS.out]; exact hks) = sb at hcs BD
            cases sb
            · rw [BD.out, if_neg (by decide), List.nil_append] at BH
              repeat' (first | (first
                | (go_at_call 33; go_loud ((with_reducible refine (GetVar_e hI _ BH.out ha BPl.out x _ (BGx.out _)).mono ?_); rintro e w4 ⟨rfl, a4, hI4, hR4, ha4, hU4⟩; have BH4 := Bx.mk hR4; clear hR4; have hN4 := hN.then hU4 (fun b hb => .inr (by have hb' : b = gr := hb; omega)); have hcs4 := hN4.cell hcs (fun q => q); dsimp only))) | go_values | go_skip | go_guarded | go_step | go_upon | go_back)
              go_roundw
              case rel => exact ⟨k + 1, a4, by omega, by go_num, hI4, BH4.out, ha4, hN4⟩
              case measure => simp [intOf]; omega
            · rw [BD.out, if_pos rfl] at BH
              repeat' (first | (first
                | (go_at_call 33; go_loud ((with_reducible refine (GetVar_e hI _ BH.out ha BPl.out x _ (BGx.out _)).mono ?_); rintro e w4 ⟨rfl, a4, hI4, hR4, ha4, hU4⟩; have BH4 := Bx.mk hR4; clear hR4; have hN4 := hN.then hU4 (fun b hb => .inr (by have hb' : b = gr := hb; omega)); have hcs4 := hN4.cell hcs (fun q => q); dsimp only))
                | (go_at_call 32; go_loud ((with_reducible refine (GetInt_e hI4 _ BH4.out ha4 BPl.out z BZl.out _ (BGz.out _) q BZz.out).mono ?_); rintro e w5 ⟨rfl, a5, hI5, hR5, ha5, hU5⟩; have BH5 := Bx.mk hR5; clear hR5; have hN5 := hN4.then hU5 (fun b hb => .inr (by have hb' : b = gr := hb; omega)); dsimp only))) | go_values | go_skip | go_guarded | go_step | go_upon | go_back)
              go_roundw
              case rel => exact ⟨k + 1, a5, by omega, by go_num, hI5, BH5.out, ha5, hN5⟩
              case measure => simp [intOf]; omega
          · have BD := Bx.mk (show Ss.getD k false = false by rw [List.getD_eq_getElem?_getD, List.getElem?_eq_none (by rw [HS.out]; omega)]; rfl)
            rw [BD.out, if_neg (by decide), List.nil_append] at BH
            repeat' (first | (first
              | (go_at_call 33; go_loud ((with_reducible refine (GetVar_e hI _ BH.out ha BPl.out x _ (BGx.out _)).mono ?_); rintro e w4 ⟨rfl, a4, hI4, hR4, ha4, hU4⟩; have BH4 := Bx.mk hR4; clear hR4; have hN4 := hN.then hU4 (fun b hb => .inr (by have hb' : b = gr := hb; omega)); dsimp only))) | go_values | go_skip | go_guarded | go_step | go_upon | go_back)
            go_roundw
            case rel => exact ⟨k + 1, a4, by omega, by go_num, hI4, BH4.out, ha4, hN4⟩
            case measure => simp [intOf]; omega
        · obtain rfl : k = m := by omega
          rw [Nat.sub_self, show catFrom F k 0 = [] from rfl, List.nil_append] at hR
          have BH := Bx.mk hR
          clear hR
          repeat' (first | (first
            | (go_at_call 37; go_loud ((with_reducible refine (End_e hI _ BH.out ha BPl.out 0 (end_nought t ht)).mono ?_); rintro e w8 ⟨rfl, hu8⟩; dsimp only))) | go_values | go_skip | go_guarded | go_step | go_upon | go_back)
          go_ret
          exact ⟨rfl, hN.trans hu8⟩
end Go.Proofs.Ytdcebkilekdllaa
