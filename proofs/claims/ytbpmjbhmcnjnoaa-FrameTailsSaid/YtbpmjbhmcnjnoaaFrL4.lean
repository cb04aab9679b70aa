/- The law FrameLimits: walked. -/
import Derived.Test.YtbpmjbhmcnjnoaaFrL3
namespace Go.Proofs.Ytbpmjbhmcnjnoaa
open Go.RowKit

theorem limit_err (ys : List Byte) (n : Nat) (h : ys.length = n) : (4096 < n → openErr (ys ++ [0#8, 0#8, 0#8, 0#8]) = 3) ∧ (n ≤ 4096 → openErr (ys ++ [0#8, 0#8, 0#8, 0#8]) ≠ 3) := by
  have hl : (ys ++ [0#8, 0#8, 0#8, 0#8]).length = n + 4 := by rw [List.length_append, h]; rfl
  refine ⟨fun hn => ?_, fun hn => ?_⟩
  · rw [openErr, if_neg (by omega), if_pos (by omega)]
  · rw [openErr, if_neg (by omega), if_neg (by omega)]; split <;> decide

set_option maxHeartbeats 400000 in
theorem FrameLimits_any (a : Nat) (b : Byte) (w : World) (ha : a ≤ 255) :
    Calls Try.prog 9 #[.int .u8 a, .int .u8 b.toNat] w fun e w' => e = .returned (.bool true) ∧ New w w' := by
  have hmod : (a : Int) % 5 = ((a % 5 : Nat) : Int) := by omega
  have hj : a % 5 < 5 := Nat.mod_lt _ (by decide)
  generalize a % 5 = j at hmod hj
  have hK : (4094 : Int) + (j : Int) = ((4094 + j : Nat) : Int) := by omega
  have hK1 : 4094 + j ≤ 4098 := by omega
  have hK2 : 4094 ≤ 4094 + j := by omega
  generalize 4094 + j = K at hK hK1 hK2
  have HF := Bx.mk (fillTo_all (fun _ => Value.int .u8 (b.toNat : Int)) (.int .u8 0) K)
  have HL := Bx.mk (show (List.replicate K b).length = K by simp)
  have HU := Bx.mk (show (List.range K).map (fun _ => Value.int .u8 (b.toNat : Int)) = u8s (List.replicate K b) by
    apply List.ext_getElem <;> simp [u8s])
  have hbl := b.isLt
  go_enter Try.func9, Try.ntmps9
  go_wp2_with (first | ((with_reducible refine at_wpList ?_); refine wpList_make rfl _ _ _ rfl 5 (.int .u8 0) 1 Try.underlying22 info8 rfl K _ _ rfl rfl ?c1 ?c2 _ _ hu1 ?_; (case c1 => omega); (case c2 => unfold maxLen; omega); intro w2 ho2 hu2 hn2) | (go_at_call 10; (with_reducible refine (awake_any _).mono ?_); rintro e w1 ⟨rfl, hu1⟩; dsimp only))
  generalize hg : w1.heap.size = g at ho2
  have hgw : w.heap.size ≤ g := by rw [← hg]; exact hu1.size
  have HG := Bx.mk hg
  clear hg
  go_loopw [7, 25] (fun _ i wr => ∃ k : Nat, k ≤ K ∧ i = .int .i64 k ∧ New w wr ∧ wr.ownsRow g 5 1 (.slice (some ⟨g, 0, none⟩) K K) K (fillTo (fun _ => .int .u8 (b.toNat : Int)) (.int .u8 0) K k)) (fun _ i _ => K - (intOf i).toNat)
  case atStart => exact ⟨0, by omega, rfl, hu2, by rw [fillTo_zero]; exact ho2⟩
  case round =>
    obtain ⟨k, hk, rfl, hu, ho⟩ := hrel
    by_cases hlt : k < K
    · obtain ⟨g', c, hv, hg, ⟨u, hku, hcell⟩, hfz, hset⟩ := own_elem ho k hlt
      obtain ⟨rfl, rfl⟩ : g = g' ∧ K = c := by simpa using hv
      have HT := Bx.mk (fillTo_set (fun _ => .int .u8 (b.toNat : Int)) (.int .u8 0) K k)
      have HS := Bx.mk hset
      clear hv hku hset
      go_wp2
      go_roundw
      case rel => exact ⟨k + 1, by omega, by go_num, hu.setCell (.inr hgw) _, by rw [← HT.out]; exact HS.out _⟩
      case measure => simp [intOf]; omega
    · obtain rfl : k = K := by omega
      rw [HF.out, HU.out] at ho
      have HQ := Bx.mk (limit_err (List.replicate k b) k HL.out)
      generalize List.replicate k b = ys at *
      have hr0 := (own_some ho (by omega))
      obtain ⟨g', c', hv, _, _, _, _, hr0⟩ := hr0
      obtain ⟨rfl, rfl⟩ : g = g' ∧ k = c' := by simpa using hv
      have HQL := Bx.mk (show (ys ++ [0#8, 0#8, 0#8, 0#8]).length = k + 4 by rw [List.length_append, HL.out]; rfl)
      clear hv ho HF HU hu2 ho2 HG
      have hb4 : ∀ w, (Instr.buildSlice 22 4 #[(0, .int .u8 0), (1, .int .u8 0), (2, .int .u8 0), (3, .int .u8 0)]).run Try.prog w = .ok (.slice (some ⟨w.heap.size, 0, none⟩) 4 4) (w.alloc (.cells (u8s [0#8, 0#8, 0#8, 0#8]).toArray 5)) := fun _ => by kernel_rfl
      have HB4 := Bx.mk hb4
      clear hb4
      by_cases h : 4096 < k
      · have HS1 := Bx.mk (show sealRes ys = [] from if_neg (by rw [HL.out]; omega))
        have HS2 := Bx.mk (show sealErr ys = 3 from if_neg (by rw [HL.out]; omega))
        have HO1 := Bx.mk (HQ.out.1 h)
        have HO2 := Bx.mk (open_err _ (by rw [HO1.out]; decide))
        go_wp2_with (first | ((with_reducible refine at_wpList ?_); refine wpList_buildSlice rfl _ _ _ rfl _ _ _ (HB4.out _) rfl ?_) | ((at_builtin; refine wpList_appN _ rfl _ _ 22 22 rfl _ 5 (.int .u8 0) 1 1 Try.underlying22 info8 rfl _ _ _ ho4 rfl _ _ _ hs4 rfl _ (hu4.alloc _) ?c1 ?c2 ?_; (case c1 => unfold maxLen; omega); (case c2 => omega); intro v5 w5 ho5 hu5 hk5 hv5); rw [← u8s_append] at ho5; obtain ⟨A5, c5, rfl, hc5, _, hr5, _⟩ := own_rd ho5) | ((at_builtin; refine wpList_appN _ rfl _ _ 22 22 rfl _ 5 (.int .u8 0) 1 1 Try.underlying22 info8 rfl _ _ _ hl0 rfl _ _ _ hs0 rfl _ ((Upd.refl Nowhere w3).alloc _) ?c1 ?c2 ?_; (case c1 => unfold maxLen; omega); (case c2 => omega); intro v4 w4 ho4' hu4 hk4 hv4); rw [Nat.zero_add, List.nil_append] at ho4'; have ho4 := ho4'.alloc (.cells (u8s [0#8, 0#8, 0#8, 0#8]).toArray 5); have hs4 := Src.ofSlice (P := Try.prog) (size := 1) _ Try.underlying22 _ 4 4 _ rfl (cells_new w4 (u8s [0#8, 0#8, 0#8, 0#8]) 5) (u8s_one _)) | (go_at_call 19; (with_reducible refine (frSeal_n _ _ _ ys _ HL.out (by omega) hr0).mono ?_); rintro e w3 ⟨v3, rfl, ho3, hu3⟩; rw [HS1.out] at ho3; rw [HS2.out]; obtain ⟨A3, c3, rfl, hc3, _, hr3, _⟩ := own_rd ho3; have hl0 := own_lit0 w3 w3.heap.size 5 1 (Nat.le_refl _); have hs0 := ((hr0.new hu3).new ((Upd.refl _ w3).alloc (.cells #[] 5))).src (P := Try.prog) (n := k) (c := k) (size := 1) Try.underlying22 (fun h => by cases h) (by rw [u8s_length, HL.out, Nat.mul_one]) (u8s_one ys); dsimp only) | (go_at_call 16; (with_reducible refine (frOpen_n _ _ _ (ys ++ [0#8, 0#8, 0#8, 0#8]) _ HQL.out (by omega) (by omega) hr5).mono ?_); rintro e w6 ⟨v6, rfl, ho6, hu6⟩; rw [HO2.out] at ho6; rw [HO1.out]; obtain ⟨A6, c6, rfl, hc6, _, hr6, _⟩ := own_rd ho6; dsimp only))
        go_ret
        exact ⟨rfl, (((hu.trans hu3).trans hu5).trans hu6)⟩
      · have hk4 : k ≤ 4096 := by omega
        have HS1 := Bx.mk (show sealRes ys = sealed ys from if_pos (by rw [HL.out]; exact hk4))
        have HS2 := Bx.mk (show sealErr ys = 0 from if_pos (by rw [HL.out]; exact hk4))
        have HS3 := Bx.mk ((sealed_length ys).trans (by rw [HL.out]))
        have HO := Bx.mk (open_sealed ys (by rw [HL.out]; exact hk4))
        have hne := HQ.out.2 hk4
        generalize hE : openErr (ys ++ [0#8, 0#8, 0#8, 0#8]) = E at hne
        have HE := Bx.mk hE
        have hE3 : ((E : Int) != 3) = true := by rw [bne_iff_ne]; omega
        clear hE hne
        go_wp2_with (first | ((with_reducible refine at_wpList ?_); refine wpList_buildSlice rfl _ _ _ rfl _ _ _ (HB4.out _) rfl ?_) | ((at_builtin; refine wpList_appN _ rfl _ _ 22 22 rfl _ 5 (.int .u8 0) 1 1 Try.underlying22 info8 rfl _ _ _ ho4 rfl _ _ _ hs4 rfl _ (hu4.alloc _) ?c1 ?c2 ?_; (case c1 => unfold maxLen; omega); (case c2 => omega); intro v5 w5 ho5 hu5 hk5 hv5); rw [← u8s_append] at ho5; obtain ⟨A5, c5, rfl, hc5, _, hr5, _⟩ := own_rd ho5) | ((at_builtin; refine wpList_appN _ rfl _ _ 22 22 rfl _ 5 (.int .u8 0) 1 1 Try.underlying22 info8 rfl _ _ _ hl0 rfl _ _ _ hs0 rfl _ ((Upd.refl Nowhere w3).alloc _) ?c1 ?c2 ?_; (case c1 => unfold maxLen; omega); (case c2 => omega); intro v4 w4 ho4' hu4 hk4 hv4); rw [Nat.zero_add, List.nil_append] at ho4'; have ho4 := ho4'.alloc (.cells (u8s [0#8, 0#8, 0#8, 0#8]).toArray 5); have hs4 := Src.ofSlice (P := Try.prog) (size := 1) _ Try.underlying22 _ 4 4 _ rfl (cells_new w4 (u8s [0#8, 0#8, 0#8, 0#8]) 5) (u8s_one _)) | (go_at_call 19; (with_reducible refine (frSeal_n _ _ _ ys _ HL.out (by omega) hr0).mono ?_); rintro e w3 ⟨v3, rfl, ho3, hu3⟩; rw [HS1.out, HS3.out] at ho3; rw [HS2.out]; obtain ⟨A3, c3, rfl, hc3, _, hr3, _⟩ := own_rd ho3; have hl0 := own_lit0 w3 w3.heap.size 5 1 (Nat.le_refl _); have hs0 := ((hr0.new hu3).new ((Upd.refl _ w3).alloc (.cells #[] 5))).src (P := Try.prog) (n := k) (c := k) (size := 1) Try.underlying22 (fun h => by cases h) (by rw [u8s_length, HL.out, Nat.mul_one]) (u8s_one ys); dsimp only) | (go_at_call 16; (with_reducible refine (frOpen_n _ _ _ (ys ++ [0#8, 0#8, 0#8, 0#8]) _ HQL.out (by omega) (by omega) hr5).mono ?_); rintro e w6 ⟨v6, rfl, ho6, hu6⟩; rw [HE.out]; have hr36 := (hr3.new hu5).new hu6; dsimp only) | (go_at_call 16; (with_reducible refine (frOpen_n _ _ _ (sealed ys) _ HS3.out (by omega) (by omega) hr36).mono ?_); rintro e w7 ⟨v7, rfl, ho7, hu7⟩; rw [HO.out.2, HL.out] at ho7; rw [HO.out.1]; obtain ⟨A7, c7, rfl, hc7, _, hr7, _⟩ := own_rd ho7; dsimp only) | (go_at_call 18; (with_reducible refine (Same_n _ _ _ _ _ _ ys ys _ HL.out HL.out hr7 ((((hr0.new hu3).new hu5).new hu6).new hu7)).mono ?_); rintro e w8 ⟨rfl, rfl⟩; dsimp only))
        go_ret
        exact ⟨rfl, ((((hu.trans hu3).trans hu5).trans hu6).trans hu7)⟩
end Go.Proofs.Ytbpmjbhmcnjnoaa
