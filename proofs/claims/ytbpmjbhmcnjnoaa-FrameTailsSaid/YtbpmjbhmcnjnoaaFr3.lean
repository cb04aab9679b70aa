/- The walk of the reference's division. -/
import Derived.Test.YtbpmjbhmcnjnoaaFr2
namespace Go.Proofs.Ytbpmjbhmcnjnoaa
open Go.RowKit
def zeros32 : List Value := bools (List.replicate 32 false)
theorem zeros32_one : ∀ u ∈ zeros32, u.oneCell' = true := bools_one _
def byCells : List Value := Fr.by_.map fun k : Nat => .int .i64 (k : Int)
theorem byCells_at {w : World} {g : Nat} (h : Rd w (some ⟨g, 0, none⟩) byCells) (j : Nat) (hj : j < 14) : w.cell? ⟨g, j, none⟩ = some (.int .i64 (Fr.by_[j]'hj)) := by
  obtain ⟨b, off, h1, h2⟩ := h.at_ j hj
  simp only [Option.some.injEq, Addr.mk.injEq, and_true] at h1
  obtain ⟨rfl, rfl⟩ := h1
  rw [Nat.zero_add] at h2
  rw [h2]; exact congrArg some (by unfold byCells; exact List.getElem_map _)
theorem bools_zeros (l : List Bool) (n : Nat) : bools l ++ List.replicate n (.bool false) = bools (l ++ List.replicate n false) := by simp [bools]
/-- the list at the division's begin -/
def start (xs : List Byte) : List Bool := Fr.flipTo (Fr.bitsOf xs ++ List.replicate 32 false) 32
theorem start_eq (xs : List Byte) : Fr.flipTo (Fr.bitsOf xs ++ List.replicate 32 false) 32 = start xs := rfl
theorem start_of (xs : List Byte) (k : Nat) (h : k = 32) : Fr.flipTo (Fr.bitsOf xs ++ List.replicate 32 false) k = start xs := by rw [h]; rfl
theorem start_length (xs : List Byte) : (start xs).length = 8 * xs.length + 32 := by unfold start; rw [Fr.flipTo_length]; simp [Fr.bitsOf_length]
theorem start_sum (xs : List Byte) : Fr.num (((Fr.reds (start xs) (8 * xs.length)).drop (8 * xs.length)).map (!·)) = (Fr.sum xs).toNat :=
  Fr.ref_sum xs (start xs) (start_length xs) (fun j => by unfold start; rw [Fr.flipTo_get _ _ _ (by simp)])
theorem shl1 (s : Nat) : ((s : Int) * 2) = ((2 * s : Nat) : Int) := by omega
set_option maxRecDepth 100000 in
set_option maxHeartbeats 1000000 in
theorem refSum_any (A : Option Addr) (c : Nat) (xs : List Byte) (w : World) (hm : xs.length ≤ 5000) (hx : Rd w A (u8s xs)) :
    Calls Try.prog 13 #[.slice A xs.length c] w fun e w' => e = .returned (.int .u32 (Fr.sum xs).toNat) ∧ New w w' := by
  have hby : ∀ w, (Instr.buildSlice 44 14 #[(0, .int .i64 0), (1, .int .i64 1), (2, .int .i64 2), (3, .int .i64 4), (4, .int .i64 5), (5, .int .i64 7), (6, .int .i64 8), (7, .int .i64 10), (8, .int .i64 11), (9, .int .i64 12), (10, .int .i64 16), (11, .int .i64 22), (12, .int .i64 23), (13, .int .i64 26)]).run Try.prog w = .ok (.slice (some ⟨w.heap.size, 0, none⟩) 14 14) (w.alloc (.cells byCells.toArray 3)) := fun _ => by kernel_rfl
  have HF := Bx.mk (start_sum xs)
  have HL0 := Bx.mk (start_length xs)
  have HB := Bx.mk hby
  clear hby
  go_enter Try.func13, Try.ntmps13
  go_wp2_with (first | (at_builtin; refine wpList_appZ _ rfl _ _ 42 3 .i64 rfl _ 4 (.bool false) 1 Try.underlying42 Try.underlying3 infob rfl rfl _ _ _ ho rfl 32 rfl (by omega) _ hu ?c1 ?c2 ?_; (case c1 => unfold maxLen; omega); (case c2 => omega); intro v1 w1 ho1 hu1 hk1 hv1; obtain ⟨g, c2, rfl, hg, hgl, hc2, hm2, hr2⟩ := own_some ho1 (by omega)) | (go_at_call 22; refine (Bits_any _ _ xs _ (by omega) hx).mono ?_; rintro e w1 ⟨v, rfl, ho, hu⟩))
  clear hr2 hk1 hv1 hgl ho hu
  rw [bools_zeros] at ho1
  go_loopw [4, 15] (fun _ i wr => ∃ k : Nat, k ≤ 32 ∧ i = .int .i64 k ∧ New w wr ∧ wr.ownsRow w.heap.size 4 1 (.slice (some ⟨g, 0, none⟩) (8 * xs.length + 32) c2) (8 * xs.length + 32) (bools (Fr.flipTo (Fr.bitsOf xs ++ List.replicate 32 false) k))) (fun _ i _ => 32 - (intOf i).toNat)
  case atStart => exact ⟨0, by omega, rfl, hu1, ho1⟩
  case round =>
    obtain ⟨k, hk, rfl, hu, ho⟩ := hrel
    by_cases hlt : k < 32
    · obtain ⟨g', c', hv, _, hcell, hfz, hset⟩ := own_bool ho k (by omega)
      obtain ⟨rfl, rfl⟩ : g = g' ∧ c2 = c' := by simpa using hv
      clear hv ho
      go_wp2
      go_roundw
      case rel => exact ⟨k + 1, by omega, by go_num, hu.setCell (.inr hg) _, hset _⟩
      case measure => simp [intOf]; omega
    · rw [start_of xs k (by omega)] at ho
      obtain rfl : k = 32 := by omega
      generalize start xs = l0 at ho HF HL0
      clear ho1 hu1
      go_wp2_with ((with_reducible refine at_wpList ?_); refine wpList_buildSlice rfl _ _ _ rfl _ _ _ (HB.out _) rfl ?_)
      have hgb : g < wr.heap.size := (ho.lt g rfl).2
      have hby1 := rd_new wr byCells 3
      have hu' := hu.alloc (.cells byCells.toArray 3)
      have ho' := ho.alloc (.cells byCells.toArray 3)
      have hgne : wr.heap.size ≠ g := by omega
      generalize wr.heap.size = gb at hby1 hgne ⊢
      generalize wr.alloc (.cells byCells.toArray 3) = wb at hby1 hu' ho' ⊢
      clear hu ho hgb HB
      go_loopw [6, 8] (fun i _ wr => ∃ k : Nat, k ≤ 8 * xs.length ∧ i = .int .i64 k ∧ New w wr ∧ wr.ownsRow w.heap.size 4 1 (.slice (some ⟨g, 0, none⟩) (8 * xs.length + 32) c2) (8 * xs.length + 32) (bools (Fr.reds l0 k)) ∧ Rd wr (some ⟨gb, 0, none⟩) byCells) (fun i _ _ => 8 * xs.length - (intOf i).toNat)
      case atStart => exact ⟨0, by omega, rfl, hu', ho', hby1⟩
      case round =>
        obtain ⟨k, hk, rfl, hu, ho, hby⟩ := hrel
        by_cases hlt : k < 8 * xs.length
        · obtain ⟨g', c', hv, _, hcell, hfz, hset⟩ := own_bool ho k (by omega)
          obtain ⟨rfl, rfl⟩ : g = g' ∧ c2 = c' := by simpa using hv
          have HR := Bx.mk (show Fr.reds l0 (k + 1) = if (Fr.reds l0 k).getD k false then Fr.flips (Fr.reds l0 k) k Fr.by_ else Fr.reds l0 k from rfl)
          have HLen := Bx.mk ((Fr.reds_length l0 k).trans HL0.out)
          generalize Fr.reds l0 k = L at ho hcell HR HLen
          clear hv hset
          cases hb : L.getD k false with
          | false =>
            rw [hb] at hcell HR
            go_wp2
            go_roundw
            case rel => exact ⟨k + 1, by omega, by go_num, hu, by rw [HR.out]; exact ho, hby⟩
            case measure => simp [intOf]; omega
          | true =>
            rw [hb] at hcell HR
            clear hfz hb
            go_wp2
            clear hcell
            obtain ⟨wo, rfl⟩ : ∃ wo : World, wo = wr := ⟨_, rfl⟩
            go_loopw [8, 42] (fun _ i wr => ∃ j : Nat, j ≤ 14 ∧ i = .int .i64 j ∧ New w wr ∧ wr.ownsRow w.heap.size 4 1 (.slice (some ⟨g, 0, none⟩) (8 * xs.length + 32) c2) (8 * xs.length + 32) (bools (Fr.flips L k (Fr.by_.take j))) ∧ Rd wr (some ⟨gb, 0, none⟩) byCells) (fun _ i _ => 14 - (intOf i).toNat)
            case atStart => exact ⟨0, by omega, rfl, hu, by simpa [Fr.flips] using ho, hby⟩
            case round =>
              obtain ⟨j, hj, rfl, hu, ho, hby⟩ := hrel
              by_cases hj14 : j < 14
              · have hkj := byCells_at hby j hj14
                have hle := Fr.by_le j hj14
                have HT := Bx.mk (Fr.flips_take L k j hj14)
                generalize Fr.by_[j]'hj14 = q at hkj hle HT
                obtain ⟨g', c', hv, _, hcell, hfz, hset⟩ := own_bool ho (k + 32 - q) (by omega)
                obtain ⟨rfl, rfl⟩ : g = g' ∧ c2 = c' := by simpa using hv
                have hby' := hby.set_ ⟨g, k + 32 - q, none⟩ (.bool (!(Fr.flips L k (Fr.by_.take j)).getD (k + 32 - q) false)) hgne
                generalize Fr.flips L k (Fr.by_.take j) = L' at ho hcell hset HT hby'
                have e1 : ((k : Int) + 32 - q) = ((k + 32 - q : Nat) : Int) := by omega
                have HS := Bx.mk hset
                clear hv hset hby ho
                go_wp2
                go_roundw
                case rel => exact ⟨j + 1, by omega, by go_num, hu.setCell (.inr hg) _, by rw [HT.out]; exact HS.out _, hby'⟩
                case measure => simp [intOf]; omega
              · obtain rfl : j = 14 := by omega
                go_wp2
                go_roundw
                case rel => exact ⟨k + 1, by omega, by go_num, hu, by rw [HR.out]; simp only [if_true]; exact ho, hby⟩
                case measure => simp [intOf]; omega
        · obtain rfl : k = 8 * xs.length := by omega
          have HLen := Bx.mk ((Fr.reds_length l0 (8 * xs.length)).trans HL0.out)
          generalize Fr.reds l0 (8 * xs.length) = L at ho HF HLen
          clear hby hlt
          go_wp2
          generalize hR : L.drop (8 * xs.length) = R at HF
          have HR := Bx.mk hR
          have HRl := Bx.mk (show R.length = 32 by rw [← hR, List.length_drop, HLen.out]; omega)
          clear hR
          go_loop [10, 11] (fun s i => ∃ (k : Nat) (z : Int), k ≤ 32 ∧ i = .int .i64 z ∧ z + 1 ≤ k ∧ k ≤ z + 1 ∧ s = .int .u32 (Fr.num ((R.drop k).map (!·)) : Nat)) (fun _ i => (intOf i + 1).toNat)
          case atStart => exact ⟨32, 31, by omega, rfl, by omega, by omega, by rw [List.drop_of_length_le (by rw [HRl.out]; omega)]; rfl⟩
          case round =>
            obtain ⟨k, z, hk, rfl, hz1, hz2, rfl⟩ := hrel
            by_cases h0 : 0 ≤ z
            · obtain ⟨m, rfl⟩ := Int.eq_ofNat_of_zero_le h0
              obtain rfl : k = m + 1 := by omega
              obtain ⟨g', c', hv, _, hcell, hfz, hset⟩ := own_bool ho (8 * xs.length + m) (by omega)
              obtain ⟨rfl, rfl⟩ : g = g' ∧ c2 = c' := by simpa using hv
              have hbit : L.getD (8 * xs.length + m) false = R.getD m false := by rw [← HR.out]; simp [List.getElem?_drop]
              rw [hbit] at hcell
              have HH := Bx.mk (Fr.horner R m (by rw [HRl.out]; omega))
              have hlt := Fr.num_lt ((R.drop (m + 1)).map (!·))
              rw [List.length_map, List.length_drop, HRl.out] at hlt
              have hlt2 : Fr.num ((R.drop (m + 1)).map (!·)) < 2147483648 := Nat.lt_of_lt_of_le hlt (by exact Nat.pow_le_pow_right (n := 2) (by omega) (show 32 - (m + 1) ≤ 31 by omega))
              generalize Fr.num ((R.drop (m + 1)).map (!·)) = s at HH hlt2
              clear hv hset hbit hlt hz1 hz2
              cases hb : R.getD m false with
              | false =>
                rw [hb] at hcell HH
                clear hb
                go_wp2
                go_round
                case rel => exact ⟨m, m - 1, by omega, by go_num, by omega, by omega, by rw [HH.out]; go_num⟩
                case measure => simp [intOf]
              | true =>
                rw [hb] at hcell HH
                clear hb
                go_wp2
                go_round
                case rel => exact ⟨m, m - 1, by omega, by go_num, by omega, by omega, by rw [HH.out]; go_num⟩
                case measure => simp [intOf]
            · obtain rfl : k = 0 := by omega
              rw [List.drop_zero]
              go_wp2
              go_ret
              exact ⟨by rw [← HF.out]; rfl, hu⟩
end Go.Proofs.Ytbpmjbhmcnjnoaa
