/- The walks of the frame's functions, further. -/
import Derived.Test.YtbpmjbhmcnjnoaaFr1
import Derived.Test.YtbpmjbhmcnjnoaaFrOpen
namespace Go.Proofs.Ytbpmjbhmcnjnoaa
open Go.RowKit


theorem byte_of_shift (s : BitVec 32) (k : Nat) : Value.int .u8 ((s.toNat : Int) / 2 ^ k % 256) = .int .u8 ((s >>> k).setWidth 8).toNat := by
  congr 1
  rw [BitVec.toNat_setWidth, BitVec.toNat_ushiftRight, Nat.shiftRight_eq_div_pow]
  rw [Int.natCast_emod, Int.natCast_ediv, Int.natCast_pow]
  rfl
set_option maxHeartbeats 400000 in
theorem tail_any (s : BitVec 32) (w : World) :
    Calls Try.prog 24 #[.int .u32 s.toNat] w (RetRow 5 1 4 (u8s (tailOf s)) w) := by
  have hmk : ∀ w, (Instr.makeSlice 22 (.int .i64 4) (.int .i64 4)).run Try.prog w = .ok (.slice (some ⟨w.heap.size, 0, none⟩) 4 4) (w.alloc (.cells #[.int .u8 0, .int .u8 0, .int .u8 0, .int .u8 0] 5)) := fun _ => by kernel_rfl
  have ho0 := World.ownsRow_lit (base := w.heap.size) (e := 5) (size := 1) w #[.int .u8 0, .int .u8 0, .int .u8 0, .int .u8 0] 4 (Nat.le_refl _) (by simp [maxLen]) rfl
  have HO := Bx.mk ho0
  clear ho0
  go_enter Try.func24, Try.ntmps24
  go_wp2
  go_loopw [4, 8] (fun _ i wr => ∃ (k : Nat), k ≤ 4 ∧ i = .int .i64 k ∧ New w wr ∧ wr.ownsRow w.heap.size 5 1 (.slice (some ⟨w.heap.size, 0, none⟩) 4 4) 4 (fillTo (fun i => .int .u8 ((s >>> (8 * i)).setWidth 8).toNat) (.int .u8 0) 4 k)) (fun _ i _ => 4 - (intOf i).toNat)
  case atStart => exact ⟨0, by omega, rfl, (Upd.refl _ _).alloc _, by rw [fillTo_zero]; exact HO.out⟩
  case round =>
    obtain ⟨k, hk, rfl, hu, ho⟩ := hrel
    by_cases hlt : k < 4
    · obtain ⟨g, c, hv, hg, ⟨u, hku, hcell⟩, hfz, hset⟩ := own_elem ho k hlt
      obtain ⟨rfl, rfl⟩ : w.heap.size = g ∧ 4 = c := by simpa using hv
      have HT := Bx.mk (fillTo_set (fun i => .int .u8 ((s >>> (8 * i)).setWidth 8).toNat) (.int .u8 0) 4 k)
      clear hv hku
      go_wp2
      go_roundw
      case rel => exact ⟨k + 1, by omega, by go_num, hu.setCell (.inr (Nat.le_refl _)) _, by rw [← HT.out, ← byte_of_shift]; exact hset _⟩
      case measure => simp [intOf]; omega
    · obtain rfl : k = 4 := by omega
      rw [fillTo_all] at ho
      go_wp2
      go_ret
      exact ⟨_, rfl, by rw [u8s, tailOf, List.map_map]; exact ho, hu⟩
set_option maxHeartbeats 400000 in
theorem spare_any (A : Option Addr) (c : Nat) (xs : List Byte) (w : World) (hm : xs.length ≤ 1000) (hA : A = none → xs = []) (hx : Rd w A (u8s xs)) :
    Calls Try.prog 11 #[.slice A xs.length c] w fun e w' => ∃ g c', e = .returned (.slice (some ⟨g, 0, none⟩) xs.length c') ∧ xs.length + 1 ≤ c' ∧ w.heap.size ≤ g ∧ Rd w' (some ⟨g, 0, none⟩) (u8s xs ++ [.int .u8 165]) ∧ New w w' := by
  have hl0 := own_lit0 w w.heap.size 5 1 (Nat.le_refl _)
  have hs := (hx.new ((Upd.refl _ w).alloc (.cells #[] 5))).src (P := Try.prog) (n := xs.length) (c := c) (size := 1) Try.underlying22 (fun h => by rw [hA h]; rfl) (by simp [u8s]) (u8s_one xs)
  have hs2 := fun (w : World) => Src.ofSlice (P := Try.prog) (size := 1) (w.alloc (.cells #[.int .u8 165] 5)) Try.underlying22 ⟨w.heap.size, 0, none⟩ 1 1 [.int .u8 165] rfl (cell_one_new _ _ _) (by simp [Value.oneCell'])
  have H2 := Bx.mk hs2
  clear hs2
  go_enter Try.func11, Try.ntmps11
  go_wp2_with (first | (at_builtin; refine wpList_appN _ rfl _ _ 22 22 rfl _ 5 (.int .u8 0) 1 1 Try.underlying22 info8 rfl _ _ _ (ho1.alloc _) rfl _ _ _ (H2.out w1) rfl _ (hu1.alloc _) ?c1 ?c2 ?_; (case c1 => unfold maxLen; omega); (case c2 => omega); intro v2 w2 ho2 hu2 hk2 hv2; obtain ⟨g, c2, rfl, hg, hgl, hc2, hm2, hr2⟩ := own_some ho2 (by omega)) | (at_builtin; refine wpList_appN _ rfl _ _ 22 22 rfl _ 5 (.int .u8 0) 1 1 Try.underlying22 info8 rfl _ _ _ hl0 rfl _ _ _ hs rfl _ ((Upd.refl Nowhere w).alloc _) ?c1 ?c2 ?_; (case c1 => unfold maxLen; omega); (case c2 => omega); intro v1 w1 ho1 hu1 hk1 hv1))
  go_ret
  exact ⟨g, c2, rfl, by omega, hg, by simpa using hr2, hu2⟩
end Go.Proofs.Ytbpmjbhmcnjnoaa
