/- A ring of int64: Get in one; Ticks: walked. -/
import Derived.Test.YtkcepmalahmkiaaRgL4
namespace Go.Proofs.Ytkcepmalahmkiaa
open Go.RowKit
def valL (o : Option Int) : Value := match o with | some x => (.int .i64 x) | none => .int .i64 0
theorem GetL_any {w : World} {g most : Nat} {v : Value} {xs : List (Rit Int)} (h : LRing w g v most xs) (hm : xs.length ≤ 4096) (t : Nat) :
    Calls Try.prog 27 #[.pointer (some ⟨g, 0, none⟩), .int .u32 t] w fun e w' => e = .returned (.tuple #[valL (found xs t), .bool (found xs t).isSome]) ∧ New w w' := by
  cases hf : found xs t with
  | none => exact GetNoL h hm t hf
  | some x => exact GetOkL h hm t x hf
theorem infoTL : (Try.prog.info? 34).map (fun i => (i.zero, i.size, i.bytes)) = some (some (.int .u32 0), 1, 4) := by kernel_rfl
/-- the ticks of things, as cells -/
def tksL (xs : List (Rit Int)) : List Value := xs.map fun x => .int .u32 x.tick
theorem TicksNilL (w : World) : Calls Try.prog 33 #[.pointer none] w fun e w' => e = .returned (.slice none 0 0) ∧ w = w' := by
  go_enter Try.func33, Try.ntmps33
  go_wp2
  go_ret
  exact ⟨rfl, rfl⟩
set_option maxRecDepth 20000 in
set_option maxHeartbeats 1000000 in
theorem TicksL_any {w : World} {g most : Nat} {v : Value} {xs : List (Rit Int)} (h : LRing w g v most xs) (hm : xs.length ≤ 4096) :
    Calls Try.prog 33 #[.pointer (some ⟨g, 0, none⟩)] w (RetRow 34 1 xs.length (tksL xs) w) := by
  have k1 := h.c1
  obtain ⟨A, c, rfl, _, _, hr, _⟩ := own_rd h.row
  have hA : 0 < xs.length → ∃ g', A = some ⟨g', 0, none⟩ := fun hp => by
    obtain ⟨g', c', e, _⟩ := own_some h.row hp
    exact ⟨g', by simpa using (show A = some ⟨g', 0, none⟩ by injection e)⟩
  have HR := Bx.mk hr
  generalize hn : xs.length = n at *
  have HN := Bx.mk hn
  clear h hr hn
  go_enter Try.func33, Try.ntmps33
  go_wp2
  go_loopw [3, 13] (fun s i wr => ∃ j : Nat, j ≤ n ∧ i = .int .i64 j ∧ wr.ownsRow w.heap.size 34 1 s j (tksL (xs.take j)) ∧ New w wr) (fun _ i _ => n - (intOf i).toNat)
  case atStart => exact ⟨0, Nat.zero_le _, rfl, World.ownsRow_nil _ _ _ _, Upd.refl _ _⟩
  case round =>
    obtain ⟨j, hj, rfl, ho, hN⟩ := hrel
    by_cases hlt : j < n
    · have hji : (j : Int) < (n : Int) := by omega
      obtain ⟨g', rfl⟩ := hA (by omega)
      have hjx : j < xs.length := by rw [HN.out]; exact hlt
      have hr1 := HR.out.new hN
      have c0 := atL hr1 j hjx 0 (by omega) _ rfl
      rw [Nat.add_zero] at c0
      have c1 := atL hr1 j hjx 1 (by omega) _ rfl
      have HT := Bx.mk (show tksL (xs.take (j + 1)) = tksL (xs.take j) ++ [.int .u32 xs[j].tick] by unfold tksL; rw [List.take_succ_eq_append_getElem hjx, List.map_append]; rfl)
      clear hr1
      generalize xs[j] = x at *
      obtain ⟨tk, xv⟩ := x
      dsimp only at c0 c1 HT
      have hu1 := hN.alloc (.cells #[.int .u32 tk, .int .i64 xv] 108)
      have hu2 := hu1.alloc (.cells #[.int .u32 tk] 34)
      have ho2 := (ho.alloc (.cells #[.int .u32 tk, .int .i64 xv] 108)).alloc (.cells #[.int .u32 tk] 34)
      have hs := Src.ofSlice (P := Try.prog) (size := 1) _ Try.underlying22 _ 1 1 _ rfl (cells_new (wr.alloc (.cells #[.int .u32 tk, .int .i64 xv] 108)) [.int .u32 tk] 34) (by intro u hu; simp at hu; rcases hu with rfl; rfl)
      rw [show (wr.alloc (.cells #[.int .u32 tk, .int .i64 xv] 108)).heap.size = wr.heap.size + 1 by simp] at hs
      repeat' (first | (at_builtin; refine wpList_appN _ rfl _ _ 22 22 rfl _ 34 (.int .u32 0) 1 4 Try.underlying22 infoTL rfl _ _ _ ho2 rfl _ _ _ hs rfl _ hu2 ?c1 ?c2 ?_; (case c1 => unfold maxLen; omega); (case c2 => omega); intro v5 w5 ho5 hu5 hk5 hv5) | go_values | go_skip | go_guarded | go_step | go_upon | go_back)
      go_roundw
      case rel => exact ⟨j + 1, by omega, by go_num, by rw [HT.out]; exact ho5, hu5⟩
      case measure => simp [intOf]; omega
    · obtain rfl : j = n := by omega
      repeat' (first | fail | go_values | go_skip | go_guarded | go_step | go_upon | go_back)
      go_ret
      exact ⟨_, rfl, by rw [List.take_of_length_le (by rw [HN.out]; exact Nat.le_refl _)] at ho; exact ho, hN⟩
end Go.Proofs.Ytkcepmalahmkiaa
