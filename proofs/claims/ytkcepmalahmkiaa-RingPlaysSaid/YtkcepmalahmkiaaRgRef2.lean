/- The reference of rings: Get, Cut: walked. -/
import Derived.Test.YtkcepmalahmkiaaRgRef
namespace Go.Proofs.Ytkcepmalahmkiaa
open Go.RowKit
theorem found_cons {α : Type} (x : Rit α) (xs : List (Rit α)) (t : Nat) : found (x :: xs) t = if x.tick = t then some x.v else found xs t := by
  by_cases h : x.tick = t <;> simp [found, h]
theorem item_new (w : World) (tk : Nat) (v : Int) : New w (w.alloc (.cells #[.int .u32 tk, .int .i64 v] 111)) ∧ (w.alloc (.cells #[.int .u32 tk, .int .i64 v] 111)).cell? ⟨w.heap.size, 0, none⟩ = some (.int .u32 tk) ∧ (w.alloc (.cells #[.int .u32 tk, .int .i64 v] 111)).cell? ⟨w.heap.size, 1, none⟩ = some (.int .i64 v) := by
  refine ⟨(Upd.refl _ w).alloc _, ?_, ?_⟩ <;> (rw [World.cell?, heap_alloc_new]; rfl)
set_option maxRecDepth 20000 in
set_option maxHeartbeats 2000000 in
theorem RfAt.get {w0 w : World} {g most : Nat} {xs : List (Rit Int)} (h : RfAt w0 w g most xs) (t : Nat) :
    Calls Try.prog 28 #[.pointer (some ⟨g, 0, none⟩), .int .u32 t] w fun e w' => e = .returned (.tuple #[.int .i64 ((found xs t).getD 0), .bool (found xs t).isSome]) ∧ New w w' := by
  obtain ⟨⟨A, c, hg, hc, hm, hr, hn, _⟩, _, _, h4, _, h6, _⟩ := h
  have k1 : w.cell? ⟨g, 1, none⟩ = some (.slice A xs.length c) := by rw [World.cell?, hg]; rfl
  have HR := Bx.mk hr
  obtain ⟨n, hl⟩ : ∃ n, xs.length = n := ⟨_, rfl⟩
  rw [hl] at k1
  have hn64 : n ≤ 64 := by omega
  have HL := Bx.mk hl
  obtain ⟨F, hF⟩ : ∃ F, found xs t = F := ⟨_, rfl⟩
  rw [hF]
  have HF := Bx.mk hF
  clear hg hr hn hl hF h4 h6 hc
  go_enter Try.func28, Try.ntmps28
  go_wp2
  go_loopw [15] (fun i wr => ∃ j : Nat, j ≤ n ∧ i = .int .i64 j ∧ New w wr ∧ Bx (found (xs.drop j) t = F)) (fun i _ => n - (intOf i).toNat)
  case atStart => exact ⟨0, Nat.zero_le _, rfl, Upd.refl _ _, HF⟩
  case round =>
    obtain ⟨j, hj, rfl, hN, HJ⟩ := hrel
    by_cases hlt : j < n
    · have hjx : j < xs.length := by rw [HL.out]; exact hlt
      obtain ⟨b, off, rfl, c0, c1⟩ := rfc_at (HR.out.new hN) j hjx
      have hD := HJ.out
      rw [List.drop_eq_getElem_cons hjx, found_cons] at hD
      generalize xs[j] = x at *
      obtain ⟨tk, v⟩ := x
      dsimp only at c0 c1 hD
      obtain ⟨hz, z0, z1⟩ := item_new wr tk v
      by_cases hq : tk = t
      · rw [if_pos hq] at hD
        have hqi : (tk : Int) = (t : Int) := by omega
        subst hD
        go_wp2
        go_returns
        exact ⟨rfl, hN.trans ((Upd.refl _ _).alloc _)⟩
      · rw [if_neg hq] at hD
        have hqi : ¬ (tk : Int) = (t : Int) := by omega
        have HD := Bx.mk hD
        clear hD hq
        go_wp2
        go_roundw
        case rel => exact ⟨j + 1, by omega, by go_num, hN.trans hz, HD⟩
        case measure => simp [intOf]; omega
    · obtain rfl : j = n := by omega
      have hD := HJ.out
      rw [List.drop_eq_nil_of_le (by rw [HL.out]; exact Nat.le_refl _)] at hD
      obtain rfl : none = F := hD
      go_wp2
      go_returns
      exact ⟨rfl, hN⟩
theorem RefGetNil (t : Nat) (w : World) : Calls Try.prog 28 #[.pointer none, .int .u32 t] w fun e w' => e = .returned (.tuple #[.int .i64 0, .bool false]) ∧ New w w' := by
  go_enter Try.func28, Try.ntmps28
  go_wp2
  go_returns
  exact ⟨rfl, Upd.refl _ _⟩
theorem RefCutNil (t : Nat) (w : World) : Calls Try.prog 30 #[.pointer none, .int .u32 t] w fun e w' => e = .returned (.int .i64 0) ∧ New w w' := by
  go_enter Try.func30, Try.ntmps30
  go_wp2
  go_returns
  exact ⟨rfl, Upd.refl _ _⟩
theorem RefPutNil (t : Nat) (v : Int) (w : World) : Calls Try.prog 26 #[.pointer none, .int .u32 t, .int .i64 v] w fun e w' => e = .returned (.int .i64 10) ∧ New w w' := by
  go_enter Try.func26, Try.ntmps26
  go_wp2
  go_returns
  exact ⟨rfl, Upd.refl _ _⟩
end Go.Proofs.Ytkcepmalahmkiaa
