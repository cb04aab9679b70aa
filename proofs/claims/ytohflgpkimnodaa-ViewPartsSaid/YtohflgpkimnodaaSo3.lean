/- reverseRangeOrdered, siftDownOrdered, heapSortOrdered at IDs: walked. -/
import Derived.Test.YtohflgpkimnodaaSo2
namespace Go.Proofs.Ytohflgpkimnodaa
open Go.RowKit Go.Sort
set_option maxRecDepth 20000 in
set_option maxHeartbeats 4000000 in
theorem rev_any {w : World} {blk cap : Nat} {d : Array Nat} (h : SR blk cap d w) (n c a b : Nat) (hn : d.size = n) (hab : a < b) (hb : b ≤ n) (hsz : n < 4611686018427387904) :
    Calls Try.prog 47 #[.slice (some ⟨blk, 0, none⟩) n c, .int .i64 a, .int .i64 b] w fun e w' => e = .returned (.tuple #[]) ∧ SR blk cap (reverseRange d a b) w' ∧ Upd (fun x => x = blk) w w' := by
  have H0 := Bx.mk h
  have HS := Bx.mk hn
  obtain ⟨RES, hres⟩ : ∃ RES, reverseRange d a b = RES := ⟨_, rfl⟩
  rw [hres]
  obtain ⟨b1, hb1⟩ : ∃ b1, b1 + 1 = b := ⟨b - 1, by omega⟩
  have HO := Bx.mk (show reverseLoop a b1 d = RES by rw [← hres, reverseRange, show b - 1 = b1 by omega])
  have w0' : IntKind.i64.wrap ((b : Int) - 1) = (b1 : Int) := by rw [IntKind.wrap_i64]; omega
  clear h hn hres
  go_enter Try.func47, Try.ntmps47
  repeat' (first | fail | go_values | go_skip | go_guarded | go_step | go_upon | go_back)
  go_loopw [6, 7] (fun iv jv wr => ∃ (i j : Nat) (d' : Array Nat), iv = .int .i64 i ∧ jv = .int .i64 j ∧ j < n ∧ i ≤ n ∧ d'.size = n ∧ Bx (reverseLoop i j d' = RES) ∧ Bx (SR blk cap d' wr) ∧ Upd (fun x => x = blk) w wr) (fun iv jv _ => (intOf jv - intOf iv).toNat)
  case atStart => exact ⟨a, b1, d, rfl, rfl, by omega, by omega, HS.out, HO, H0, Upd.refl _ _⟩
  case round =>
    obtain ⟨i, j, d1, rfl, rfl, hj, hi, hd1, HQ, HR, hU⟩ := hrel
    clear w0'
    by_cases hlt : i < j
    · have hltI : (i : Int) < (j : Int) := by omega
      have HQ1 := Bx.mk ((show reverseLoop i j d1 = reverseLoop (i + 1) (j - 1) (swp d1 i j) by rw [reverseLoop, if_pos hlt]).symm.trans HQ.out)
      have hjn : (j : Int) < (n : Int) := by omega
      have hin : (i : Int) < (n : Int) := by omega
      have we : IntKind.i64.wrap ((j : Int) - 1) = ((j - 1 : Nat) : Int) := by rw [IntKind.wrap_i64]; omega
      have we2 : IntKind.i64.wrap ((i : Int) + 1) = ((i + 1 : Nat) : Int) := by rw [IntKind.wrap_i64]; omega
      repeat' (first | fail | go_values | go_skip | go_guarded | go_step | go_upon | go_back)
      (obtain ⟨x_w5, hx_w5⟩ : ∃ x, d1[i]! = x := ⟨_, rfl⟩); (obtain ⟨y_w5, hy_w5⟩ : ∃ y, d1[j]! = y := ⟨_, rfl⟩); have c1_w5 : wr.cell? ⟨blk, i, none⟩ = some (.int .u32 (x_w5 : Nat)) := (by rw [← hx_w5]; exact HR.out.cell i (by omega)); have c2_w5 : wr.cell? ⟨blk, j, none⟩ = some (.int .u32 (y_w5 : Nat)) := (by rw [← hy_w5]; exact HR.out.cell j (by omega)); have f1_w5 := HR.out.frz i; have f2_w5 := HR.out.frz j; have HR5 := Bx.mk (HR.out.swap i j x_w5 y_w5 (by omega) (by omega) hx_w5 hy_w5).drew; have HU5 := Bx.mk ((hU.setCell (p := ⟨blk, i, none⟩) (.inl rfl) (.int .u32 (y_w5 : Nat))).setCell (p := ⟨blk, j, none⟩) (.inl rfl) (.int .u32 (x_w5 : Nat))).drew; have c3_w5 := HR.out.c3 i j y_w5 (by omega) (by omega) hy_w5; have f3_w5 : ∀ o, (wr.setCell ⟨blk, i, none⟩ (.int .u32 (y_w5 : Nat))).frozen? ⟨blk, o, none⟩ = false := (HR.out.set i y_w5 (by omega)).frz; clear hx_w5 hy_w5; go_big_region; clear c1_w5 c2_w5 f1_w5 f2_w5 c3_w5 f3_w5; generalize ((wr.setCell ⟨blk, i, none⟩ (.int .u32 (y_w5 : Nat))).setCell ⟨blk, j, none⟩ (.int .u32 (x_w5 : Nat))).drew = w5 at *
      repeat' (first | fail | go_values | go_skip | go_guarded | go_step | go_upon | go_back)
      go_roundw
      case rel => exact ⟨i + 1, j - 1, swp d1 i j, rfl, rfl, by omega, by omega, by rw [size_swp']; exact hd1, HQ1, HR5, HU5.out⟩
      case measure => simp [intOf]; omega
    · have hltI : ¬ (i : Int) < (j : Int) := by omega
      repeat' (first | fail | go_values | go_skip | go_guarded | go_step | go_upon | go_back)
      go_returns
      exact ⟨rfl, by rw [← HQ.out, reverseLoop, if_neg hlt]; exact HR.out, hU⟩
end Go.Proofs.Ytohflgpkimnodaa
