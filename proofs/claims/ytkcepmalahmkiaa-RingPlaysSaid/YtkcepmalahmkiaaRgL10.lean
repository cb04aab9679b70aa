/- A ring of int64: Cut: walked. -/
import Derived.Test.YtkcepmalahmkiaaRgL7
namespace Go.Proofs.Ytkcepmalahmkiaa
open Go.RowKit
theorem Delete0L (A : Option Addr) (n cap : Nat) (w : World) (hn : n ≤ cap) (hm : cap ≤ 9223372036854775807) :
    Calls Try.prog 42 #[.slice A n cap, .int .i64 0, .int .i64 0] w fun e w' => e = .returned (.slice A n cap) ∧ w = w' := by
  have q2 : (n : Int) ≤ (cap : Int) := by omega
  go_enter Try.func42, Try.ntmps42
  go_wp2
  go_ret
  exact ⟨rfl, rfl⟩
theorem DeleteToL (g n cap j m : Nat) (xs : List (Rit Int)) (w : World) (ho : w.ownsRow 0 108 2 (.slice (some ⟨g, 0, none⟩) n cap) n (rcells csL xs)) (h0 : 0 < j) (hj : j + m = n) (hcap : n ≤ cap) (hm : cap ≤ maxLen) :
    Calls Try.prog 42 #[.slice (some ⟨g, 0, none⟩) n cap, .int .i64 0, .int .i64 j] w fun e w' => e = .returned (.slice (some ⟨g, 0, none⟩) m cap) ∧
      w'.ownsRow 0 108 2 (.slice (some ⟨g, 0, none⟩) m cap) m (rcells csL (xs.drop j)) ∧ Upd (fun b => b = g) w w' := by
  have h := LDelete_any g n cap 0 j m (rcells csL xs) w ho h0 hj hcap hm (rcells_one csL (2 - 1) csL_len csL_one xs)
  rw [rcells_drop csL (2 - 1) csL_len]
  simpa using h
theorem cut_toL {W w3 : World} {g gl n m c most j : Nat} {xs : List (Rit Int)} (h : LRing W g (.slice (some ⟨gl, 0, none⟩) n c) most xs) (hu : Upd (fun b => b = gl) W w3) (hl : (xs.drop j).length = m) (ho : w3.ownsRow 0 108 2 (.slice (some ⟨gl, 0, none⟩) m c) m (rcells csL (xs.drop j))) :
    w3.cell? ⟨g, 1, none⟩ = some (.slice (some ⟨gl, 0, none⟩) n c) ∧ w3.frozen? ⟨g, 1, none⟩ = false ∧ LRing (w3.setCell ⟨g, 1, none⟩ (.slice (some ⟨gl, 0, none⟩) m c)) g (.slice (some ⟨gl, 0, none⟩) m c) most (xs.drop j) := by
  have hne : g ≠ gl := fun e => h.apart (by rw [e]; rfl)
  have e : w3.heap[g]? = some (.cells #[.int .i64 most, .slice (some ⟨gl, 0, none⟩) n c] 106 (0, 0)) := hu.blk h.obj hne
  refine ⟨by rw [World.cell?, e]; rfl, by simp [World.frozen?, e], ⟨heap_setCell_same w3 g 1 _ _ _ e, ?_, h.up.sublist (List.drop_sublist _ _), fun x hx => h.lt x (List.mem_of_mem_drop hx)⟩⟩
  rw [hl]
  exact own_upd ho (Upd.set1 _ _ _) (fun b hb q => own_obj_ne ho e (by decide) ((show b = g from q) ▸ hb))
theorem CutNilL (w : World) (t : Nat) : Calls Try.prog 29 #[.pointer none, .int .u32 t] w fun e w' => e = .returned (.int .i64 0) ∧ w = w' := by
  go_enter Try.func29, Try.ntmps29
  go_wp2
  go_ret
  exact ⟨rfl, rfl⟩
set_option maxRecDepth 20000 in
set_option maxHeartbeats 2000000 in
theorem CutL {w : World} {g most : Nat} {v : Value} {xs : List (Rit Int)} (h : LRing w g v most xs) (hm : xs.length ≤ 4096) (t : Nat) :
    Calls Try.prog 29 #[.pointer (some ⟨g, 0, none⟩), .int .u32 t] w fun e w' => e = .returned (.int .i64 (lb xs t : Nat)) ∧ ∃ v', LRing w' g v' most (xs.drop (lb xs t)) ∧ LWrote g v v' w w' := by
  have HF := Bx.mk (findL_any h hm t)
  have HR := Bx.mk h
  have hle := lb_le xs t
  generalize lb xs t = j at *
  rcases Nat.eq_zero_or_pos j with rfl | hpos
  · have k1 := h.c1
    obtain ⟨A, c, rfl, hc, hcm, _⟩ := own_rd h.row
    have hcm' : c ≤ 9223372036854775807 := hcm
    clear h hm
    generalize xs.length = n at *
    go_enter Try.func29, Try.ntmps29
    go_wp2_with (first
      | (go_at_call 43; (with_reducible refine (HF.out).mono ?_); rintro e w2 ⟨rfl, hN2⟩; have k2 := hN2.cell k1 (fun q => q); have f2 := (HR.out.new hN2).fz 1; dsimp only)
      | (go_at_call 42; (with_reducible refine (Delete0L A n c _ hc hcm').mono ?_); rintro e w3 ⟨rfl, rfl⟩; dsimp only))
    go_ret
    have hR2 := HR.out.new hN2
    refine ⟨rfl, _, ⟨heap_setCell_same w2 g 1 _ _ _ hR2.obj, own_upd hR2.row (Upd.set1 _ _ _) (fun b hb q => hR2.apart (by rw [← (show b = g from q)]; exact hb)), hR2.up, hR2.lt⟩, (New.upd hN2).setCell (p := ⟨g, 1, none⟩) (.inl (.inl rfl)) _, fun b hb => .inl hb⟩
  · obtain ⟨gl, c, rfl, _, _, hc, hcm, hr⟩ := own_some h.row (by omega)
    have k1 := h.c1
    obtain ⟨m, hjm⟩ : ∃ m, j + m = xs.length := ⟨xs.length - j, by omega⟩
    have HD := Bx.mk (show (xs.drop j).length = m by rw [List.length_drop]; omega)
    have HL := Bx.mk hjm
    clear h hr hle hm
    generalize hn : xs.length = n at *
    have HN := Bx.mk hn
    clear hn
    go_enter Try.func29, Try.ntmps29
    go_wp2_with (first
      | (go_at_call 43; (with_reducible refine (HF.out).mono ?_); rintro e w2 ⟨rfl, hN2⟩; have k2 := hN2.cell k1 (fun q => q); have hR2 := HR.out.new hN2; have hrow2 := hR2.row; rw [HN.out] at hrow2; dsimp only)
      | (go_at_call 42; (with_reducible refine (DeleteToL gl n c j m xs _ hrow2 hpos HL.out hc hcm).mono ?_); rintro e w3 ⟨rfl, ho3, hu3⟩; dsimp only; obtain ⟨m1, f1, hR3⟩ := cut_toL hR2 hu3 HD.out ho3))
    go_ret
    exact ⟨rfl, _, hR3, ((New.upd hN2).then hu3 (fun b hb => .inl (.inr (by rw [show b = gl from hb]; rfl)))).setCell (p := ⟨g, 1, none⟩) (.inl (.inl rfl)) _, fun b hb => .inl hb⟩
end Go.Proofs.Ytkcepmalahmkiaa
