/- Copy, Drop, the law's own helpers: walked. -/
import Derived.Test.YtefnpkmbjabcmaaDoorNt5
namespace Go.Proofs.YtefnpkmbjabcmaaDoor
open Go.RowKit

theorem Copy_no {w : World} {g most : Nat} {v : Value} {xs : List It} (h : IsBag w g v most xs) (i : Int) (hi : ¬ (0 ≤ i ∧ i < xs.length)) :
    Calls Tryd.prog 15 #[.pointer (some ⟨g, 0, none⟩), .int .i64 i] w fun e w' => e = .returned (.int .i64 10) ∧ New w w' := by
  have HP := Bx.mk (Peek_no h i hi)
  clear h hi
  go_enter Tryd.func15, Tryd.ntmps15
  go_wp2_with (go_at_call 14; (with_reducible refine (HP.out).mono ?_); rintro e w2 ⟨rfl, hu2⟩; dsimp only)
  go_ret
  exact ⟨rfl, hu2.alloc _⟩
theorem Copy_nil (w : World) (i : Int) :
    Calls Tryd.prog 15 #[.pointer none, .int .i64 i] w fun e w' => e = .returned (.int .i64 10) ∧ New w w' := by
  have HP := Bx.mk (Peek_nil w i)
  go_enter Tryd.func15, Tryd.ntmps15
  go_wp2_with (go_at_call 14; (with_reducible refine (HP.out).mono ?_); rintro e w2 ⟨rfl, hu2⟩; dsimp only)
  go_ret
  exact ⟨rfl, hu2.alloc _⟩
set_option maxHeartbeats 1000000 in
theorem Copy_full {w : World} {g most : Nat} {v : Value} {xs : List It} (h : IsBag w g v most xs) (hm : most ≤ xs.length) (i : Nat) (hi : i < xs.length) (hsz : xs.length ≤ 4096) (x : It) (hx : xs[i]? = some x) (hfr : x.fr.length ≤ 140737488351232) :
    Calls Tryd.prog 15 #[.pointer (some ⟨g, 0, none⟩), .int .i64 i] w fun e w' => e = .returned (.int .i64 8) ∧ New w w' := by
  have HP := Bx.mk (Peek_ok h i hi hsz x hx hfr)
  have HI := Bx.mk h
  clear h hi hx hsz
  go_enter Tryd.func15, Tryd.ntmps15
  go_wp2_with (first | (go_at_call 14; (with_reducible refine (HP.out).mono ?_); rintro e w2 ⟨vr, rfl, hor, hu2⟩; obtain ⟨Ar, cr, rfl, _⟩ := own_rd hor; have hal : New w2 (w2.alloc (.cells #[.int .i64 x.to, .slice Ar x.fr.length cr] 36)) := (Upd.refl _ _).alloc _; have hI := (HI.out.new hu2).new hal; dsimp only) | (go_at_call 12; (with_reducible refine (Put_full hI hm _ x.to Ar _ cr rfl).mono ?_); rintro e w3 ⟨rfl, hu3⟩; dsimp only))
  go_ret
  exact ⟨rfl, (hu2.trans hal).trans hu3⟩
set_option maxHeartbeats 1000000 in
theorem Copy_ok {w : World} {g most : Nat} {v : Value} {xs : List It} (h : IsBag w g v most xs) (hm : xs.length < most) (hmm : most ≤ 4096) (i : Nat) (hi : i < xs.length) (x : It) (hx : xs[i]? = some x) (hfr : x.fr.length ≤ 140737488351232) :
    Calls Tryd.prog 15 #[.pointer (some ⟨g, 0, none⟩), .int .i64 i] w fun e w' => e = .returned (.int .i64 0) ∧ ∃ v' y, y.to = x.to ∧ y.fr = x.fr ∧ (∀ b, y.v.ownBlock = some b → w.heap.size ≤ b) ∧ IsBag w' g v' most (xs ++ [y]) ∧ BagWrote g v v' w w' := by
  have HP := Bx.mk (Peek_ok h i hi (by omega) x hx hfr)
  have HI := Bx.mk h
  clear h hi hx
  go_enter Tryd.func15, Tryd.ntmps15
  go_wp2_with (first | (go_at_call 14; (with_reducible refine (HP.out).mono ?_); rintro e w2 ⟨vr, rfl, hor, hu2⟩; obtain ⟨Ar, cr, rfl, _, _, hr, _⟩ := own_rd hor; have hal : New w2 (w2.alloc (.cells #[.int .i64 x.to, .slice Ar x.fr.length cr] 36)) := (Upd.refl _ _).alloc _; have hI := (HI.out.new hu2).new hal; have hr2 := hr.new hal; dsimp only) | (go_at_call 12; (with_reducible refine (Put_ok hI hm hmm _ x.to Ar _ cr x.fr rfl rfl hfr hr2).mono ?_); rintro e w3 ⟨rfl, v', y, hy1, hy2, hy3, hI3, hW3⟩; dsimp only))
  go_ret
  have hn := hu2.trans hal
  exact ⟨rfl, v', y, hy1, hy2, fun b hb => Nat.le_trans hn.size (hy3 b hb), hI3, (New.upd hn).trans hW3.upd, fun b hb => (hW3.at_ b hb).imp id (fun q => Nat.le_trans hn.size q)⟩
theorem Drop_no {w : World} {g most : Nat} {v : Value} {xs : List It} (h : IsBag w g v most xs) (i : Int) (hi : ¬ (0 ≤ i ∧ i < xs.length)) :
    Calls Tryd.prog 22 #[.pointer (some ⟨g, 0, none⟩), .int .i64 i] w fun e w' => e = .returned (.int .i64 10) ∧ New w w' := by
  have HP := Bx.mk (Take_no h i hi)
  clear h hi
  go_enter Tryd.func22, Tryd.ntmps22
  go_wp2_with (go_at_call 16; (with_reducible refine (HP.out).mono ?_); rintro e w2 ⟨rfl, hu2⟩; dsimp only)
  go_ret
  exact ⟨rfl, hu2.alloc _⟩
theorem Drop_nil (w : World) (i : Int) :
    Calls Tryd.prog 22 #[.pointer none, .int .i64 i] w fun e w' => e = .returned (.int .i64 10) ∧ New w w' := by
  have HP := Bx.mk (Take_nil w i)
  go_enter Tryd.func22, Tryd.ntmps22
  go_wp2_with (go_at_call 16; (with_reducible refine (HP.out).mono ?_); rintro e w2 ⟨rfl, hu2⟩; dsimp only)
  go_ret
  exact ⟨rfl, hu2.alloc _⟩
set_option maxHeartbeats 1000000 in
theorem Drop_ok {w : World} {g most : Nat} {v : Value} {xs : List It} (h : IsBag w g v most xs) (i : Nat) (hi : i < xs.length) (hsz : xs.length ≤ 4096) (x : It) (hx : xs[i]? = some x) (hfr : x.fr.length ≤ 140737488351232) :
    Calls Tryd.prog 22 #[.pointer (some ⟨g, 0, none⟩), .int .i64 i] w fun e w' => ∃ v', e = .returned (.int .i64 0) ∧ IsBag w' g v' most (xs.take i ++ xs.drop (i + 1)) ∧ BagWrote g v v' w w' := by
  have HP := Bx.mk (Take_ok h i hi hsz x hx hfr)
  clear h hi hx hsz
  go_enter Tryd.func22, Tryd.ntmps22
  go_wp2_with (go_at_call 16; (with_reducible refine (HP.out).mono ?_); rintro e w2 ⟨vr, v', rfl, hor, hI, hW⟩; obtain ⟨Ar, cr, rfl, _⟩ := own_rd hor; dsimp only)
  go_ret
  exact ⟨v', rfl, hI.new ((Upd.refl _ _).alloc _), hW.upd.alloc _, hW.at_⟩
theorem same_any (w : World) (to to' : Int) (A A' : Option Addr) (n n' c c' : Nat) (xs ys : List (BitVec 8)) (hl : xs.length = n) (hl' : ys.length = n') (hx : Rd w A (u8s xs)) (hy : Rd w A' (u8s ys)) :
    Calls Tryd.prog 20 #[.agg #[.int .i64 to, .slice A n c], .agg #[.int .i64 to', .slice A' n' c']] w fun e w' => e = .returned (.bool (decide (to = to' ∧ xs = ys))) ∧ New w w' := by
  have hd : New w ((w.alloc (.cells #[.int .i64 to, .slice A n c] 36)).alloc (.cells #[.int .i64 to', .slice A' n' c'] 36)) := ((Upd.refl _ _).alloc _).alloc _
  have HS := Bx.mk (Same_n A A' n n' c c' xs ys _ hl hl' (hx.new hd) (hy.new hd))
  clear hl hl' hx hy
  by_cases ht : to = to'
  · subst ht
    go_enter Tryd.func20, Tryd.ntmps20
    go_wp2_with (go_at_call 9; (with_reducible refine (HS.out).mono ?_); rintro e w2 ⟨rfl, rfl⟩; dsimp only)
    go_ret
    exact ⟨by simp, hd⟩
  · go_enter Tryd.func20, Tryd.ntmps20
    go_wp2_with (go_at_call 9; (with_reducible refine (HS.out).mono ?_); rintro e w2 ⟨rfl, rfl⟩; dsimp only)
    go_ret
    exact ⟨by simp [ht], hd⟩
end Go.Proofs.YtefnpkmbjabcmaaDoor
