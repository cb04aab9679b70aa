/- awake: walked. -/
import Derived.Test.YtkcepmalahmkiaaRgL13
namespace Go.Proofs.Ytkcepmalahmkiaa
open Go.RowKit
theorem rd_two {w : World} {g : Nat} {a b : Value} (h : Rd w (some ⟨g, 0, none⟩) [a, b]) : w.cell? ⟨g, 0, none⟩ = some a ∧ w.cell? ⟨g, 1, none⟩ = some b := by
  rcases h with h | ⟨b', off, hA, hc⟩
  · cases h
  · simp only [Option.some.injEq, Addr.mk.injEq, and_true] at hA
    obtain ⟨rfl, rfl⟩ := hA
    exact ⟨hc 0 _ rfl, hc 1 _ rfl⟩
set_option maxHeartbeats 1000000 in
theorem awake_any (w : World) : Calls Try.prog 7 #[] w fun e w' => e = .returned (.bool true) ∧ New w w' := by
  have nx : ∀ (w2 w3 : World), New w w2 → Upd (LBlk w w2) w2 w3 → New w w3 := fun w2 w3 a b => LBlk.new b a (Nat.le_refl _)
  go_enter Try.func7, Try.ntmps7
  go_wp2_with (first
    | (have _m := S4; (go_at_call 29; (with_reducible refine (S4.out.cut 12 12 rfl).mono ?_); rintro e w6 ⟨rfl, hR6, hU6⟩; have N6 := nx _ _ N5 hU6; rw [show lb [(⟨9, 2⟩ : Rit Int), ⟨12, 3⟩] 12 = 1 from rfl]; dsimp only))
    | (have _m := S3; (go_at_call 33; (with_reducible refine (S3.out.ticks).mono ?_); rintro e w5 ⟨v5, rfl, ho5, hu5⟩; have S4 := Bx.mk (S3.out.next hu5); have N5 := N4.trans hu5; replace ho5 : w5.ownsRow w4.heap.size 34 1 v5 2 [.int .u32 (9 : Nat), .int .u32 (12 : Nat)] := ho5; obtain ⟨g5, c5, rfl, _, _, hc5, _, hr5⟩ := own_some ho5 (by decide); obtain ⟨k0, k1⟩ := rd_two hr5; dsimp only))
    | (have _m := S2b; (go_at_call 25; (with_reducible refine (S2b.out.put 12 12 rfl 3 (by omega)).mono ?_); rintro e w4 ⟨rfl, hR4, hU4⟩; have S3 : Bx (LAt w w4 w.heap.size 2 [⟨9, 2⟩, ⟨12, 3⟩]) := Bx.mk hR4; have N4 := nx _ _ N3b hU4; rw [show putE [(⟨5, 1⟩ : Rit Int), ⟨9, 2⟩] 12 = 0 from rfl]; dsimp only))
    | (have _m := S2; (go_at_call 25; (with_reducible refine (S2.out.put 9 9 rfl 3 (by omega)).mono ?_); rintro e w3b ⟨rfl, hR3b, hU3b⟩; have S2b : Bx (LAt w w3b w.heap.size 2 [⟨5, 1⟩, ⟨9, 2⟩]) := Bx.mk hR3b; have N3b := nx _ _ N3 hU3b; rw [show putE [(⟨5, 1⟩ : Rit Int), ⟨9, 2⟩] 9 = 12 from rfl]; dsimp only))
    | (have _m := S1; (go_at_call 25; (with_reducible refine (S1.out.put 9 9 rfl 2 (by omega)).mono ?_); rintro e w3 ⟨rfl, hR3, hU3⟩; have S2 : Bx (LAt w w3 w.heap.size 2 [⟨5, 1⟩, ⟨9, 2⟩]) := Bx.mk hR3; have N3 := nx _ _ N2 hU3; rw [show putE [(⟨5, 1⟩ : Rit Int)] 9 = 0 from rfl]; dsimp only))
    | (have _m := S0; (go_at_call 25; (with_reducible refine (S0.out.put 5 5 rfl 1 (by omega)).mono ?_); rintro e w2 ⟨rfl, hR2, hU2⟩; have S1 : Bx (LAt w w2 w.heap.size 2 [⟨5, 1⟩]) := Bx.mk hR2; have N2 := nx _ _ N1 hU2; rw [show putE ([] : List (Rit Int)) 5 = 0 from rfl]; dsimp only))
    | (go_at_call 23; (with_reducible refine (LAt.of_new 2 2 rfl _ (by omega) (by omega)).mono ?_); rintro e w1 ⟨rfl, N1, hR1⟩; have S0 := Bx.mk hR1; dsimp only))
  go_ret
  exact ⟨rfl, N6⟩
end Go.Proofs.Ytkcepmalahmkiaa
