/- bits.Len, nextPowerOfTwo: walked. -/
import Derived.Test.YtohflgpkimnodaaSo7
import Derived.Test.YtohflgpkimnodaaLen
import Derived.StillTailTactics
namespace Go.Proofs.Ytohflgpkimnodaa
open Go.RowKit Go.Sort
theorem bLen_any (x : Nat) (w : World) (h1 : x < 18446744073709551616) :
    Calls Try.prog 42 #[.int .u64 x] w fun e w' => e = .returned (.int .i64 (Lib.bitLen x)) ∧ w' = w := by
  have HL := Bx.mk (fun w => Len64_any (x : Int) w (by omega) (by omega))
  go_enter Try.func42, Try.ntmps42
  repeat' (first | (go_at_call 53; (with_reducible refine (HL.out _).mono ?_); rintro e w1 ⟨rfl, rfl⟩; dsimp only) | go_values | go_skip | go_guarded | go_step | go_upon | go_back)
  go_returns
  exact ⟨rfl, rfl⟩
theorem nextPow_any (l : Nat) (w : World) (h1 : l < 2305843009213693952) (h0 : 0 < l) :
    Calls Try.prog 55 #[.int .i64 l] w fun e w' => e = .returned (.int .u64 ((2 ^ Lib.bitLen l : Nat) : Int)) ∧ w' = w := by
  have HL := Bx.mk (fun w => bLen_any l w (by omega))
  have w1' : IntKind.u64.wrap (l : Int) = (l : Int) := by rw [IntKind.wrap_u64]; omega
  have hb := Lib.bitLen_le l 61 (by omega) (by omega)
  generalize Lib.bitLen l = k at *
  have hp : 2 ^ k ≤ 2305843009213693952 := by
    have := Nat.pow_le_pow_right (n := 2) (by decide) hb
    omega
  have e : IntKind.u64.wrap ((2 : Int) ^ k) = ((2 ^ k : Nat) : Int) := by
    rw [show ((2 : Int) ^ k) = ((2 ^ k : Nat) : Int) by rw [Int.natCast_pow]; rfl, IntKind.wrap_u64]
    generalize 2 ^ k = p at *
    omega
  have HE := Bx.mk e
  clear e
  go_enter Try.func55, Try.ntmps55
  repeat' (first | (go_at_call 42; (with_reducible refine (HL.out _).mono ?_); rintro e w1 ⟨rfl, rfl⟩; dsimp only) | go_values | go_skip | go_guarded | go_step | go_upon | go_back)
  go_returns
  exact ⟨congrArg (fun z => Ending.returned (Value.int .u64 z)) HE.out, rfl⟩
/-- a random number in a block of its own -/
def XB (rb : Nat) (s : Nat) (w : World) : Prop := w.heap[rb]? = some (.cells #[.int .u64 (s : Nat)] 104 (0, 0))
theorem XB.cell {sb s : Nat} {w : World} (h : XB sb s w) : w.cell? ⟨sb, 0, none⟩ = some (.int .u64 (s : Nat)) := by rw [World.cell?, h]; rfl
theorem XB.frz {sb s : Nat} {w : World} (h : XB sb s w) (o : Nat) : w.frozen? ⟨sb, o, none⟩ = false := by simp [World.frozen?, show w.heap[sb]? = _ from h]
theorem XB.set {sb s : Nat} {w : World} (h : XB sb s w) (x : Nat) : XB sb x (w.setCell ⟨sb, 0, none⟩ (.int .u64 (x : Nat))) := heap_setCell_same w sb 0 _ _ _ h
set_option maxRecDepth 20000 in
theorem next_any {w : World} {rb s : Nat} (h : XB rb s w) (hs : s < 18446744073709551616) :
    Calls Try.prog 56 #[.pointer (some ⟨rb, 0, none⟩)] w fun e w' => ∃ y : Nat, e = .returned (.int .u64 y) ∧ y < 18446744073709551616 ∧ XB rb y w' ∧ Upd (fun x => x = rb) w w' := by
  have mul : ∀ (x m : Nat), x < 18446744073709551616 → ∃ y z : Nat, IntKind.u64.wrap ((x : Int) * (m : Int)) = (y : Int) ∧ bits .xor .u64 (x : Int) (y : Int) = (z : Int) ∧ z < 18446744073709551616 := fun x m hx => by
    have hy : x * m % 18446744073709551616 < 18446744073709551616 := Nat.mod_lt _ (by decide)
    refine ⟨x * m % 18446744073709551616, x ^^^ (x * m % 18446744073709551616), ?_, u64_xor_nat _ _ hx hy, Nat.xor_lt_two_pow (n := 64) hx hy⟩
    rw [show (x : Int) * (m : Int) = ((x * m : Nat) : Int) by simp, IntKind.wrap_u64]
    omega
  obtain ⟨a1, y1, e1, e2, h1⟩ := mul s 8192 hs
  obtain ⟨a2, ha2⟩ : ∃ a, y1 / 128 = a := ⟨_, rfl⟩
  have e3 : (y1 : Int) / 128 = (a2 : Int) := by omega
  obtain ⟨y2, e4, h2⟩ : ∃ z : Nat, bits .xor .u64 (y1 : Int) (a2 : Int) = (z : Int) ∧ z < 18446744073709551616 := ⟨_, u64_xor_nat _ _ h1 (by omega), Nat.xor_lt_two_pow (n := 64) h1 (by omega)⟩
  obtain ⟨a3, y3, e5, e6, h3⟩ := mul y2 131072 h2
  have c0 := h.cell
  have f0 := h.frz
  have e1' : IntKind.u64.wrap ((s : Int) * 8192) = (a1 : Int) := e1
  have e5' : IntKind.u64.wrap ((y2 : Int) * 131072) = (a3 : Int) := e5
  have H0 := Bx.mk h
  have HA2 := Bx.mk ha2
  have HB := Bx.mk (And.intro h1 (And.intro h2 h3))
  clear mul e1 e5 h ha2 h1 h2 h3
  go_enter Try.func56, Try.ntmps56
  repeat' (first | fail | go_values | go_skip | go_guarded | go_step | go_upon | go_back)
  go_still_tail 9, (by kernel_rfl)
  change wpList _ _ _ _ _ w.drew
  repeat' (first | fail | go_values | go_skip | go_guarded | go_step | go_upon | go_back)
  have X1 : XB rb y1 (w.setCell ⟨rb, 0, none⟩ (.int .u64 (y1 : Nat))).drew := H0.out.set y1
  have U1 : Upd (fun x => x = rb) w (w.setCell ⟨rb, 0, none⟩ (.int .u64 (y1 : Nat))).drew := (Upd.set1 w ⟨rb, 0, none⟩ _).drew
  clear c0 f0
  generalize (w.setCell ⟨rb, 0, none⟩ (.int .u64 (y1 : Nat))).drew = wA at *
  have c0 := X1.cell
  have f0 := X1.frz
  go_still_tail 9, (by kernel_rfl)
  change wpList _ _ _ _ _ wA.drew
  repeat' (first | fail | go_values | go_skip | go_guarded | go_step | go_upon | go_back)
  have X2 : XB rb y2 (wA.setCell ⟨rb, 0, none⟩ (.int .u64 (y2 : Nat))).drew := X1.set y2
  have U2 : Upd (fun x => x = rb) w (wA.setCell ⟨rb, 0, none⟩ (.int .u64 (y2 : Nat))).drew := (U1.setCell (p := ⟨rb, 0, none⟩) (.inl rfl) _).drew
  clear c0 f0
  generalize (wA.setCell ⟨rb, 0, none⟩ (.int .u64 (y2 : Nat))).drew = wB at *
  have c0 := X2.cell
  have f0 := X2.frz
  go_still_tail 9, (by kernel_rfl)
  change wpList _ _ _ _ _ wB.drew
  repeat' (first | fail | go_values | go_skip | go_guarded | go_step | go_upon | go_back)
  have X3 : XB rb y3 (wB.setCell ⟨rb, 0, none⟩ (.int .u64 (y3 : Nat))).drew := X2.set y3
  have U3 : Upd (fun x => x = rb) w (wB.setCell ⟨rb, 0, none⟩ (.int .u64 (y3 : Nat))).drew := (U2.setCell (p := ⟨rb, 0, none⟩) (.inl rfl) _).drew
  clear c0 f0
  generalize (wB.setCell ⟨rb, 0, none⟩ (.int .u64 (y3 : Nat))).drew = wC at *
  have c0 := X3.cell
  repeat' (first | fail | go_values | go_skip | go_guarded | go_step | go_upon | go_back)
  go_returns
  exact ⟨y3, rfl, HB.out.2.2, X3, U3⟩
end Go.Proofs.Ytohflgpkimnodaa
