/- Components as parts: field, more. -/
import Derived.Test.YtpfdbkfjjjiamaaSc9
import Derived.Test.YtpfdbkfjjjiamaaNmL5
import Derived.StillTailTactics
namespace Go.Proofs.Ytpfdbkfjjjiamaa
open Go.RowKit

theorem chk_good (k : Nat) (a b c : Int) (h : chk k [a, b, c] = 0) : 0 < (flds k).length ∧ (∀ i : Nat, i < (flds k).length → rngLo k i ≤ [a, b, c].getD i 0 ∧ [a, b, c].getD i 0 ≤ rngHi k i) ∧ ∀ i, (flds k).length ≤ i → i < 3 → [a, b, c].getD i 0 = 0 := by
  have h0 : (flds k).length ≠ 0 := fun q => by rw [chk, if_pos q] at h; cases h
  have h4 : ([a, b, c].drop (flds k).length).any (fun x => decide (x ≠ 0)) = false := by
    cases hh : ([a, b, c].drop (flds k).length).any (fun x => decide (x ≠ 0))
    · rfl
    · rw [chk, if_neg h0, if_pos hh] at h; cases h
  have h5 : ((flds k).zip [a, b, c]).any outOf = false := by
    cases hh : ((flds k).zip [a, b, c]).any outOf
    · rfl
    · rw [chk, if_neg h0, if_neg (by rw [h4]; decide), if_pos hh] at h; cases h
  have hl := flds_len k
  refine ⟨by omega, fun i hi => ?_, fun i hi hi3 => ?_⟩
  · obtain ⟨e1, e2, -⟩ := rng_ok k i hi
    have hi3 : i < [a, b, c].length := by simp; omega
    have hn : ¬ outOf ((flds k)[i], [a, b, c][i]) = true := fun q => by rw [zip_any_of _ _ i hi hi3 q] at h5; cases h5
    rw [e1, e2, List.getD_eq_getElem?_getD, List.getElem?_eq_getElem hi3, Option.getD_some]
    unfold outOf at hn
    simp only [Bool.or_eq_true, decide_eq_true_eq] at hn
    omega
  · by_cases hx : [a, b, c].getD i 0 = 0
    · exact hx
    · rw [chk_form k a b c h0 i hi hi3 hx] at h; cases h
theorem rng_bd (k i : Nat) (hi : i < (flds k).length) : -1000000 ≤ rngLo k i ∧ rngLo k i ≤ 1000000 ∧ -1000000 ≤ rngHi k i ∧ rngHi k i ≤ 1000000 := by
  obtain ⟨e1, e2, -⟩ := rng_ok k i hi
  rw [e1, e2]
  exact flds_bd k _ (List.getElem_mem hi)
theorem wid3 (k i : Nat) (hi : i < (flds k).length) : 3 ≤ wid (rngLo k i) (rngHi k i) := by
  have hl := flds_len k
  have h3 : i = 0 ∨ i = 1 ∨ i = 2 := by omega
  rcases six k with rfl | rfl | rfl | rfl | rfl | rfl | h6
  case' inr.inr.inr.inr.inr.inr => rw [flds_big k h6] at hi; cases hi
  all_goals
    rcases h3 with rfl | rfl | rfl
    all_goals first
    | decide +kernel
    | (exact absurd hi (by decide))

theorem four_cells {w : World} {g : Nat} {a b c d : Value} (h : Rd w (some ⟨g, 0, none⟩) [a, b, c, d]) :
    w.cell? ⟨g, 0, none⟩ = some a ∧ w.cell? ⟨g, 1, none⟩ = some b ∧ w.cell? ⟨g, 2, none⟩ = some c ∧ w.cell? ⟨g, 3, none⟩ = some d := by
  rcases h with h | ⟨b, off, hA, hc⟩
  · cases h
  · simp only [Option.some.injEq, Addr.mk.injEq, and_true] at hA
    obtain ⟨rfl, rfl⟩ := hA
    exact ⟨hc 0 _ rfl, hc 1 _ rfl, hc 2 _ rfl, hc 3 _ rfl⟩
theorem four_after {w : World} {g : Nat} {a b c d : Value} (h : Rd w (some ⟨g, 0, none⟩) [a, b, c, d]) :
    (∀ x : After w, x.to.cell? ⟨g, 0, none⟩ = some a) ∧ (∀ x : After w, x.to.cell? ⟨g, 1, none⟩ = some b) ∧ (∀ x : After w, x.to.cell? ⟨g, 2, none⟩ = some c) ∧ (∀ x : After w, x.to.cell? ⟨g, 3, none⟩ = some d) :=
  ⟨fun x => (four_cells (h.new x.h)).1, fun x => (four_cells (h.new x.h)).2.1, fun x => (four_cells (h.new x.h)).2.2.1, fun x => (four_cells (h.new x.h)).2.2.2⟩
/-- a field as In -/
def fldP (k : Nat) (F : List Int) (i : Nat) : Nat × Nat := ((F.getD i 0 - rngLo k i).toNat, wid (rngLo k i) (rngHi k i))
/-- Zig of what a field is more -/
def dz (W F : List Int) (i : Nat) : Nat := (zig (F.getD i 0 - W.getD i 0)).toNat
theorem dz_eq (W F : List Int) (i : Nat) : ((dz W F i : Nat) : Int) = zig (F.getD i 0 - W.getD i 0) := by
  unfold dz zig; split <;> omega
theorem comp_new (w : World) (k : Nat) (a b c : Int) : ∀ j, j < 3 → (w.alloc (.cells #[.int .u8 k, .int .i32 a, .int .i32 b, .int .i32 c] 24)).cell? ⟨w.heap.size, 1 + j, none⟩ = some (.int .i32 ([a, b, c].getD j 0)) := by
  intro j hj
  rw [World.cell?, heap_alloc_new]
  have : j = 0 ∨ j = 1 ∨ j = 2 := by omega
  rcases this with rfl | rfl | rfl <;> rfl
theorem comp_kind (w : World) (k : Nat) (a b c : Int) : (w.alloc (.cells #[.int .u8 k, .int .i32 a, .int .i32 b, .int .i32 c] 24)).cell? ⟨w.heap.size, 0, none⟩ = some (.int .u8 k) := by
  rw [World.cell?, heap_alloc_new]; rfl
theorem at2 {w : World} {B : Nat} {a b : Value} (h : w.heap[B]? = some (.cells #[a, b] 93 (0, 0))) : w.cell? ⟨B, 0, none⟩ = some a ∧ w.cell? ⟨B, 1, none⟩ = some b ∧ ∀ o, w.frozen? ⟨B, o, none⟩ = false := by
  refine ⟨by rw [World.cell?, h]; rfl, by rw [World.cell?, h]; rfl, fun o => by simp [World.frozen?, h]⟩
theorem set2' {w : World} {B : Nat} {a b : Value} (h : w.heap[B]? = some (.cells #[a, b] 93 (0, 0))) (x y : Value) : ((w.setCell ⟨B, 0, none⟩ x).setCell ⟨B, 1, none⟩ y).heap[B]? = some (.cells #[x, y] 93 (0, 0)) :=
  heap_setCell_same _ B 1 _ _ y (heap_setCell_same _ B 0 _ _ x h)
theorem Zig_any' (n : Int) (w : World) (h1 : -2000000 ≤ n) (h2 : n ≤ 2000000) : Calls Try.prog 59 #[.int .i64 n] w fun e w' => e = .returned (.int .u64 (zig n)) ∧ w' = w := Zig_any n w (by omega) (by omega)

set_option maxRecDepth 4000 in
set_option maxHeartbeats 1000000 in
theorem field_any (k : Nat) (a b c : Int) (i x d : Nat) (w : World) (hk : k < 256) (hi : i < (flds k).length) (hlo : rngLo k i ≤ [a, b, c].getD i 0) (hhi : [a, b, c].getD i 0 ≤ rngHi k i) (hx : fldP k [a, b, c] i = (x, d)) :
    Calls Try.prog 53 #[.agg #[.int .u8 k, .int .i32 a, .int .i32 b, .int .i32 c], .int .i64 i] w fun e w' => e = .returned (.agg #[.int .u64 x, .int .i64 d]) ∧ New w w' := by
  have hi3 : i < 3 := by have := flds_len k; omega
  have HB := Bx.mk (comp_new w k a b c i hi3)
  have HK := Bx.mk (comp_kind w k a b c)
  have HR := Bx.mk (fun w => Range_any k i w hk)
  have hb := rng_bd k i hi
  have e1 : IntKind.u64.wrap ([a, b, c].getD i 0 - rngLo k i) = (x : Int) := by
    have := congrArg Prod.fst hx
    simp only [fldP] at this
    rw [IntKind.wrap_u64]; omega
  have e2 : wid (rngLo k i) (rngHi k i) = d := congrArg Prod.snd hx
  have HW := Bx.mk (fun w => Width_any (rngLo k i) (rngHi k i) w (by omega) (by omega) (by omega) (by omega))
  rw [e2] at HW
  generalize [a, b, c].getD i 0 = f at *
  generalize rngLo k i = lo at *
  generalize rngHi k i = hh at *
  clear hx e2
  go_enter Try.func53, Try.ntmps53
  repeat' (first | (go_at_call 57; (with_reducible refine (HR.out _).mono ?_); rintro e w1 ⟨rfl, hu1⟩; dsimp only) | go_values | go_skip | go_guarded | go_step | go_upon | go_back)
  have hN0 : New w ((w.alloc (.cells #[.int .u8 k, .int .i32 a, .int .i32 b, .int .i32 c] 24)).alloc (.cells #[.int .u64 0, .int .i64 0] 93)) := ((Upd.refl _ w).alloc _).alloc _
  have hcell := (((Upd.refl Nowhere (w.alloc (.cells #[.int .u8 k, .int .i32 a, .int .i32 b, .int .i32 c] 24))).alloc (.cells #[.int .u64 0, .int .i64 0] 93)).trans hu1).cell HB.out (fun q => q)
  have hob : w1.heap[w.heap.size + 1]? = some (.cells #[.int .u64 0, .int .i64 0] 93 (0, 0)) := hu1.blk (by rw [show w.heap.size + 1 = (w.alloc (.cells #[.int .u8 k, .int .i32 a, .int .i32 b, .int .i32 c] 24)).heap.size by simp]; exact heap_alloc_new _ _) (fun q => q)
  have hiI : (i : Int) < 3 := by omega
  have w1' : IntKind.i64.wrap f = f := by rw [IntKind.wrap_i64]; omega
  have w2' : IntKind.i64.wrap lo = lo := by rw [IntKind.wrap_i64]; omega
  have w3' : IntKind.i64.wrap hh = hh := by rw [IntKind.wrap_i64]; omega
  have w4' : IntKind.i64.wrap (f - lo) = f - lo := by rw [IntKind.wrap_i64]; omega
  clear hb hlo hhi hi hk
  refine wp_region_still_tail 15 (by kernel_rfl) (by kernel_rfl) ?_
  simp only [List.take_succ_cons, List.take_zero, List.drop_succ_cons, List.drop_zero]
  repeat still_step
  still_call (HW.out _)
  repeat still_step
  refine wpStill_nil ?_
  change wpList _ _ _ _ _ w1.drew
  have hob2 : w1.drew.heap[w.heap.size + 1]? = some (.cells #[.int .u64 0, .int .i64 0] 93 (0, 0)) := hob
  have hNd : New w w1.drew := (hN0.trans hu1).drew
  generalize w1.drew = w2 at *
  obtain ⟨k0, k1, kf⟩ := at2 hob2
  clear hcell hob hu1 hN0 HB HK HR HW w1' w2' w3' w4' e1
  repeat' (first | fail | go_values | go_skip | go_guarded | go_step | go_upon | go_back)
  refine bodyPost_ret (results_cell_row Try.results53 _ _ (w.heap.size + 1) 93 _ (0, 0) _ rfl (set2' hob2 _ _) Try.underlying93 rfl (by kernel_rfl)) rfl ?_
  exact ⟨rfl, (hNd.setCell (p := ⟨w.heap.size + 1, 0, none⟩) (.inr (Nat.le_succ _)) _).setCell (p := ⟨w.heap.size + 1, 1, none⟩) (.inr (Nat.le_succ _)) _⟩
end Go.Proofs.Ytpfdbkfjjjiamaa
