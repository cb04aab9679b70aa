/- same: walked. -/
import Derived.Test.YtkcepmalahmkiaaRgRef4
import Derived.Test.YtkcepmalahmkiaaRgL13
namespace Go.Proofs.Ytkcepmalahmkiaa
open Go.RowKit
set_option maxRecDepth 20000 in
theorem same_nil (w : World) : Calls Try.prog 32 #[.pointer none, .pointer none] w fun e w' => e = .returned (.bool true) ∧ New w w' := by
  go_enter Try.func32, Try.ntmps32
  repeat' (first | (first
    | (go_at_call 33; (with_reducible refine (TicksNilL _).mono ?_); rintro e w1 ⟨rfl, h1⟩; subst h1; dsimp only)
    | (go_at_call 44; (with_reducible refine (LastNil _).mono ?_); rintro e w2 ⟨rfl, hN2⟩; dsimp only)
    | (go_at_call 45; (with_reducible refine (LenNilL _).mono ?_); rintro e w3 ⟨rfl, h3⟩; subst h3; dsimp only)) | go_values | go_skip | go_guarded | go_step | go_upon | go_back)
  go_ret
  exact ⟨rfl, hN2⟩
theorem RfAt.blk {w0 w : World} {g most : Nat} {xs : List (Rit Int)} (h : RfAt w0 w g most xs) : ∃ A c, w.heap[g]? = some (.cells #[.int .i64 most, .slice A xs.length c] 77 (0, 0)) ∧ xs.length ≤ c ∧ Rd w A (rfc xs) ∧ (A = none → xs.length = 0) := by
  obtain ⟨⟨A, c, hg, hc, _, hr, hn, _⟩, _⟩ := h
  exact ⟨A, c, hg, hc, hr, hn⟩
set_option maxRecDepth 20000 in
set_option maxHeartbeats 4000000 in
theorem same_none {w0 w0' w : World} {g gr most most' : Nat} (hL : LAt w0 w g most []) (hR : RfAt w0' w gr most' []) :
    Calls Try.prog 32 #[.pointer (some ⟨g, 0, none⟩), .pointer (some ⟨gr, 0, none⟩)] w fun e w' => e = .returned (.bool true) ∧ New w w' := by
  obtain ⟨A, c, hg, _, _, _⟩ := hR.blk
  have HG := Bx.mk hg
  have HL := Bx.mk hL
  clear hL hR hg
  go_enter Try.func32, Try.ntmps32
  repeat' (first | (first
    | (go_at_call 33; (with_reducible refine (HL.out.ticks).mono ?_); rintro e w1 ⟨v1, rfl, ho1, hN1⟩; (obtain ⟨A1, c1, rfl, _⟩ := own_rd ho1); dsimp only)
    | (go_at_call 44; (with_reducible refine ((HL.out.next hN1).last).mono ?_); rintro e w2 ⟨rfl, hN2⟩; rw [show lastT ([] : List (Rit Int)) = 0 from rfl, show lastV ([] : List (Rit Int)) = 0 from rfl, show (!([] : List (Rit Int)).isEmpty) = false from rfl]; have N2 := hN1.trans hN2; (obtain ⟨q0, q1, _⟩ := ring_cell (N2.blk HG.out (fun q => q))); dsimp only)
    | (go_at_call 45; (with_reducible refine ((HL.out.next N2).len_ 0 rfl).mono ?_); rintro e w3 ⟨rfl, h3⟩; subst h3; dsimp only)) | go_values | go_skip | go_guarded | go_step | go_upon | go_back)
  go_ret
  exact ⟨rfl, N2⟩
theorem rfit_new (w : World) : New w (w.alloc (.cells #[.int .u32 0, .int .i64 0] 111)) := (Upd.refl _ w).alloc _
set_option maxRecDepth 20000 in
set_option maxHeartbeats 8000000 in
theorem same_some {w0 w0' w : World} {g gr most most' : Nat} {xs : List (Rit Int)} (hL : LAt w0 w g most xs) (hR : RfAt w0' w gr most' xs) (l n : Nat) (hl : l + 1 = n) (hn : xs.length = n) :
    Calls Try.prog 32 #[.pointer (some ⟨g, 0, none⟩), .pointer (some ⟨gr, 0, none⟩)] w fun e w' => e = .returned (.bool true) ∧ New w w' := by
  obtain ⟨A, c, hg, hc, hr, _⟩ := hR.blk
  have hn64 : n ≤ 64 := by have := hL.len; have := hL.most64; omega
  have HG := Bx.mk hg
  have HL := Bx.mk hL
  have HR := Bx.mk hr
  have HUP := Bx.mk hL.rising
  have HN := Bx.mk hn
  have hll : l < xs.length := by omega
  have HLT := Bx.mk (show lastT xs = xs[l].tick ∧ lastV xs = xs[l].v ∧ (!xs.isEmpty) = true by
    have e : xs.getLast? = some xs[l] := by rw [List.getLast?_eq_getElem?, List.getElem?_eq_getElem (by omega)]; congr 2; omega
    have e2 : xs.isEmpty = false := by cases xs with | nil => simp at hll | cons _ _ => rfl
    rw [lastT, lastV, e, e2]; exact ⟨rfl, rfl, rfl⟩)
  obtain ⟨gq, off, rfl, ca0, ca1⟩ := rfc_at hr l hll
  have HCA := Bx.mk (And.intro ca0 ca1)
  generalize hxl : xs[l] = xl at *
  obtain ⟨tl, vl⟩ := xl
  dsimp only at HLT HCA
  have hl1 : 1 ≤ n := by omega
  have hne : ¬ (n : Int) = 0 := by omega
  clear hL hR hg hr hc hxl hll ca0 ca1
  go_enter Try.func32, Try.ntmps32
  repeat' (first | (first
    | (go_at_call 33; (with_reducible refine (HL.out.ticks).mono ?_); rintro e w1 ⟨v1, rfl, ho1, hN1⟩; rw [HN.out] at ho1; (obtain ⟨g1, c1, rfl, _, _, _, _, _⟩ := own_some ho1 (by omega)); dsimp only)
    | (go_at_call 44; (with_reducible refine ((HL.out.next hN1).last).mono ?_); rintro e w2 ⟨rfl, hN2⟩; rw [HLT.out.1, HLT.out.2.1, HLT.out.2.2]; have N2 := hN1.trans hN2; (obtain ⟨q0, q1, _⟩ := ring_cell (N2.blk HG.out (fun q => q))); rw [HN.out] at q1; dsimp only)
    | (go_at_call 45; (with_reducible refine ((HL.out.next N2).len_ n HN.out).mono ?_); rintro e w3 ⟨rfl, h3⟩; subst h3; dsimp only)) | go_values | go_skip | go_guarded | go_step | go_upon | go_back)
  go_loopw [72] (fun i wr => ∃ j : Nat, j ≤ n ∧ i = .int .i64 j ∧ New w2 wr) (fun i _ => n - (intOf i).toNat)
  case atStart => exact ⟨0, Nat.zero_le _, rfl, Upd.refl _ _⟩
  case round =>
    obtain ⟨j, hj, rfl, hN⟩ := hrel
    by_cases hlt : j < n
    · have hjx : j < xs.length := by rw [HN.out]; exact hlt
      obtain ⟨b, off', hbo, c0, c1⟩ := rfc_at (HR.out.new (N2.trans hN)) j hjx
      simp only [Option.some.injEq, Addr.mk.injEq, and_true] at hbo
      obtain ⟨rfl, rfl⟩ := hbo
      have hF := found_idx xs HUP.out j hjx
      have hT : (own_rd ho1) = (own_rd ho1) := rfl
      obtain ⟨gT, cT, hvT, _, _, _, _, hrT⟩ := own_some (own_new (own_new ho1 hN2) hN) (by omega)
      simp only [Value.slice.injEq, true_and] at hvT
      obtain ⟨hv1, rfl⟩ := hvT
      simp only [Option.some.injEq, Addr.mk.injEq, and_true] at hv1
      subst hv1
      have d0 : wr.cell? ⟨g1, j, none⟩ = some (.int .u32 xs[j].tick) := by
        rcases hrT with h | ⟨b', o', hA, hcl⟩
        · have h2 : xs.length = 0 := by simpa [tksL] using congrArg List.length h
          omega
        · simp only [Option.some.injEq, Addr.mk.injEq, and_true] at hA
          obtain ⟨rfl, rfl⟩ := hA
          have := hcl j (.int .u32 xs[j].tick) (by simp [tksL, hjx])
          rwa [Nat.zero_add] at this
      generalize xs[j] = x at *
      obtain ⟨tk, tv⟩ := x
      dsimp only at c0 c1 d0 hF
      have HF := Bx.mk hF
      clear hF hT hrT
      obtain ⟨hz, z0, z1⟩ := item_new wr tk tv
      have hji : (j : Int) < (n : Int) := by omega
      have d1 := hz.cell d0 (fun q => q)
      have HZ := Bx.mk hz
      clear hz
      repeat' (first | (first
        | (go_at_call 27; (with_reducible refine (((HL.out.next (N2.trans hN)).next HZ.out).get tk).mono ?_); rintro e w5 ⟨rfl, hN5⟩; rw [HF.out]; rw [show valL (some tv) = .int .i64 tv from rfl, show (some tv).isSome = true from rfl]; (have y0 := hN5.cell z0 (fun q => q)); (have y1 := hN5.cell z1 (fun q => q)); (have y2 := hN5.cell d1 (fun q => q)); dsimp only)) | go_values | go_skip | go_guarded | go_step | go_upon | go_back)
      clear z0 z1 d0 d1 c0 c1
      go_quiet (fail)
      go_wp2
      go_roundw
      case rel => exact ⟨j + 1, by omega, by go_num, ((hN.trans HZ.out).trans hN5).drewN _⟩
      case measure => simp [intOf]; omega
    · obtain rfl : j = n := by omega
      have ew : IntKind.i64.wrap ((j : Int) - 1) = (l : Int) := by rw [IntKind.wrap_i64]; omega
      have hlj : (l : Int) < (j : Int) := by omega
      obtain ⟨ca0, ca1⟩ := HCA.out
      have N3 := N2.trans hN
      have k1 := hN.cell q1 (fun q => q)
      have k2 := N3.cell ca0 (fun q => q)
      have k3 := N3.cell ca1 (fun q => q)
      have hz := rfit_new wr
      have r1 := hz.cell k1 (fun q => q)
      have r2 := hz.cell k2 (fun q => q)
      have r3 := hz.cell k3 (fun q => q)
      have d1 := (Upd.refl Nowhere wr).drew.cell k1 (fun q => q)
      have d2 := (Upd.refl Nowhere wr).drew.cell k2 (fun q => q)
      have d3 := (Upd.refl Nowhere wr).drew.cell k3 (fun q => q)
      have NZ : New w (wr.alloc (.cells #[.int .u32 tl, .int .i64 vl] 111)).drew := (N3.alloc _).drew
      obtain ⟨_, hc0, hc1⟩ := item_new wr tl vl
      have hcd0 : (wr.alloc (.cells #[.int .u32 tl, .int .i64 vl] 111)).drew.cell? ⟨wr.heap.size, 0, none⟩ = some (.int .u32 tl) := hc0
      have hcd1 : (wr.alloc (.cells #[.int .u32 tl, .int .i64 vl] 111)).drew.cell? ⟨wr.heap.size, 1, none⟩ = some (.int .i64 vl) := hc1
      clear hl hn ca0 ca1 q0 q1 hc0 hc1
      repeat' (first | fail | go_values | go_skip | go_guarded | go_step | go_upon | go_back)
      go_region_law (fail)
      all_goals
        clear k1 k2 k3 d1 d2 d3 r1 r2 r3 hz
        generalize (wr.alloc (.cells #[.int .u32 tl, .int .i64 vl] 111)).drew = wz at *
        go_wp2
        go_ret
        exact ⟨rfl, NZ⟩
end Go.Proofs.Ytkcepmalahmkiaa
