/- A ring of int64: the comparison, the search, find: walked. -/
import Derived.Test.YtkcepmalahmkiaaRgL1
import Derived.Test.YtkcepmalahmkiaaRgCmp
namespace Go.Proofs.Ytkcepmalahmkiaa
open Go.RowKit
theorem find1L_any (t q : Nat) (x : Int) (w : World) : Calls Try.prog 56 #[.agg #[.int .u32 q, .int .i64 x], .int .u32 t] w fun e w' => e = .returned (.int .i64 (cmpT q t)) ∧ New w w' := by
  have h1 := Compare_any q t
  go_enter Try.func56, Try.ntmps56
  go_wp2_with (go_at_call 48; (with_reducible refine (h1 _).mono ?_); rintro e w1 ⟨rfl, rfl⟩; dsimp only)
  go_ret
  exact ⟨rfl, (Upd.refl _ _).alloc _⟩
/-- the cells of the i-th -/
theorem atL {w : World} {g : Nat} {xs : List (Rit Int)} (hr : Rd w (some ⟨g, 0, none⟩) (rcells csL xs)) (i : Nat) (hi : i < xs.length) (j : Nat) (hj : j < 2) (u : Value) (hu : (Value.int .u32 xs[i].tick :: csL xs[i].v)[j]? = some u) : w.cell? ⟨g, i * 2 + j, none⟩ = some u := by
  have e := rcells_at csL (2 - 1) csL_len xs i hi j hj
  rw [hu] at e
  rcases hr with h0 | ⟨b, off, hA, hcl⟩
  · rw [h0] at e; cases e
  · simp only [Option.some.injEq, Addr.mk.injEq, and_true] at hA
    obtain ⟨rfl, rfl⟩ := hA
    have := hcl _ _ e
    rwa [Nat.zero_add] at this
set_option maxRecDepth 20000 in
set_option maxHeartbeats 2000000 in
theorem searchL_any (g n c t : Nat) (A : Option Addr) (xs : List (Rit Int)) (w : World) (hl : xs.length = n) (hn : n ≤ 4096) (hA : 0 < n → A = some ⟨g, 0, none⟩) (hr : Rd w A (rcells csL xs)) (hup : Rising xs) :
    Calls Try.prog 55 #[.slice A n c, .int .u32 t, .func (.func 56) #[] #[]] w fun e w' =>
      e = .returned (.tuple #[.int .i64 (lb xs t : Nat), .bool (found xs t).isSome]) ∧ New w w' := by
  have HLB := Bx.mk (lb_le xs t)
  have HL := Bx.mk hl
  have HUP := Bx.mk hup
  clear hl hup
  go_enter Try.func55, Try.ntmps55
  go_wp2
  go_loopw [9, 10] (fun i j wr => ∃ p q : Nat, i = .int .i64 p ∧ j = .int .i64 q ∧ p ≤ lb xs t ∧ lb xs t ≤ q ∧ q ≤ n ∧ New w wr) (fun i j _ => (intOf j).toNat - (intOf i).toNat)
  case atStart => exact ⟨0, n, rfl, rfl, Nat.zero_le _, by have := HLB.out; have := HL.out; omega, Nat.le_refl _, Upd.refl _ _⟩
  case round =>
    obtain ⟨p, q, rfl, rfl, hp, hq, hqn, hN⟩ := hrel
    by_cases hpq : p < q
    · have hpqi : (p : Int) < (q : Int) := by omega
      obtain ⟨h, hh⟩ : ∃ h, (p + q) / 2 = h := ⟨_, rfl⟩
      have e1 : ((p : Int) + (q : Int)) / 2 = (h : Int) := by omega
      have hhn : h < n := by omega
      have hhi : (h : Int) < (n : Int) := by omega
      have hhx : h < xs.length := by rw [HL.out]; exact hhn
      obtain rfl := hA (by omega)
      have hr1 := hr.new hN
      have c0 := atL hr1 h hhx 0 (by omega) _ rfl
      rw [Nat.add_zero] at c0
      have c1 := atL hr1 h hhx 1 (by omega) _ rfl
      have hlb := lb_iff HUP.out t h hhx
      generalize xs[h] = x at *
      obtain ⟨tk, xv⟩ := x
      dsimp only at c0 c1 hlb
      by_cases hlt : tk < t
      · have HC := Bx.mk (show cmpT tk t = -1 from if_pos hlt)
        have hlb' : h < lb xs t := hlb.1 hlt
        clear hlb
        repeat' (first | (go_at_call 56; (with_reducible refine (find1L_any t tk xv _).mono ?_); rintro e w2 ⟨rfl, hN2⟩; dsimp only; rw [HC.out]) | go_values | go_skip | go_guarded | go_step | go_upon | go_back)
        go_roundw
        case rel => exact ⟨h + 1, q, by go_num, rfl, by omega, hq, hqn, hN.trans hN2⟩
        case measure => simp [intOf]; omega
      · obtain ⟨z, hz⟩ : ∃ z, cmpT tk t = z := ⟨_, rfl⟩
        have hz0 : ¬ z < 0 := by rw [← hz]; unfold cmpT; rw [if_neg hlt]; split <;> omega
        have HC := Bx.mk hz
        have hlb' : lb xs t ≤ h := Nat.le_of_not_lt fun q => hlt (hlb.2 q)
        clear hlb hz
        repeat' (first | (go_at_call 56; (with_reducible refine (find1L_any t tk xv _).mono ?_); rintro e w2 ⟨rfl, hN2⟩; dsimp only; rw [HC.out]) | go_values | go_skip | go_guarded | go_step | go_upon | go_back)
        go_roundw
        case rel => exact ⟨p, h, rfl, rfl, hp, hlb', by omega, hN.trans hN2⟩
        case measure => simp [intOf]; omega
    · obtain ⟨rfl, rfl⟩ : p = lb xs t ∧ q = lb xs t := by omega
      obtain ⟨h, hh⟩ : ∃ h, lb xs t = h := ⟨_, rfl⟩
      have hFA := found_at HUP.out t
      have hFN := found_none HUP.out t
      rw [hh] at hFA hFN
      rw [hh]
      clear hpq hp hq
      rw [hh] at hqn
      by_cases hhn : h < n
      · have hhi : (h : Int) < (n : Int) := by omega
        have hhx : h < xs.length := by rw [HL.out]; exact hhn
        obtain rfl := hA (by omega)
        have hr1 := hr.new hN
        have c0 := atL hr1 h hhx 0 (by omega) _ rfl
        rw [Nat.add_zero] at c0
        have c1 := atL hr1 h hhx 1 (by omega) _ rfl
        have hFA' := hFA hhx
        have hFN' := fun (q : ¬ xs[h].tick = t) => hFN (fun _ => q)
        clear hFA hFN
        generalize xs[h] = x at *
        obtain ⟨tk, xv⟩ := x
        dsimp only at c0 c1 hFA' hFN'
        by_cases hte : tk = t
        · have HC := Bx.mk (show cmpT tk t = 0 by unfold cmpT; rw [if_neg (by omega), if_neg (by omega)])
          have HF := Bx.mk (hFA' hte)
          clear hFA' hFN'
          subst hte
          repeat' (first | (go_at_call 56; (with_reducible refine (find1L_any tk tk xv _).mono ?_); rintro e w2 ⟨rfl, hN2⟩; dsimp only; rw [HC.out]) | go_values | go_skip | go_guarded | go_step | go_upon | go_back)
          go_returns
          exact ⟨by rw [HF.out, hh]; rfl, hN.trans hN2⟩
        · obtain ⟨z, hz⟩ : ∃ z, cmpT tk t = z := ⟨_, rfl⟩
          have hz0 : ¬ z = 0 := by rw [← hz]; unfold cmpT; split <;> (try split) <;> omega
          have HC := Bx.mk hz
          have hzb : (z == 0) = false := by simpa using hz0
          have HF := Bx.mk (hFN' hte)
          clear hFA' hFN' hz
          repeat' (first | (go_at_call 56; (with_reducible refine (find1L_any t tk xv _).mono ?_); rintro e w2 ⟨rfl, hN2⟩; dsimp only; rw [HC.out]) | go_values | go_skip | go_guarded | go_step | go_upon | go_back)
          go_returns
          exact ⟨by rw [HF.out, hh]; rfl, hN.trans hN2⟩
      · have hhi : ¬ (h : Int) < (n : Int) := by omega
        have HF := Bx.mk (hFN (fun q => by have := HL.out; omega))
        clear hFA hFN
        repeat' (first | fail | go_values | go_skip | go_guarded | go_step | go_upon | go_back)
        go_returns
        have HH := Bx.mk hh
        exact ⟨by rw [HF.out, hh]; rfl, hN⟩
section
variable {w w' : World} {g most : Nat} {v : Value} {xs : List (Rit Int)}
theorem LRing.c0 (h : LRing w g v most xs) : w.cell? ⟨g, 0, none⟩ = some (.int .i64 most) := by rw [World.cell?, h.obj]; rfl
theorem LRing.c1 (h : LRing w g v most xs) : w.cell? ⟨g, 1, none⟩ = some v := by rw [World.cell?, h.obj]; rfl
theorem LRing.fz (h : LRing w g v most xs) (o : Nat) : w.frozen? ⟨g, o, none⟩ = false := by simp [World.frozen?, h.obj]
theorem LRing.apart (h : LRing w g v most xs) : ¬ v.ownBlock = some g := own_obj_ne h.row h.obj (by decide)
theorem LRing.upd {S : Nat → Prop} (h : LRing w g v most xs) (k : Upd S w w') (h1 : ¬ S g) (h2 : ∀ b, v.ownBlock = some b → ¬ S b) : LRing w' g v most xs :=
  ⟨k.blk h.obj h1, own_upd h.row k h2, h.up, h.lt⟩
theorem LRing.new (h : LRing w g v most xs) (k : New w w') : LRing w' g v most xs := h.upd k (fun q => q) (fun _ _ q => q)
end
theorem findL_any {w : World} {g most : Nat} {v : Value} {xs : List (Rit Int)} (h : LRing w g v most xs) (hm : xs.length ≤ 4096) (t : Nat) :
    Calls Try.prog 43 #[.pointer (some ⟨g, 0, none⟩), .int .u32 t] w fun e w' => e = .returned (.tuple #[.int .i64 (lb xs t : Nat), .bool (found xs t).isSome]) ∧ New w w' := by
  have c1 := h.c1
  obtain ⟨A, c, rfl, _, _, hr, _⟩ := own_rd h.row
  have hA : 0 < xs.length → ∃ g', A = some ⟨g', 0, none⟩ := fun hp => by
    obtain ⟨g', c', e, _⟩ := own_some h.row hp
    exact ⟨g', by simpa using (show A = some ⟨g', 0, none⟩ by injection e)⟩
  obtain ⟨g', hA'⟩ : ∃ g', 0 < xs.length → A = some ⟨g', 0, none⟩ := by
    by_cases hp : 0 < xs.length
    · obtain ⟨g', e⟩ := hA hp; exact ⟨g', fun _ => e⟩
    · exact ⟨0, fun q => absurd q hp⟩
  have HS := Bx.mk (searchL_any g' xs.length c t A xs w rfl hm hA' hr h.up)
  clear hA hA' h hr
  generalize xs.length = n at *
  go_enter Try.func43, Try.ntmps43
  go_wp2_with (go_at_call 55; (with_reducible refine HS.out.mono ?_); rintro e w2 ⟨rfl, hN2⟩; dsimp only)
  go_returns
  exact ⟨rfl, hN2⟩
end Go.Proofs.Ytkcepmalahmkiaa
