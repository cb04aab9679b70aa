/- The law ViewCells: walked. -/
import Derived.Test.YtohflgpkimnodaaVi5
namespace Go.Proofs.Ytohflgpkimnodaa
open Go.RowKit

theorem eq_pair (x y : Int) (w : World) : (Op.equalIn 10000 31 (.agg #[.int .i64 x, .int .i64 y]) (.agg #[.int .i64 x, .int .i64 y])).run Try.prog w = .ok true w := by
  have h := run_equalIn_array w 9998 31 3 .i64 2 Try.underlying31 Try.underlying3 (z := some (.int .i64 0)) (bytes := 8) (by kernel_rfl) [x, y] [x, y] rfl rfl
  rw [decide_eq_true rfl] at h
  exact h

theorem pvs_at (L : List (Int × Int)) (k : Nat) (hk : k < L.length) : (pvs L)[k * 2]? = some (.int .i64 L[k].1) ∧ (pvs L)[k * 2 + 1]? = some (.int .i64 L[k].2) := by
  induction L generalizing k with
  | nil => exact absurd hk (Nat.not_lt_zero _)
  | cons p L ih =>
    cases k with
    | zero => exact ⟨rfl, rfl⟩
    | succ k =>
      have h := ih k (Nat.lt_of_succ_lt_succ hk)
      rw [Nat.succ_mul]
      exact h
theorem pair_at {w : World} {g : Nat} {L : List (Int × Int)} (h : Rd w (some ⟨g, 0, none⟩) (pvs L)) (k : Nat) (hk : k < L.length) :
    w.cell? ⟨g, k * 2, none⟩ = some (.int .i64 L[k].1) ∧ w.cell? ⟨g, k * 2 + 1, none⟩ = some (.int .i64 L[k].2) := by
  have hp := pvs_at L k hk
  rcases h with h | ⟨b, off, hA, hc⟩
  · rw [h] at hp; simp at hp
  · simp only [Option.some.injEq, Addr.mk.injEq, and_true] at hA
    obtain ⟨rfl, rfl⟩ := hA
    have h1 := hc (k * 2) _ hp.1
    have h2 := hc (k * 2 + 1) _ hp.2
    rw [Nat.zero_add] at h1 h2
    exact ⟨h1, h2⟩

set_option maxHeartbeats 1600000 in
theorem ViewCells_any (g : Vi.Reg) (x y : Int) (w : World) (hx : -2147483648 ≤ x ∧ x ≤ 2147483647) (hy : -2147483648 ≤ y ∧ y ≤ 2147483647) :
    Calls Try.prog 3 #[regV g, .int .i32 x, .int .i32 y] w fun e w' => e = .returned (.bool true) ∧ New w w' := by
  have hd : New w (w.alloc (.cells #[.bool g.on, .int .i64 g.cx, .int .i64 g.cy, .int .i64 g.r] 23)) := (Upd.refl _ _).alloc _
  have hr4 := (rd_new w [.bool g.on, .int .i64 g.cx, .int .i64 g.cy, .int .i64 g.r] 23)
  have k1 := fun w => Check_any g w
  have k2 := fun w => refCheck_any g w
  have s1 := fun w => Sees_any g x y w hx hy
  have s2 := fun w => refSees_any g x y w hx hy
  have l1 := fun w => Cells_any g w
  have l2 := fun w => refCells_any g w
  clear hx hy
  generalize (if Vi.ok g then 0 else 1 : Int) = E at k1 k2
  generalize Vi.has g (x / 16384) (y / 16384) = b at s1 s2
  generalize hL : Vi.cells g = L at l1 l2
  clear hL
  unfold regV at *
  obtain ⟨on, cx, cy, r⟩ := g
  dsimp only at *
  generalize hwA : w.alloc (.cells #[.bool on, .int .i64 cx, .int .i64 cy, .int .i64 r] 23) = wA at hd hr4
  go_enter Try.func3, Try.ntmps3
  go_wp2_with (first | (go_at_call 8; (with_reducible refine (awake_any _).mono ?_); rintro e w1 ⟨rfl, hu1⟩; dsimp only))
  have hu := hd.trans hu1
  have hr1 := hr4.new hu1
  clear hwA hd hr4 hu1
  have hr1d := hr1.new (Upd.refl _ w1).drew
  generalize w.heap.size = G at hr1 hr1d
  go_region_held3 (fun w' => w'.cell? ⟨G, 0, none⟩ = some (.bool on) ∧ w'.cell? ⟨G, 1, none⟩ = some (.int .i64 cx) ∧ w'.cell? ⟨G, 2, none⟩ = some (.int .i64 cy) ∧ w'.cell? ⟨G, 3, none⟩ = some (.int .i64 r))
    (first | exact four_cells hr1d | exact four_cells (hr1d.new hua) | exact four_cells (hr1d.new hub) | exact four_cells (hr1d.new (hua.trans hub)) | exact four_cells (hr1d.new (hub.trans hua)))
    (first | ((go_at_call 9; (with_reducible refine (l1 _).mono ?_); rintro e w2 ⟨v1, rfl, ho1, hua⟩; dsimp only); obtain ⟨A1, c1, rfl, hc1, _, hra, _⟩ := own_rd ho1) | ((go_at_call 10; (with_reducible refine (l2 _).mono ?_); rintro e w3 ⟨v2, rfl, ho2, hub⟩; dsimp only); obtain ⟨A2, c2, rfl, hc2, _, hrb, _⟩ := own_rd ho2))
  all_goals
    first
      | (have hn := (hu.trans ((Upd.refl _ w1).drew)).trans (hua.trans hub); have hr := hr1d.new (hua.trans hub); have hA := hra.new hub; have hB := hrb; clear hua hub)
      | (have hn := (hu.trans ((Upd.refl _ w1).drew)).trans (hub.trans hua); have hr := hr1d.new (hub.trans hua); have hB := hrb.new hua; have hA := hra; clear hua hub)
    have hs1 : 0 < L.length → ∃ g, A1 = some ⟨g, 0, none⟩ := fun h => by
      obtain ⟨g, c, h, _⟩ := own_some ho1 h
      exact ⟨g, by simpa using (show A1 = some ⟨g, 0, none⟩ by injection h)⟩
    have hs2 : 0 < L.length → ∃ g, A2 = some ⟨g, 0, none⟩ := fun h => by
      obtain ⟨g, c, h, _⟩ := own_some ho2 h
      exact ⟨g, by simpa using (show A2 = some ⟨g, 0, none⟩ by injection h)⟩
    have hm : L.length ≤ maxLen := by omega
    clear hu hra hrb hr1 hr1d ho1 ho2 l1 l2
    obtain ⟨C0, C1, C2, C3⟩ := four_after hr
    go_wp2
    (refine wp_region_calm (by kernel_rfl) (by kernel_rfl) ?_; (repeat (go_big_quiet_step ((first
      | (go_at_call 11; refine Calls.calm (k1 _))
      | (go_at_call 12; refine Calls.calm (k2 _))
      | (go_at_call 13; refine Calls.calm (s1 _))
      | (go_at_call 14; refine Calls.calm (s2 _)))))); refine wpQuiet_nil ?_; intro wq hq)
    have hA1 := hA.new hq
    have hB1 := hB.new hq
    have hn1 := hn.trans hq
    clear hn hr hA hB hq C0 C1 C2 C3 k1 k2 s1 s2
    go_wp2
    go_loopw [9, 41] (fun _ i wr => ∃ k : Nat, k ≤ L.length ∧ i = .int .i64 k ∧ New wq wr) (fun _ i _ => L.length - (intOf i).toNat)
    case atStart => exact ⟨0, Nat.zero_le _, rfl, .refl _ _⟩
    case round =>
      obtain ⟨k, hk, rfl, hu⟩ := hrel
      have hm9 : L.length ≤ 9223372036854775807 := hm
      by_cases hlt : k < L.length
      · obtain ⟨g1, rfl⟩ := hs1 (by omega)
        obtain ⟨g2, rfl⟩ := hs2 (by omega)
        have P1 := fun x : After wr => pair_at (hA1.new (hu.trans x.h)) k hlt
        have P2 := fun x : After wr => pair_at (hB1.new (hu.trans x.h)) k hlt
        have P11 := fun x => (P1 x).1
        have P12 := fun x => (P1 x).2
        have P21 := fun x => (P2 x).1
        have P22 := fun x => (P2 x).2
        have HE := eq_pair (L[k].1) (L[k].2)
        generalize (L[k].1) = u at *
        generalize (L[k].2) = v at *
        clear P1 P2 hs1 hs2 hA1 hB1
        go_wp2
        (refine wp_region_calm (by kernel_rfl) (by kernel_rfl) ?_; (repeat (go_big_quiet_step ((fail)))); refine wpQuiet_nil ?_; intro wq hq)
        go_wp2
        go_roundw
        case rel => exact ⟨k + 1, by omega, by go_num, hu.trans hq⟩
        case measure => simp [intOf]; omega
      · obtain rfl : k = L.length := by omega
        go_wp2
        go_ret
        exact ⟨rfl, hn1.trans hu⟩
end Go.Proofs.Ytohflgpkimnodaa
