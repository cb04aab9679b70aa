/- heapSortOrdered at IDs: walked. -/
import Derived.Test.YtohflgpkimnodaaSo4
namespace Go.Proofs.Ytohflgpkimnodaa
open Go.RowKit Go.Sort
theorem size_sift (hi first : Nat) : ∀ (m r : Nat) (d : Array Nat), hi - r ≤ m → (siftDown ltN hi first r d).size = d.size := by
  intro m
  induction m with
  | zero => intro r d h; rw [sift_stop _ _ _ _ (by omega)]
  | succ m ih =>
    intro r d h
    by_cases h0 : 2 * r + 1 ≥ hi
    · rw [sift_stop _ _ _ _ h0]
    · by_cases h1 : 2 * r + 1 + 1 < hi ∧ ltN d[first + (2 * r + 1)]! d[first + (2 * r + 1) + 1]! = true
      · rw [sift_two _ _ _ _ h1.1 h1.2]
        split
        · rw [ih _ _ (by omega), size_swp']
        · rfl
      · rw [sift_one _ _ _ _ h0 (by
          by_cases h2 : 2 * r + 1 + 1 < hi
          · right
            cases h3 : ltN d[first + (2 * r + 1)]! d[first + (2 * r + 1) + 1]!
            · rfl
            · exact absurd ⟨h2, h3⟩ h1
          · exact .inl h2)]
        split
        · rw [ih _ _ (by omega), size_swp']
        · rfl
theorem sift0_any {w : World} {blk cap : Nat} {d : Array Nat} (h : SR blk cap d w) (n c hi first : Nat) (hn : d.size = n) (hhi : first + hi ≤ n) (hsz : n < 2305843009213693952) :
    Calls Try.prog 54 #[.slice (some ⟨blk, 0, none⟩) n c, .int .i64 0, .int .i64 hi, .int .i64 first] w fun e w' => e = .returned (.tuple #[]) ∧ SR blk cap (siftDown ltN hi first 0 d) w' ∧ Upd (fun x => x = blk) w w' :=
  sift_any h n c 0 hi first hn (Nat.zero_le _) hhi hsz
set_option maxRecDepth 20000 in
set_option maxHeartbeats 8000000 in
theorem heap_any {w : World} {blk cap : Nat} {d : Array Nat} (h : SR blk cap d w) (n c a b : Nat) (hn : d.size = n) (hab : a < b) (hb : b ≤ n) (hsz : n < 2305843009213693952) :
    Calls Try.prog 44 #[.slice (some ⟨blk, 0, none⟩) n c, .int .i64 a, .int .i64 b] w fun e w' => e = .returned (.tuple #[]) ∧ SR blk cap (heapSort ltN d a b) w' ∧ Upd (fun x => x = blk) w w' := by
  have H0 := Bx.mk h
  have HS := Bx.mk hn
  obtain ⟨RES, hres⟩ : ∃ RES, heapSort ltN d a b = RES := ⟨_, rfl⟩
  rw [hres]
  obtain ⟨hi, hhi⟩ : ∃ hi, b - a = hi := ⟨_, rfl⟩
  obtain ⟨MID, hmid⟩ : ∃ M, heapBuild ltN hi a ((hi - 1) / 2 + 1) d = M := ⟨_, rfl⟩
  have HM := Bx.mk hmid
  have HP := Bx.mk (show heapPop ltN a hi MID = RES by rw [← hmid, ← hres, heapSort, hhi])
  have SZ := Bx.mk (fun (hi first r : Nat) (d : Array Nat) => size_sift hi first hi r d (by omega))
  obtain ⟨i0, hi0⟩ : ∃ i, (hi - 1) / 2 = i := ⟨_, rfl⟩
  rw [hi0] at HM
  have w1' : IntKind.i64.wrap ((b : Int) - (a : Int)) = (hi : Int) := by rw [IntKind.wrap_i64]; omega
  have w2' : IntKind.i64.wrap ((hi : Int) - 1) = ((hi - 1 : Nat) : Int) := by rw [IntKind.wrap_i64]; omega
  obtain ⟨h1, hh1⟩ : ∃ h1, hi - 1 = h1 := ⟨_, rfl⟩
  rw [hh1] at w2'
  clear h hn hres hmid
  go_enter Try.func44, Try.ntmps44
  repeat' (first | fail | go_values | go_skip | go_guarded | go_step | go_upon | go_back)
  go_loopw [9] (fun iv wr => ∃ (I : Int) (k : Nat) (d' : Array Nat), iv = .int .i64 I ∧ I + 1 = k ∧ k ≤ n ∧ d'.size = n ∧ Bx (heapBuild ltN hi a k d' = MID) ∧ Bx (SR blk cap d' wr) ∧ Upd (fun x => x = blk) w wr) (fun iv _ => (intOf iv + 1).toNat)
  case atStart => exact ⟨i0, i0 + 1, d, congrArg (Value.int .i64) (by omega), by omega, by omega, HS.out, HM, H0, Upd.refl _ _⟩
  case round =>
    obtain ⟨I, k, d1, rfl, hIk, hk, hd1, HQ, HR, hU⟩ := hrel
    by_cases hlt : 0 ≤ I
    · obtain ⟨i, rfl⟩ := Int.eq_ofNat_of_zero_le hlt
      obtain rfl : k = i + 1 := by omega
      have HQ1 := Bx.mk ((show heapBuild ltN hi a (i + 1) d1 = heapBuild ltN hi a i (siftDown ltN hi a i d1) from rfl).symm.trans HQ.out)
      have CS := Bx.mk (sift_any HR.out n c i hi a hd1 (by omega) (by omega) hsz)
      have w4' : IntKind.i64.wrap ((i : Int) - 1) = (i : Int) - 1 := by rw [IntKind.wrap_i64]; omega
      have hd2 := SZ.out hi a i d1
      generalize siftDown ltN hi a i d1 = d2 at *
      repeat' (first | (go_at_call 54; (with_reducible refine (CS.out).mono ?_); rintro e w2 ⟨rfl, HR2, hU2⟩; dsimp only) | go_values | go_skip | go_guarded | go_step | go_upon | go_back)
      go_roundw
      case rel => exact ⟨_, i, d2, rfl, by omega, by omega, by omega, HQ1, ⟨HR2⟩, hU.trans hU2⟩
      case measure => first | (simp [intOf]; done) | (simp [intOf]; omega)
    · obtain rfl : k = 0 := by omega
      have HQ1 := Bx.mk ((show d1 = heapBuild ltN hi a 0 d1 from rfl).trans HQ.out)
      obtain rfl := HQ1.out
      clear HQ HQ1
      repeat' (first | fail | go_values | go_skip | go_guarded | go_step | go_upon | go_back)
      go_loopw [10] (fun iv wr => ∃ (I : Int) (k : Nat) (d' : Array Nat), iv = .int .i64 I ∧ I + 1 = k ∧ k ≤ hi ∧ d'.size = n ∧ Bx (heapPop ltN a k d' = RES) ∧ Bx (SR blk cap d' wr) ∧ Upd (fun x => x = blk) w wr) (fun iv _ => (intOf iv + 1).toNat)
      case atStart => exact ⟨h1, hi, d1, rfl, by omega, Nat.le_refl _, hd1, HP, HR, hU⟩
      case round =>
        clear hU HR HP
        obtain ⟨J, k, d3, rfl, hIk, hk, hd3, HQ, HR, hU⟩ := hrel
        by_cases hlt2 : 0 ≤ J
        · obtain ⟨i, rfl⟩ := Int.eq_ofNat_of_zero_le hlt2
          obtain rfl : k = i + 1 := by omega
          have HQ1 := Bx.mk ((show heapPop ltN a (i + 1) d3 = heapPop ltN a i (siftDown ltN i a 0 (swp d3 a (a + i))) from rfl).symm.trans HQ.out)
          obtain ⟨p, hp⟩ : ∃ p, a + i = p := ⟨_, rfl⟩
          rw [hp] at HQ1
          have w4' : IntKind.i64.wrap ((i : Int) - 1) = (i : Int) - 1 := by rw [IntKind.wrap_i64]; omega
          have w5' : IntKind.i64.wrap ((a : Int) + (i : Int)) = (p : Int) := by rw [IntKind.wrap_i64]; omega
          have hpn : (p : Int) < (n : Int) := by omega
          have han : (a : Int) < (n : Int) := by omega
          have CS := Bx.mk (fun {w5 : World} (HR5 : SR blk cap (swp d3 a p) w5) => sift0_any HR5 n c i a (by rw [size_swp']; exact hd3) (by omega) hsz)
          have hd4 := SZ.out i a 0 (swp d3 a p)
          rw [size_swp'] at hd4
          clear hlt hlt2
          repeat' (first | fail | go_values | go_skip | go_guarded | go_step | go_upon | go_back)
          (obtain ⟨x_w5, hx_w5⟩ : ∃ x, d3[a]! = x := ⟨_, rfl⟩); (obtain ⟨y_w5, hy_w5⟩ : ∃ y, d3[p]! = y := ⟨_, rfl⟩); have c1_w5 : wr.cell? ⟨blk, a, none⟩ = some (.int .u32 (x_w5 : Nat)) := (by rw [← hx_w5]; exact HR.out.cell a (by omega)); have c2_w5 : wr.cell? ⟨blk, p, none⟩ = some (.int .u32 (y_w5 : Nat)) := (by rw [← hy_w5]; exact HR.out.cell p (by omega)); have f1_w5 := HR.out.frz a; have f2_w5 := HR.out.frz p; have HR5 := Bx.mk (HR.out.swap a p x_w5 y_w5 (by omega) (by omega) hx_w5 hy_w5).drew; have HU5 := Bx.mk ((hU.setCell (p := ⟨blk, a, none⟩) (.inl rfl) (.int .u32 (y_w5 : Nat))).setCell (p := ⟨blk, p, none⟩) (.inl rfl) (.int .u32 (x_w5 : Nat))).drew; have c3_w5 := HR.out.c3 a p y_w5 (by omega) (by omega) hy_w5; have f3_w5 : ∀ o, (wr.setCell ⟨blk, a, none⟩ (.int .u32 (y_w5 : Nat))).frozen? ⟨blk, o, none⟩ = false := (HR.out.set a y_w5 (by omega)).frz; clear hx_w5 hy_w5; go_big_region; clear c1_w5 c2_w5 f1_w5 f2_w5 c3_w5 f3_w5; generalize ((wr.setCell ⟨blk, a, none⟩ (.int .u32 (y_w5 : Nat))).setCell ⟨blk, p, none⟩ (.int .u32 (x_w5 : Nat))).drew = w5 at *
          generalize swp d3 a p = d5 at *
          generalize siftDown ltN i a 0 d5 = d4 at *
          repeat' (first | (go_at_call 54; (with_reducible refine (CS.out HR5.out).mono ?_); rintro e w6 ⟨rfl, HR6, hU6⟩; dsimp only) | go_values | go_skip | go_guarded | go_step | go_upon | go_back)
          go_roundw
          case rel => exact ⟨_, i, d4, rfl, by omega, by omega, by omega, HQ1, ⟨HR6⟩, HU5.out.trans hU6⟩
          case measure => first | (simp [intOf]; done) | (simp [intOf]; omega)
        · obtain rfl : k = 0 := by omega
          repeat' (first | fail | go_values | go_skip | go_guarded | go_step | go_upon | go_back)
          go_returns
          exact ⟨rfl, by rw [← HQ.out]; exact HR.out, hU⟩
end Go.Proofs.Ytohflgpkimnodaa
