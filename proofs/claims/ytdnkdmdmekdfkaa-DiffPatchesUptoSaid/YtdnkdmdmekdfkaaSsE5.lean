/- symMergeCmpFunc walked: one element is put in from the right (printed by ssp.py). -/
import Derived.Test.YtdnkdmdmekdfkaaSsE4
namespace Go.Proofs.Ytdnkdmdmekdfkaa
open Go.RowKit Go.Sort
set_option maxRecDepth 100000 in
set_option maxHeartbeats 16000000 in
theorem symRE_any {w : World} {blk S : Nat} {d : Array (Nat × Option Addr × Nat × Nat)} (h : SRE blk S d w) (n c a m : Nat) (hn : d.size = n) (h1 : a + 1 < m) (h2 : m + 1 ≤ n) (hsz : n < 1000000) (hs : SortedIn ltE a m d) :
    Calls Try.prog 71 #[.slice (some ⟨blk, 0, none⟩) n c, .int .i64 a, .int .i64 m, .int .i64 (m + 1 : Nat), .func (.func 30) #[] #[]] w fun e w' => e = .returned (.tuple #[]) ∧ ∃ d', SRE blk S d' w' ∧ Upd (fun x => x = blk) w w' ∧ PermIn a (m + 1) d d' ∧ SortedIn ltE a (m + 1) d' := by
  have HL := Bx.mk (fun (x y : (Nat × Option Addr × Nat × Nat)) w => cmpE_any x y w)
  have H0 := Bx.mk h
  have HN := Bx.mk hn
  have HSS := Bx.mk hs
  have HF := h.fit
  rw [hn] at HF
  obtain ⟨b, hb⟩ : ∃ b, m + 1 = b := ⟨_, rfl⟩
  have HM := Bx.mk hb
  obtain ⟨ma, hma⟩ : ∃ x, m - a = x := ⟨_, rfl⟩
  have wma : IntKind.i64.wrap ((m : Int) - (a : Int)) = (ma : Int) := by rw [IntKind.wrap_i64]; omega
  have hma1 : ¬ (ma : Int) = 1 := by omega
  have hma2 : ((ma : Int) == 1) = false := by simpa using hma1
  have wbm : IntKind.i64.wrap ((b : Int) - (m : Int)) = 1 := by rw [IntKind.wrap_i64]; omega
  rw [hb]
  clear h hn hs
  go_enter Try.func71, Try.ntmps71
  repeat' (first | fail | go_values | go_skip | go_guarded | go_step | go_upon | go_back)
  go_loopw [14, 15] (fun iv jv wr => ∃ (i j : Nat), iv = .int .i64 i ∧ jv = .int .i64 j ∧ a ≤ i ∧ i ≤ j ∧ j ≤ m ∧ Bx (i = a ∨ ltE d[m]! d[i - 1]! = false) ∧ Bx (j = m ∨ ltE d[m]! d[j]! = true) ∧ Bx (New w wr)) (fun iv jv _ => (intOf jv).toNat - (intOf iv).toNat)
  case atStart => exact ⟨a, m, rfl, rfl, Nat.le_refl _, by omega, Nat.le_refl _, ⟨.inl rfl⟩, ⟨.inl rfl⟩, ⟨Upd.refl _ _⟩⟩
  case round =>
    obtain ⟨i, j, rfl, rfl, hi, hij, hj, HI, HJ, HU⟩ := hrel
    clear wma hma hma1 hma2 wbm
    by_cases hlt : i < j
    · have hltI : (i : Int) < (j : Int) := by omega
      obtain ⟨hh, hhh⟩ : ∃ x, (i + j) / 2 = x := ⟨_, rfl⟩
      have wij : IntKind.i64.wrap ((i : Int) + (j : Int)) = ((i + j : Nat) : Int) := by rw [IntKind.wrap_i64]; omega
      have hh2 : i ≤ hh ∧ hh < j := by omega
      have wh1 : IntKind.i64.wrap ((hh : Int) + 1) = ((hh + 1 : Nat) : Int) := by rw [IntKind.wrap_i64]; omega
      have hhn : (hh : Int) < (n : Int) := by omega
      have han : (m : Int) < (n : Int) := by omega
      obtain ⟨x, hx⟩ : ∃ x, d[m]! = x := ⟨_, rfl⟩
      obtain ⟨y, hy⟩ : ∃ y, d[hh]! = y := ⟨_, rfl⟩
      have hz := HN.out
      have gx : ∀ (z : After wr) c v, (encE x)[c]? = some v → z.to.cell? ⟨blk, m * 2 + c, none⟩ = some v := fun z => ((H0.out.blk HU.out (fun q => q)).blk z.h (fun q => q)).get m x (by omega) hx
      have gy : ∀ (z : After wr) c v, (encE y)[c]? = some v → z.to.cell? ⟨blk, hh * 2 + c, none⟩ = some v := fun z => ((H0.out.blk HU.out (fun q => q)).blk z.h (fun q => q)).get hh y (by omega) hy
      have ca0 : ∀ z : After wr, z.to.cell? ⟨blk, m * 2, none⟩ = some (.int .u32 x.1) := fun z => gx z 0 _ rfl
      have ca1 : ∀ z : After wr, z.to.cell? ⟨blk, m * 2 + 1, none⟩ = some (.slice x.2.1 x.2.2.1 x.2.2.2) := fun z => gx z 1 _ rfl
      have cb0 : ∀ z : After wr, z.to.cell? ⟨blk, hh * 2, none⟩ = some (.int .u32 y.1) := fun z => gy z 0 _ rfl
      have cb1 : ∀ z : After wr, z.to.cell? ⟨blk, hh * 2 + 1, none⟩ = some (.slice y.2.1 y.2.2.1 y.2.2.2) := fun z => gy z 1 _ rfl
      have hC := Bx.mk (HL.out x y)
      have hlt2 := cmpN_lt x.1 y.1
      have hltx : decide (x.1 < y.1) = ltE x y := rfl
      rw [hltx] at hlt2
      obtain ⟨cc, hcc⟩ : ∃ cc, cmpN x.1 y.1 = cc := ⟨_, rfl⟩
      rw [hcc] at hC hlt2
      clear gx gy hcc hltx hz
      cases hl : ltE x y with
      | true =>
        rw [hl] at hlt2
        have hcn : cc < 0 := of_decide_eq_true hlt2
        have HJ2 := Bx.mk (show hh = m ∨ ltE d[m]! d[hh]! = true from .inr (by rw [hx, hy]; exact hl))
        clear hx hy hl hlt2
        repeat' (first | fail | go_values | go_skip | go_guarded | go_step | go_upon | go_back)
        rw [show ((i : Int) + (j : Int)) / 2 = (hh : Int) from by omega]
        (refine wp_region_calm (by kernel_rfl) (by kernel_rfl) ?_; (repeat (go_big_quiet_step ((go_at_call 30; refine Calls.calm (hC.out _))))); refine wpQuiet_nil ?_; intro wq hq)
        clear ca0 ca1
        clear cb0 cb1
        have U3 := Bx.mk (HU.out.trans hq)
        clear hq
        repeat' (first | fail | go_values | go_skip | go_guarded | go_step | go_upon | go_back)
        go_roundw
        case rel => exact ⟨i, hh, rfl, rfl, hi, by omega, by omega, HI, HJ2, U3⟩
        case measure => simp [intOf]; omega
      | false =>
        rw [hl] at hlt2
        have hcn : ¬ cc < 0 := of_decide_eq_false hlt2
        have HI2 := Bx.mk (show hh + 1 = a ∨ ltE d[m]! d[hh + 1 - 1]! = false from .inr (by rw [Nat.add_sub_cancel, hx, hy]; exact hl))
        clear hx hy hl hlt2
        repeat' (first | fail | go_values | go_skip | go_guarded | go_step | go_upon | go_back)
        rw [show ((i : Int) + (j : Int)) / 2 = (hh : Int) from by omega]
        (refine wp_region_calm (by kernel_rfl) (by kernel_rfl) ?_; (repeat (go_big_quiet_step ((go_at_call 30; refine Calls.calm (hC.out _))))); refine wpQuiet_nil ?_; intro wq hq)
        clear ca0 ca1
        clear cb0 cb1
        have U3 := Bx.mk (HU.out.trans hq)
        clear hq
        repeat' (first | fail | go_values | go_skip | go_guarded | go_step | go_upon | go_back)
        go_roundw
        case rel => exact ⟨hh + 1, j, by go_num, rfl, by omega, by omega, hj, HI2, HJ, U3⟩
        case measure => simp [intOf]; omega
    · have hltI : ¬ (i : Int) < (j : Int) := by omega
      obtain rfl : i = j := by omega
      rename World => wm
      have R0 := Bx.mk (H0.out.blk HU.out (fun q => q))
      have U0 := Bx.mk (show Upd (fun x => x = blk) w wm from New.upd HU.out)
      clear H0 HU
      repeat' (first | fail | go_values | go_skip | go_guarded | go_step | go_upon | go_back)
      go_loopw [17] (fun kv wr => ∃ (k : Nat) (d1 : Array (Nat × Option Addr × Nat × Nat)), kv = .int .i64 k ∧ i ≤ k ∧ k ≤ m ∧ d1.size = n ∧ Bx (Ss.Idx (Ss.rotI k m (m + 1)) d d1) ∧ Bx (PermIn a b d d1) ∧ Bx (SRE blk S d1 wr) ∧ Bx (Upd (fun x => x = blk) w wr)) (fun kv _ => (intOf kv).toNat)
      case atStart => exact ⟨m, d, rfl, by omega, Nat.le_refl _, HN.out, ⟨fun t => by rw [Ss.rot_none1]⟩, ⟨permIn_refl _ _ _⟩, R0, U0⟩
      case round =>
        obtain ⟨k, d1, rfl, hk1, hk2, hd1, HX, HP, HR, HU⟩ := hrel
        by_cases hki : i < k
        · have hkiI : (i : Int) < (k : Int) := by omega
          obtain ⟨q, hqe⟩ : ∃ q, q + 1 = k := ⟨k - 1, by omega⟩
          have wQ : IntKind.i64.wrap ((k : Int) - 1) = (q : Int) := by rw [IntKind.wrap_i64]; omega
          have hkn : (k : Int) < (n : Int) := by omega
          have hQn : (q : Int) < (n : Int) := by omega
          have hkm : k < n := by omega
          have hQm : q < n := by omega
          have HX2 := Bx.mk (show Ss.Idx (Ss.rotI q m (m + 1)) d (swp d1 k q) by
            have := Ss.rot_down d d1 m q (by omega) (by rw [HN.out]; omega) (by rw [HN.out]; exact hd1) (by rw [hqe]; exact HX.out)
            rwa [hqe] at this)
          have HP2 := Bx.mk (permIn_trans _ _ _ _ _ HP.out (swp_permIn d1 a b k q (by omega) (by omega) (by omega) (by omega) (by omega)))
          obtain ⟨x, hx⟩ : ∃ x, d1[k]! = x := ⟨_, rfl⟩
          obtain ⟨y, hy⟩ : ∃ y, d1[q]! = y := ⟨_, rfl⟩
          have gx := HR.out.get k x (by omega) hx
          have gy := HR.out.get q y (by omega) hy
          have ca0 : wr.cell? ⟨blk, k * 2, none⟩ = some (.int .u32 x.1) := gx 0 _ rfl
          have ca1 : wr.cell? ⟨blk, k * 2 + 1, none⟩ = some (.slice x.2.1 x.2.2.1 x.2.2.2) := gx 1 _ rfl
          have cb0 : wr.cell? ⟨blk, q * 2, none⟩ = some (.int .u32 y.1) := gy 0 _ rfl
          have cb1 : wr.cell? ⟨blk, q * 2 + 1, none⟩ = some (.slice y.2.1 y.2.2.1 y.2.2.2) := gy 1 _ rfl
          have f0 := HR.out.own.frz
          have og1 := Own1.set HR.out.own (k * 2) (.int .u32 y.1)
          obtain ⟨xg1, cg1⟩ := og1.cell (k * 2 + 1) (by omega)
          have fg1 := og1.frz
          have og2 := Own1.set og1 (k * 2 + 1) (.slice y.2.1 y.2.2.1 y.2.2.2)
          obtain ⟨xg2, cg2⟩ := og2.cell (q * 2) (by omega)
          have fg2 := og2.frz
          have og3 := Own1.set og2 (q * 2) (.int .u32 x.1)
          obtain ⟨xg3, cg3⟩ := og3.cell (q * 2 + 1) (by omega)
          have fg3 := og3.frz
          clear og3 og2 og1
          have HR4 := Bx.mk (HR.out.swap k q x y (by omega) (by omega) hx hy).drew
          have U4 := Bx.mk ((((HU.out.setCell (p := ⟨blk, k * 2, none⟩) (.inl rfl) (.int .u32 y.1)).setCell (p := ⟨blk, k * 2 + 1, none⟩) (.inl rfl) (.slice y.2.1 y.2.2.1 y.2.2.2)).setCell (p := ⟨blk, q * 2, none⟩) (.inl rfl) (.int .u32 x.1)).setCell (p := ⟨blk, q * 2 + 1, none⟩) (.inl rfl) (.slice x.2.1 x.2.2.1 x.2.2.2)).drew
          clear hx hy gx gy HR HU
          repeat' (first | fail | go_values | go_skip | go_guarded | go_step | go_upon | go_back)
          go_big_region
          clear ca0 ca1
          clear cb0 cb1
          clear cg1 fg1 cg2 fg2 cg3 fg3
          generalize ((((wr.setCell ⟨blk, k * 2, none⟩ (.int .u32 y.1)).setCell ⟨blk, k * 2 + 1, none⟩ (.slice y.2.1 y.2.2.1 y.2.2.2)).setCell ⟨blk, q * 2, none⟩ (.int .u32 x.1)).setCell ⟨blk, q * 2 + 1, none⟩ (.slice x.2.1 x.2.2.1 x.2.2.2)).drew = w5 at *
          repeat' (first | fail | go_values | go_skip | go_guarded | go_step | go_upon | go_back)
          go_roundw
          case rel => exact ⟨q, swp d1 k q, rfl, by omega, by omega, by rw [swp_size]; exact hd1, HX2, HP2, HR4, U4⟩
          case measure => simp [intOf]; omega
        · have hkiI : ¬ (i : Int) < (k : Int) := by omega
          obtain rfl : k = i := by omega
          have HFI := Bx.mk (show SortedIn ltE a b d1 by
            have := Ss.ins_right swoE d d1 a m k (by omega) (by omega) HSS.out HI.out HJ.out HX.out
            rwa [HM.out] at this)
          repeat' (first | fail | go_values | go_skip | go_guarded | go_step | go_upon | go_back)
          go_returns
          exact ⟨rfl, d1, HR.out, HU.out, HP.out, HFI.out⟩
end Go.Proofs.Ytdnkdmdmekdfkaa
