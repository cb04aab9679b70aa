/- symMergeCmpFunc walked: one element is put in from the left (printed by ssp.py). -/
import Derived.Test.YtdnkdmdmekdfkaaSsC3
import Derived.Deep.DeepCutAuto
import Derived.Deep.CutBlock
namespace Go.Proofs.Ytdnkdmdmekdfkaa
open Go.RowKit Go.Sort
set_option maxRecDepth 100000 in
set_option maxHeartbeats 16000000 in
theorem symLC_any {w : World} {blk S : Nat} {d : Array C4} (h : SRC blk S d w) (n c a b : Nat) (hn : d.size = n) (h1 : a + 1 < b) (h2 : b ≤ n) (hsz : n < 1000000) (hs : SortedIn ltC (a + 1) b d) :
    Calls Try.prog 79 #[.slice (some ⟨blk, 0, none⟩) n c, .int .i64 a, .int .i64 (a + 1 : Nat), .int .i64 b, .func (.func 51) #[] #[]] w fun e w' => e = .returned (.tuple #[]) ∧ ∃ d', SRC blk S d' w' ∧ Upd (fun x => x = blk) w w' ∧ PermIn a b d d' ∧ SortedIn ltC a b d' := by
  have HL := Bx.mk (fun (x y : C4) w => cmpC_any x y w)
  have H0 := Bx.mk h
  have HN := Bx.mk hn
  have HSS := Bx.mk hs
  have HF := h.fit
  rw [hn] at HF
  obtain ⟨m, hm⟩ : ∃ m, a + 1 = m := ⟨_, rfl⟩
  have HM := Bx.mk hm
  have wma : IntKind.i64.wrap ((m : Int) - (a : Int)) = 1 := by rw [IntKind.wrap_i64]; omega
  rw [hm]
  clear h hn hs
  go_enter Try.func79, Try.ntmps79
  repeat' (first | fail | go_values | go_skip | go_guarded | go_step | go_upon | go_back)
  go_loopw [10, 11] (fun iv jv wr => ∃ (i j : Nat), iv = .int .i64 i ∧ jv = .int .i64 j ∧ m ≤ i ∧ i ≤ j ∧ j ≤ b ∧ Bx (i = m ∨ ltC d[i - 1]! d[a]! = true) ∧ Bx (j = b ∨ ltC d[j]! d[a]! = false) ∧ Bx (New w wr)) (fun iv jv _ => (intOf jv).toNat - (intOf iv).toNat)
  case atStart => exact ⟨m, b, rfl, rfl, Nat.le_refl _, by omega, Nat.le_refl _, ⟨.inl rfl⟩, ⟨.inl rfl⟩, ⟨Upd.refl _ _⟩⟩
  case round =>
    obtain ⟨i, j, rfl, rfl, hi, hij, hj, HI, HJ, HU⟩ := hrel
    clear wma
    by_cases hlt : i < j
    · have hltI : (i : Int) < (j : Int) := by omega
      obtain ⟨hh, hhh⟩ : ∃ x, (i + j) / 2 = x := ⟨_, rfl⟩
      have wij : IntKind.i64.wrap ((i : Int) + (j : Int)) = ((i + j : Nat) : Int) := by rw [IntKind.wrap_i64]; omega
      have hh2 : i ≤ hh ∧ hh < j := by omega
      have wh1 : IntKind.i64.wrap ((hh : Int) + 1) = ((hh + 1 : Nat) : Int) := by rw [IntKind.wrap_i64]; omega
      have hhn : (hh : Int) < (n : Int) := by omega
      have han : (a : Int) < (n : Int) := by omega
      obtain ⟨x, hx⟩ : ∃ x, d[hh]! = x := ⟨_, rfl⟩
      obtain ⟨y, hy⟩ : ∃ y, d[a]! = y := ⟨_, rfl⟩
      have hz := HN.out
      have gx : ∀ (z : After wr) c v, (encC x)[c]? = some v → z.to.cell? ⟨blk, hh * 4 + c, none⟩ = some v := fun z => ((H0.out.blk HU.out (fun q => q)).blk z.h (fun q => q)).get hh x (by omega) hx
      have gy : ∀ (z : After wr) c v, (encC y)[c]? = some v → z.to.cell? ⟨blk, a * 4 + c, none⟩ = some v := fun z => ((H0.out.blk HU.out (fun q => q)).blk z.h (fun q => q)).get a y (by omega) hy
      have ca0 : ∀ z : After wr, z.to.cell? ⟨blk, hh * 4, none⟩ = some (.int .u8 x.k) := fun z => gx z 0 _ rfl
      have ca1 : ∀ z : After wr, z.to.cell? ⟨blk, hh * 4 + 1, none⟩ = some (.int .i32 x.a) := fun z => gx z 1 _ rfl
      have ca2 : ∀ z : After wr, z.to.cell? ⟨blk, hh * 4 + 2, none⟩ = some (.int .i32 x.b) := fun z => gx z 2 _ rfl
      have ca3 : ∀ z : After wr, z.to.cell? ⟨blk, hh * 4 + 3, none⟩ = some (.int .i32 x.c) := fun z => gx z 3 _ rfl
      have cb0 : ∀ z : After wr, z.to.cell? ⟨blk, a * 4, none⟩ = some (.int .u8 y.k) := fun z => gy z 0 _ rfl
      have cb1 : ∀ z : After wr, z.to.cell? ⟨blk, a * 4 + 1, none⟩ = some (.int .i32 y.a) := fun z => gy z 1 _ rfl
      have cb2 : ∀ z : After wr, z.to.cell? ⟨blk, a * 4 + 2, none⟩ = some (.int .i32 y.b) := fun z => gy z 2 _ rfl
      have cb3 : ∀ z : After wr, z.to.cell? ⟨blk, a * 4 + 3, none⟩ = some (.int .i32 y.c) := fun z => gy z 3 _ rfl
      have hC := Bx.mk (HL.out x y)
      have hlt2 := cmpN_lt x.k y.k
      have hltx : decide (x.k < y.k) = ltC x y := rfl
      rw [hltx] at hlt2
      obtain ⟨cc, hcc⟩ : ∃ cc, cmpN x.k y.k = cc := ⟨_, rfl⟩
      rw [hcc] at hC hlt2
      clear gx gy hcc hltx hz
      cases hl : ltC x y with
      | true =>
        rw [hl] at hlt2
        have hcn : cc < 0 := of_decide_eq_true hlt2
        have HI2 := Bx.mk (show hh + 1 = m ∨ ltC d[hh + 1 - 1]! d[a]! = true from .inr (by rw [Nat.add_sub_cancel, hx, hy]; exact hl))
        clear hx hy hl hlt2
        repeat' (first | fail | go_values | go_skip | go_guarded | go_step | go_upon | go_back)
        rw [show ((i : Int) + (j : Int)) / 2 = (hh : Int) from by omega]
        (refine wp_region_calm (by kernel_rfl) (by kernel_rfl) ?_; (repeat (go_big_quiet_step ((go_at_call 51; refine Calls.calm (hC.out _))))); refine wpQuiet_nil ?_; intro wq hq)
        clear ca0 ca1 ca2 ca3
        clear cb0 cb1 cb2 cb3
        have U3 := Bx.mk (HU.out.trans hq)
        clear hq
        repeat' (first | fail | go_values | go_skip | go_guarded | go_step | go_upon | go_back)
        go_roundw
        case rel => exact ⟨hh + 1, j, by go_num, rfl, by omega, by omega, hj, HI2, HJ, U3⟩
        case measure => simp [intOf]; omega
      | false =>
        rw [hl] at hlt2
        have hcn : ¬ cc < 0 := of_decide_eq_false hlt2
        have HJ2 := Bx.mk (show hh = b ∨ ltC d[hh]! d[a]! = false from .inr (by rw [hx, hy]; exact hl))
        clear hx hy hl hlt2
        repeat' (first | fail | go_values | go_skip | go_guarded | go_step | go_upon | go_back)
        rw [show ((i : Int) + (j : Int)) / 2 = (hh : Int) from by omega]
        (refine wp_region_calm (by kernel_rfl) (by kernel_rfl) ?_; (repeat (go_big_quiet_step ((go_at_call 51; refine Calls.calm (hC.out _))))); refine wpQuiet_nil ?_; intro wq hq)
        clear ca0 ca1 ca2 ca3
        clear cb0 cb1 cb2 cb3
        have U3 := Bx.mk (HU.out.trans hq)
        clear hq
        repeat' (first | fail | go_values | go_skip | go_guarded | go_step | go_upon | go_back)
        go_roundw
        case rel => exact ⟨i, hh, rfl, rfl, hi, by omega, by omega, HI, HJ2, U3⟩
        case measure => simp [intOf]; omega
    · have hltI : ¬ (i : Int) < (j : Int) := by omega
      obtain rfl : i = j := by omega
      rename World => wm
      have R0 := Bx.mk (H0.out.blk HU.out (fun q => q))
      have U0 := Bx.mk (show Upd (fun x => x = blk) w wm from New.upd HU.out)
      obtain ⟨i1, hi1⟩ : ∃ x, i - 1 = x := ⟨_, rfl⟩
      have wi1 : IntKind.i64.wrap ((i : Int) - 1) = (i1 : Int) := by rw [IntKind.wrap_i64]; omega
      clear H0 HU
      repeat' (first | fail | go_values | go_skip | go_guarded | go_step | go_upon | go_back)
      go_loopw [13] (fun kv wr => ∃ (k : Nat) (d1 : Array C4), kv = .int .i64 k ∧ a ≤ k ∧ k ≤ i1 ∧ d1.size = n ∧ Bx (Ss.Idx (Ss.rotI a (a + 1) (k + 1)) d d1) ∧ Bx (PermIn a b d d1) ∧ Bx (SRC blk S d1 wr) ∧ Bx (Upd (fun x => x = blk) w wr)) (fun kv _ => i1 - (intOf kv).toNat)
      case atStart => exact ⟨a, d, rfl, Nat.le_refl _, by omega, HN.out, ⟨fun t => by rw [Ss.rot_none2 _ _ _ (by omega)]⟩, ⟨permIn_refl _ _ _⟩, R0, U0⟩
      case round =>
        obtain ⟨k, d1, rfl, hk1, hk2, hd1, HX, HP, HR, HU⟩ := hrel
        by_cases hki : k < i1
        · have hkiI : (k : Int) < (i1 : Int) := by omega
          obtain ⟨Q, hQ⟩ : ∃ x, k + 1 = x := ⟨_, rfl⟩
          have wQ : IntKind.i64.wrap ((k : Int) + 1) = (Q : Int) := by rw [IntKind.wrap_i64]; omega
          have hkn : (k : Int) < (n : Int) := by omega
          have hQn : (Q : Int) < (n : Int) := by omega
          have hkm : k < n := by omega
          have hQm : Q < n := by omega
          have HX2 := Bx.mk (Ss.rot_up d d1 a k hk1 (by rw [HN.out]; omega) (by rw [HN.out]; exact hd1) HX.out)
          have HP2 := Bx.mk (permIn_trans _ _ _ _ _ HP.out (swp_permIn d1 a b k Q (by omega) (by omega) (by omega) (by omega) (by omega)))
          rw [hQ] at HX2
          obtain ⟨x, hx⟩ : ∃ x, d1[k]! = x := ⟨_, rfl⟩
          obtain ⟨y, hy⟩ : ∃ y, d1[Q]! = y := ⟨_, rfl⟩
          have gx := HR.out.get k x (by omega) hx
          have gy := HR.out.get Q y (by omega) hy
          have ca0 : wr.cell? ⟨blk, k * 4, none⟩ = some (.int .u8 x.k) := gx 0 _ rfl
          have ca1 : wr.cell? ⟨blk, k * 4 + 1, none⟩ = some (.int .i32 x.a) := gx 1 _ rfl
          have ca2 : wr.cell? ⟨blk, k * 4 + 2, none⟩ = some (.int .i32 x.b) := gx 2 _ rfl
          have ca3 : wr.cell? ⟨blk, k * 4 + 3, none⟩ = some (.int .i32 x.c) := gx 3 _ rfl
          have cb0 : wr.cell? ⟨blk, Q * 4, none⟩ = some (.int .u8 y.k) := gy 0 _ rfl
          have cb1 : wr.cell? ⟨blk, Q * 4 + 1, none⟩ = some (.int .i32 y.a) := gy 1 _ rfl
          have cb2 : wr.cell? ⟨blk, Q * 4 + 2, none⟩ = some (.int .i32 y.b) := gy 2 _ rfl
          have cb3 : wr.cell? ⟨blk, Q * 4 + 3, none⟩ = some (.int .i32 y.c) := gy 3 _ rfl
          have f0 := HR.out.own.frz
          have og1 := Own1.set HR.out.own (k * 4) (.int .u8 y.k)
          obtain ⟨xg1, cg1⟩ := og1.cell (k * 4 + 1) (by omega)
          have fg1 := og1.frz
          have og2 := Own1.set og1 (k * 4 + 1) (.int .i32 y.a)
          obtain ⟨xg2, cg2⟩ := og2.cell (k * 4 + 2) (by omega)
          have fg2 := og2.frz
          have og3 := Own1.set og2 (k * 4 + 2) (.int .i32 y.b)
          obtain ⟨xg3, cg3⟩ := og3.cell (k * 4 + 3) (by omega)
          have fg3 := og3.frz
          have og4 := Own1.set og3 (k * 4 + 3) (.int .i32 y.c)
          obtain ⟨xg4, cg4⟩ := og4.cell (Q * 4) (by omega)
          have fg4 := og4.frz
          have og5 := Own1.set og4 (Q * 4) (.int .u8 x.k)
          obtain ⟨xg5, cg5⟩ := og5.cell (Q * 4 + 1) (by omega)
          have fg5 := og5.frz
          have og6 := Own1.set og5 (Q * 4 + 1) (.int .i32 x.a)
          obtain ⟨xg6, cg6⟩ := og6.cell (Q * 4 + 2) (by omega)
          have fg6 := og6.frz
          have og7 := Own1.set og6 (Q * 4 + 2) (.int .i32 x.b)
          obtain ⟨xg7, cg7⟩ := og7.cell (Q * 4 + 3) (by omega)
          have fg7 := og7.frz
          clear og7 og6 og5 og4 og3 og2 og1
          have HR4 := Bx.mk (HR.out.swap k Q x y (by omega) (by omega) hx hy).drew
          have U4 := Bx.mk ((((((((HU.out.setCell (p := ⟨blk, k * 4, none⟩) (.inl rfl) (.int .u8 y.k)).setCell (p := ⟨blk, k * 4 + 1, none⟩) (.inl rfl) (.int .i32 y.a)).setCell (p := ⟨blk, k * 4 + 2, none⟩) (.inl rfl) (.int .i32 y.b)).setCell (p := ⟨blk, k * 4 + 3, none⟩) (.inl rfl) (.int .i32 y.c)).setCell (p := ⟨blk, Q * 4, none⟩) (.inl rfl) (.int .u8 x.k)).setCell (p := ⟨blk, Q * 4 + 1, none⟩) (.inl rfl) (.int .i32 x.a)).setCell (p := ⟨blk, Q * 4 + 2, none⟩) (.inl rfl) (.int .i32 x.b)).setCell (p := ⟨blk, Q * 4 + 3, none⟩) (.inl rfl) (.int .i32 x.c)).drew
          clear hx hy gx gy HR HU
          repeat' (first | fail | go_values | go_skip | go_guarded | go_step | go_upon | go_back)
          go_big_region
          clear ca0 ca1 ca2 ca3
          clear cb0 cb1 cb2 cb3
          clear cg1 fg1 cg2 fg2 cg3 fg3 cg4 fg4 cg5 fg5 cg6 fg6 cg7 fg7
          generalize ((((((((wr.setCell ⟨blk, k * 4, none⟩ (.int .u8 y.k)).setCell ⟨blk, k * 4 + 1, none⟩ (.int .i32 y.a)).setCell ⟨blk, k * 4 + 2, none⟩ (.int .i32 y.b)).setCell ⟨blk, k * 4 + 3, none⟩ (.int .i32 y.c)).setCell ⟨blk, Q * 4, none⟩ (.int .u8 x.k)).setCell ⟨blk, Q * 4 + 1, none⟩ (.int .i32 x.a)).setCell ⟨blk, Q * 4 + 2, none⟩ (.int .i32 x.b)).setCell ⟨blk, Q * 4 + 3, none⟩ (.int .i32 x.c)).drew = w5 at *
          repeat' (first | fail | go_values | go_skip | go_guarded | go_step | go_upon | go_back)
          go_roundw
          case rel => exact ⟨Q, swp d1 k Q, rfl, by omega, by omega, by rw [swp_size]; exact hd1, ⟨by have := HX2.out; rwa [show k + 2 = Q + 1 by omega] at this⟩, HP2, HR4, U4⟩
          case measure => simp [intOf]; omega
        · have hkiI : ¬ (k : Int) < (i1 : Int) := by omega
          obtain rfl : k = i1 := by omega
          have hfin : SortedIn ltC a b d1 := Ss.ins_left swoC d d1 a b i (by omega) (by omega) HSS.out (by rw [HM.out]; exact HI.out) HJ.out (by have := HX.out; rwa [show k + 1 = i by omega] at this)
          have HFI := Bx.mk hfin
          clear hfin
          repeat' (first | fail | go_values | go_skip | go_guarded | go_step | go_upon | go_back)
          go_returns
          exact ⟨rfl, d1, HR.out, HU.out, HP.out, HFI.out⟩
end Go.Proofs.Ytdnkdmdmekdfkaa
