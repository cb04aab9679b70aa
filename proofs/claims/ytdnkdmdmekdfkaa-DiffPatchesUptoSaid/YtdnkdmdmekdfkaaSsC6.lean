/- symMergeCmpFunc walked (printed by ssp.py). -/
import Derived.Test.YtdnkdmdmekdfkaaSsC5
import Derived.Test.YtdnkdmdmekdfkaaBigM
namespace Go.Proofs.Ytdnkdmdmekdfkaa
open Go.RowKit Go.Sort
set_option maxRecDepth 100000 in
set_option maxHeartbeats 32000000 in
theorem symC_any : ∀ (N : Nat) {w : World} {blk S : Nat} {d : Array C4} (_ : SRC blk S d w) (n c a m b : Nat) (_ : b - a ≤ N) (_ : d.size = n) (_ : a < m) (_ : m < b) (_ : b ≤ n) (_ : n < 1000000) (_ : SortedIn ltC a m d) (_ : SortedIn ltC m b d),
    Calls Try.prog 79 #[.slice (some ⟨blk, 0, none⟩) n c, .int .i64 a, .int .i64 m, .int .i64 b, .func (.func 51) #[] #[]] w fun e w' => e = .returned (.tuple #[]) ∧ ∃ d', SRC blk S d' w' ∧ Upd (fun x => x = blk) w w' ∧ PermIn a b d d' ∧ SortedIn ltC a b d' := by
  intro N
  induction N with
  | zero => intro w blk S d _ n c a m b hN _ h1 h2; omega
  | succ N ih =>
  intro w blk S d h n c a m b hN hn h1 h2 h3 hsz hs1 hs2
  by_cases c1 : m = a + 1
  · subst c1
    exact symLC_any h n c a b hn (by omega) h3 hsz hs2
  by_cases c2 : b = m + 1
  · subst c2
    exact symRC_any h n c a m hn (by omega) h3 hsz hs1
  have IH := Bx.mk @ih
  have HL := Bx.mk (fun (x y : C4) w => cmpC_any x y w)
  have H0 := Bx.mk h
  have HNn := Bx.mk hn
  have HS1 := Bx.mk hs1
  have HS2 := Bx.mk hs2
  obtain ⟨ma, hma⟩ : ∃ x, m - a = x := ⟨_, rfl⟩
  have wma : IntKind.i64.wrap ((m : Int) - (a : Int)) = (ma : Int) := by rw [IntKind.wrap_i64]; omega
  have hma1 : ¬ (ma : Int) = 1 := by omega
  have hma2 : ((ma : Int) == 1) = false := by simpa using hma1
  obtain ⟨bm, hbm⟩ : ∃ x, b - m = x := ⟨_, rfl⟩
  have wbm : IntKind.i64.wrap ((b : Int) - (m : Int)) = (bm : Int) := by rw [IntKind.wrap_i64]; omega
  have hbm1 : ¬ (bm : Int) = 1 := by omega
  have hbm2 : ((bm : Int) == 1) = false := by simpa using hbm1
  obtain ⟨mid, hmid⟩ : ∃ x, (a + b) / 2 = x := ⟨_, rfl⟩
  have wab : IntKind.i64.wrap ((a : Int) + (b : Int)) = ((a + b : Nat) : Int) := by rw [IntKind.wrap_i64]; omega
  have hmidI : ((a : Int) + (b : Int)) / 2 = (mid : Int) := by omega
  obtain ⟨nn, hnn⟩ : ∃ x, mid + m = x := ⟨_, rfl⟩
  have wnn : IntKind.i64.wrap ((mid : Int) + (m : Int)) = (nn : Int) := by rw [IntKind.wrap_i64]; omega
  obtain ⟨p, hp⟩ : ∃ x, mid + m - 1 = x := ⟨_, rfl⟩
  have wp : IntKind.i64.wrap ((nn : Int) - 1) = (p : Int) := by rw [IntKind.wrap_i64]; omega
  obtain ⟨s0, r0, hcut0⟩ : ∃ s0 r0, Ss.Cut ltC d a m b mid s0 r0 := by
    by_cases q : mid < m
    · exact ⟨mid + m - b, mid, h1, h2, hmid.symm, .inl ⟨q, rfl, rfl⟩⟩
    · exact ⟨a, m, h1, h2, hmid.symm, .inr ⟨by omega, rfl, rfl⟩⟩
  have HCUT := Bx.mk hcut0
  have hsr : s0 ≤ r0 ∧ r0 ≤ m ∧ m ≤ p + 1 - r0 ∧ p - s0 < b := by obtain ⟨q1, q2, q3, q4⟩ := hcut0; omega
  have wst : (mid < m → IntKind.i64.wrap ((nn : Int) - (b : Int)) = (s0 : Int) ∧ r0 = mid) ∧ (m ≤ mid → s0 = a ∧ r0 = m) := by
    obtain ⟨q1, q2, q3, q4⟩ := hcut0
    refine ⟨fun q => ⟨by rw [IntKind.wrap_i64]; omega, by omega⟩, fun q => by omega⟩
  clear hcut0 h hn hs1 hs2 ih
  go_enter Try.func79, Try.ntmps79
  go_upto_if 140 with (fail)
  refine wp_cutM [none, none, none, none, none, some 5, some 6, some 7, some 8, some 9, some 10, some 11, some 12, some 13, some 14, some 15, some 16, some 17, none, none, some 20, some 21, some 22, some 23, some 24, some 25, some 26, some 27, some 28, some 29, some 30, some 31, some 32, some 33, some 34, some 35, some 36, some 37, some 38, some 39, some 40, some 41, some 42, some 43, some 44, some 45, some 46, some 47, some 48, some 49, some 50, some 51, some 52, some 53, some 54, some 55, some 56, some 57, some 58, some 59, some 60, some 61, some 62, some 63, some 64, some 65, some 66, some 67, some 68, some 69, some 70, some 71, some 72, some 73, some 74, some 75, some 76, some 77, some 78, some 79, some 80, some 81, some 82, some 83, some 84, some 85, some 86, some 87, some 88, some 89, some 90, some 91, some 92, some 93, some 94, some 95, some 96, some 97, some 98, some 99, some 100, some 101, some 102, some 103, some 104, some 105, some 106, some 107, some 108, some 109, some 110, some 111, some 112, some 113, some 114, some 115, some 116, some 117, some 118, some 119, some 120, some 121, some 122, some 123, some 124, some 125, some 126, some 127, some 128, some 129, some 130, some 131, some 132, some 133, some 134, some 135, some 136, some 137, some 138, some 139, some 140, some 141, some 142, some 143, some 144, some 145, some 146, some 147, some 148, some 149, some 150, some 151, some 152, some 153, some 154, some 155, some 156, some 157, some 158, some 159, some 160, some 161, some 162, some 163, some 164, some 165, some 166, some 167, some 168, some 169, some 170, some 171, some 172, some 173, some 174, some 175, some 176, some 177, some 178, some 179, some 180, some 181, some 182, some 183, some 184, some 185, some 186, some 187, some 188, some 189, some 190, some 191, some 192, some 193, some 194, some 195, some 196, some 197, some 198, some 199, some 200, some 201, some 202, some 203, some 204, some 205, some 206, some 207, some 208, some 209, some 210, some 211, some 212, some 213, some 214, some 215, some 216, some 217, some 218, some 219] (fun fs wx => (fun sv rv wx => sv = .int .i64 s0 ∧ rv = .int .i64 r0 ∧ wx = w) (fs 20) (fs 21) wx) ?first ?rest
  case' first => intro _ _ _ _
  case' rest => (intro fs wc hcut; simp only [Mix]; generalize fs 20 = u20 at hcut ⊢; generalize fs 21 = u21 at hcut ⊢; try dsimp only at hcut)
  case first =>
    by_cases q : mid < m
    · have qI : (mid : Int) < (m : Int) := by omega
      obtain ⟨w1, w2⟩ := wst.1 q
      subst w2
      clear wst
      repeat' (first | fail | go_values | go_skip | go_guarded | go_step | go_upon | go_back)
      refine met_cut (by assumption) (by kernel_rfl) (by kernel_rfl) ?rel
      case' rel => try dsimp only [slotsOf, List.getD_cons_succ, List.getD_cons_zero]
      case rel => exact ⟨rfl, rfl, rfl⟩
    · have qI : ¬ (mid : Int) < (m : Int) := by omega
      obtain ⟨w1, w2⟩ := wst.2 (by omega)
      subst w1; subst w2
      clear wst
      repeat' (first | fail | go_values | go_skip | go_guarded | go_step | go_upon | go_back)
      refine met_cut (by assumption) (by kernel_rfl) (by kernel_rfl) ?rel
      case' rel => try dsimp only [slotsOf, List.getD_cons_succ, List.getD_cons_zero]
      case rel => exact ⟨rfl, rfl, rfl⟩
  case rest =>
    obtain ⟨rfl, rfl, hw⟩ := hcut
    have hw' := hw.symm
    subst hw'
    clear hw
    clear wst
    repeat' (first | fail | go_values | go_skip | go_guarded | go_step | go_upon | go_back)
    refine wp_loopM [none, none, none, none, none, some 5, some 6, some 7, some 8, some 9, some 10, some 11, some 12, some 13, some 14, some 15, some 16, some 17, none, none, some 20, some 21, none, some 23, some 24, some 25, some 26, some 27, some 28, some 29, some 30, some 31, some 32, some 33, some 34, some 35, some 36, some 37, some 38, some 39, some 40, some 41, some 42, some 43, some 44, some 45, some 46, some 47, some 48, some 49, some 50, some 51, some 52, some 53, some 54, some 55, some 56, some 57, some 58, some 59, some 60, some 61, some 62, some 63, some 64, some 65, some 66, some 67, some 68, some 69, some 70, some 71, some 72, some 73, some 74, some 75, some 76, some 77, some 78, some 79, some 80, some 81, some 82, some 83, some 84, some 85, some 86, some 87, some 88, some 89, some 90, some 91, some 92, some 93, some 94, some 95, some 96, some 97, some 98, some 99, some 100, some 101, some 102, some 103, some 104, some 105, some 106, some 107, some 108, some 109, some 110, some 111, some 112, some 113, some 114, some 115, some 116, some 117, some 118, some 119, some 120, some 121, some 122, some 123, some 124, some 125, some 126, some 127, some 128, some 129, some 130, some 131, some 132, some 133, some 134, some 135, some 136, some 137, some 138, some 139, some 140, some 141, some 142, some 143, some 144, some 145, some 146, some 147, some 148, some 149, some 150, some 151, some 152, some 153, some 154, some 155, some 156, some 157, some 158, some 159, some 160, some 161, some 162, some 163, some 164, some 165, some 166, some 167, some 168, some 169, some 170, some 171, some 172, some 173, some 174, some 175, some 176, some 177, some 178, some 179, some 180, some 181, some 182, some 183, some 184, some 185, some 186, some 187, some 188, some 189, some 190, some 191, some 192, some 193, some 194, some 195, some 196, some 197, some 198, some 199, some 200, some 201, some 202, some 203, some 204, some 205, some 206, some 207, some 208, some 209, some 210, some 211, some 212, some 213, some 214, some 215, some 216, some 217, some 218, some 219] (fun fs wr dM => (fun sv rv wr dd => ∃ (s r : Nat), sv = .int .i64 s ∧ rv = .int .i64 r ∧ s0 ≤ s ∧ s ≤ r ∧ r ≤ r0 ∧ Bx (Ss.Fnd ltC d p s0 r0 s r) ∧ Bx (New w wr) ∧ dd = r - s) (fs 20) (fs 21) wr dM) (by kernel_rfl) ?atStart ?round
    case' atStart => dsimp only [slotsOf, List.getD_cons_succ, List.getD_cons_zero]
    case' round => (intro dM_ J_ K_ fs wr hrel hJ_ hK_; simp only [Mix]; generalize fs 20 = u20 at hrel ⊢; generalize fs 21 = u21 at hrel ⊢; try dsimp only at hrel)
    case atStart => exact ⟨_, s0, r0, rfl, rfl, Nat.le_refl _, hsr.1, Nat.le_refl _, ⟨⟨by omega, .inl rfl, .inl rfl⟩⟩, ⟨Upd.refl _ _⟩, rfl⟩
    case round =>
      obtain ⟨s, r, rfl, rfl, hs0, hsr2, hr0, HFD, HU, rfl⟩ := hrel
      by_cases hlt : s < r
      · have hltI : (s : Int) < (r : Int) := by omega
        obtain ⟨hh, hhh⟩ : ∃ x, (s + r) / 2 = x := ⟨_, rfl⟩
        have wij : IntKind.i64.wrap ((s : Int) + (r : Int)) = ((s + r : Nat) : Int) := by rw [IntKind.wrap_i64]; omega
        have hh2 : s ≤ hh ∧ hh < r := by omega
        have hhI : ((s : Int) + (r : Int)) / 2 = (hh : Int) := by omega
        have wh1 : IntKind.i64.wrap ((hh : Int) + 1) = ((hh + 1 : Nat) : Int) := by rw [IntKind.wrap_i64]; omega
        have hhn : (hh : Int) < (n : Int) := by omega
        obtain ⟨pc, hpc⟩ : ∃ x, p - hh = x := ⟨_, rfl⟩
        have wpc : IntKind.i64.wrap ((p : Int) - (hh : Int)) = (pc : Int) := by rw [IntKind.wrap_i64]; omega
        have hpn : (pc : Int) < (n : Int) := by omega
        obtain ⟨x, hx⟩ : ∃ x, d[pc]! = x := ⟨_, rfl⟩
        obtain ⟨y, hy⟩ : ∃ y, d[hh]! = y := ⟨_, rfl⟩
        have hz := HNn.out
        have gx : ∀ (z : After wr) c v, (encC x)[c]? = some v → z.to.cell? ⟨blk, pc * 4 + c, none⟩ = some v := fun z => ((H0.out.blk HU.out (fun q => q)).blk z.h (fun q => q)).get pc x (by omega) hx
        have gy : ∀ (z : After wr) c v, (encC y)[c]? = some v → z.to.cell? ⟨blk, hh * 4 + c, none⟩ = some v := fun z => ((H0.out.blk HU.out (fun q => q)).blk z.h (fun q => q)).get hh y (by omega) hy
        have ca0 : ∀ z : After wr, z.to.cell? ⟨blk, pc * 4, none⟩ = some (.int .u8 x.k) := fun z => gx z 0 _ rfl
        have ca1 : ∀ z : After wr, z.to.cell? ⟨blk, pc * 4 + 1, none⟩ = some (.int .i32 x.a) := fun z => gx z 1 _ rfl
        have ca2 : ∀ z : After wr, z.to.cell? ⟨blk, pc * 4 + 2, none⟩ = some (.int .i32 x.b) := fun z => gx z 2 _ rfl
        have ca3 : ∀ z : After wr, z.to.cell? ⟨blk, pc * 4 + 3, none⟩ = some (.int .i32 x.c) := fun z => gx z 3 _ rfl
        have cb0 : ∀ z : After wr, z.to.cell? ⟨blk, hh * 4, none⟩ = some (.int .u8 y.k) := fun z => gy z 0 _ rfl
        have cb1 : ∀ z : After wr, z.to.cell? ⟨blk, hh * 4 + 1, none⟩ = some (.int .i32 y.a) := fun z => gy z 1 _ rfl
        have cb2 : ∀ z : After wr, z.to.cell? ⟨blk, hh * 4 + 2, none⟩ = some (.int .i32 y.b) := fun z => gy z 2 _ rfl
        have cb3 : ∀ z : After wr, z.to.cell? ⟨blk, hh * 4 + 3, none⟩ = some (.int .i32 y.c) := fun z => gy z 3 _ rfl
        have hC := Bx.mk (HL.out x y)
        have hlt2 := cmpN_lt x.k y.k
        have hltx : decide (x.k < y.k) = ltC x y := rfl
        rw [hltx] at hlt2
        obtain ⟨cc, hcc⟩ : ∃ cc, cmpN x.k y.k = cc := ⟨_, rfl⟩
        rw [hcc] at hC hlt2
        clear gx gy hcc hltx hz
        cases hl : ltC x y with
        | true =>
          rw [hl] at hlt2
          have hcn : cc < 0 := of_decide_eq_true hlt2
          have HF2 := Bx.mk (show Ss.Fnd ltC d p s0 r0 s hh from ⟨by omega, HFD.out.lo, .inr (by rw [hpc, hx, hy]; exact hl)⟩)
          clear hx hy hl hlt2
          repeat' (first | fail | go_values | go_skip | go_guarded | go_step | go_upon | go_back)
          (refine wp_region_calm (by kernel_rfl) (by kernel_rfl) ?_; (repeat (go_big_quiet_step ((go_at_call 51; refine Calls.calm (hC.out _))))); refine wpQuiet_nil ?_; intro wq hq)
          clear ca0 ca1 ca2 ca3
          clear cb0 cb1 cb2 cb3
          have U3 := Bx.mk (HU.out.trans hq)
          clear hq
          repeat' (first | fail | go_values | go_skip | go_guarded | go_step | go_upon | go_back)
          refine met_loop (by assumption) (by kernel_rfl) (by kernel_rfl) ?rel
          case' rel => try dsimp only [slotsOf, List.getD_cons_succ, List.getD_cons_zero]
          case rel => exact ⟨_, ⟨s, hh, rfl, rfl, hs0, by omega, by omega, HF2, U3, rfl⟩, by omega⟩
        | false =>
          rw [hl] at hlt2
          have hcn : ¬ cc < 0 := of_decide_eq_false hlt2
          have HF2 := Bx.mk (show Ss.Fnd ltC d p s0 r0 (hh + 1) r from ⟨by omega, .inr (by rw [Nat.add_sub_cancel, hpc, hx, hy]; exact hl), HFD.out.hi⟩)
          clear hx hy hl hlt2
          repeat' (first | fail | go_values | go_skip | go_guarded | go_step | go_upon | go_back)
          (refine wp_region_calm (by kernel_rfl) (by kernel_rfl) ?_; (repeat (go_big_quiet_step ((go_at_call 51; refine Calls.calm (hC.out _))))); refine wpQuiet_nil ?_; intro wq hq)
          clear ca0 ca1 ca2 ca3
          clear cb0 cb1 cb2 cb3
          have U3 := Bx.mk (HU.out.trans hq)
          clear hq
          repeat' (first | fail | go_values | go_skip | go_guarded | go_step | go_upon | go_back)
          refine met_loop (by assumption) (by kernel_rfl) (by kernel_rfl) ?rel
          case' rel => try dsimp only [slotsOf, List.getD_cons_succ, List.getD_cons_zero]
          case rel => exact ⟨_, ⟨hh + 1, r, by go_num, rfl, by omega, by omega, hr0, HF2, U3, rfl⟩, by omega⟩
      · have hltI : ¬ (s : Int) < (r : Int) := by omega
        obtain rfl : s = r := by omega
        rename World => wl
        have R0 := Bx.mk (H0.out.blk HU.out (fun q => q))
        have U0 := Bx.mk (show Upd (fun x => x = blk) w wl from New.upd HU.out)
        obtain ⟨e, he⟩ : ∃ x, nn - s = x := ⟨_, rfl⟩
        have we : IntKind.i64.wrap ((nn : Int) - (s : Int)) = (e : Int) := by rw [IntKind.wrap_i64]; omega
        have hbd : a ≤ s ∧ s ≤ mid ∧ mid ≤ e ∧ e ≤ b ∧ s ≤ m ∧ m ≤ e := by obtain ⟨q1, q2, q3, q4⟩ := HCUT.out; omega
        clear H0 HU wma hma1 hma2 wbm hbm1 hbm2 wab hmidI wnn wp
        go_upto_region 39 with (fail)
        refine wp_cutM [none, none, none, none, none, some 5, some 6, some 7, some 8, some 9, some 10, some 11, some 12, some 13, some 14, some 15, some 16, some 17, none, some 19, none, some 21, some 22, some 23, none, some 25, some 26, some 27, some 28, some 29, some 30, some 31, some 32, some 33, some 34, some 35, some 36, some 37, some 38, some 39, some 40, some 41, some 42, some 43, some 44, some 45, some 46, some 47, some 48, some 49, some 50, some 51, some 52, some 53, some 54, some 55, some 56, some 57, some 58, some 59, some 60, some 61, some 62, some 63, some 64, some 65, some 66, some 67, some 68, some 69, some 70, some 71, some 72, some 73, some 74, some 75, some 76, some 77, some 78, some 79, some 80, some 81, some 82, some 83, some 84, some 85, some 86, some 87, some 88, some 89, some 90, some 91, some 92, some 93, some 94, some 95, some 96, some 97, some 98, some 99, some 100, some 101, some 102, some 103, some 104, some 105, some 106, some 107, some 108, some 109, some 110, some 111, some 112, some 113, some 114, some 115, some 116, some 117, some 118, some 119, some 120, some 121, some 122, some 123, some 124, some 125, some 126, some 127, some 128, some 129, some 130, some 131, some 132, some 133, some 134, some 135, some 136, some 137, some 138, some 139, some 140, some 141, some 142, some 143, some 144, some 145, some 146, some 147, some 148, some 149, some 150, some 151, some 152, some 153, some 154, some 155, some 156, some 157, some 158, some 159, some 160, some 161, some 162, some 163, some 164, some 165, some 166, some 167, some 168, some 169, some 170, some 171, some 172, some 173, some 174, some 175, some 176, some 177, some 178, some 179, some 180, some 181, some 182, some 183, some 184, some 185, some 186, some 187, some 188, some 189, some 190, some 191, some 192, some 193, some 194, some 195, some 196, some 197, some 198, some 199, some 200, some 201, some 202, some 203, some 204, some 205, some 206, some 207, some 208, some 209, some 210, some 211, some 212, some 213, some 214, some 215, some 216, some 217, some 218, some 219] (fun fs wx => (fun v wx => v = .bool (decide (s < m ∧ m < e)) ∧ wx = wl) (fs 185) wx) ?first ?rest
        case' first => intro _ _ _ _
        case' rest => (intro fs wc hcut; simp only [Mix]; generalize fs 185 = u185 at hcut ⊢; try dsimp only at hcut)
        case first =>
          by_cases q1 : s < m
          · have q1I : (s : Int) < (m : Int) := by omega
            by_cases q2 : m < e
            · have q2I : (m : Int) < (e : Int) := by omega
              repeat' (first | fail | go_values | go_skip | go_guarded | go_step | go_upon | go_back)
              refine met_cut (by assumption) (by kernel_rfl) (by kernel_rfl) ?rel
              case' rel => try dsimp only [slotsOf, List.getD_cons_succ, List.getD_cons_zero]
              case rel => exact ⟨vb_true ⟨q1, q2⟩ rfl, rfl⟩
            · have q2I : ¬ (m : Int) < (e : Int) := by omega
              repeat' (first | fail | go_values | go_skip | go_guarded | go_step | go_upon | go_back)
              refine met_cut (by assumption) (by kernel_rfl) (by kernel_rfl) ?rel
              case' rel => try dsimp only [slotsOf, List.getD_cons_succ, List.getD_cons_zero]
              case rel => exact ⟨vb_false (fun h => q2 h.2) rfl, rfl⟩
          · have q1I : ¬ (s : Int) < (m : Int) := by omega
            repeat' (first | fail | go_values | go_skip | go_guarded | go_step | go_upon | go_back)
            refine met_cut (by assumption) (by kernel_rfl) (by kernel_rfl) ?rel
            case' rel => try dsimp only [slotsOf, List.getD_cons_succ, List.getD_cons_zero]
            case rel => exact ⟨vb_false (fun h => q1 h.1) rfl, rfl⟩
        case rest =>
          obtain ⟨rfl, hw⟩ := hcut
          have hw' := hw.symm
          subst hw'
          clear hw
          go_upto_if 185 with (fail)
          refine wp_cutM [none, none, none, none, none, some 5, some 6, some 7, some 8, some 9, some 10, some 11, some 12, some 13, some 14, some 15, some 16, some 17, none, some 19, none, some 21, some 22, some 23, none, some 25, some 26, some 27, some 28, some 29, some 30, some 31, some 32, some 33, some 34, some 35, some 36, some 37, some 38, some 39, some 40, some 41, some 42, some 43, some 44, some 45, some 46, some 47, some 48, some 49, some 50, some 51, some 52, some 53, some 54, some 55, some 56, some 57, some 58, some 59, some 60, some 61, some 62, some 63, some 64, some 65, some 66, some 67, some 68, some 69, some 70, some 71, some 72, some 73, some 74, some 75, some 76, some 77, some 78, some 79, some 80, some 81, some 82, some 83, some 84, some 85, some 86, some 87, some 88, some 89, some 90, some 91, some 92, some 93, some 94, some 95, some 96, some 97, some 98, some 99, some 100, some 101, some 102, some 103, some 104, some 105, some 106, some 107, some 108, some 109, some 110, some 111, some 112, some 113, some 114, some 115, some 116, some 117, some 118, some 119, some 120, some 121, some 122, some 123, some 124, some 125, some 126, some 127, some 128, some 129, some 130, some 131, some 132, some 133, some 134, some 135, some 136, some 137, some 138, some 139, some 140, some 141, some 142, some 143, some 144, some 145, some 146, some 147, some 148, some 149, some 150, some 151, some 152, some 153, some 154, some 155, some 156, some 157, some 158, some 159, some 160, some 161, some 162, some 163, some 164, some 165, some 166, some 167, some 168, some 169, some 170, some 171, some 172, some 173, some 174, some 175, some 176, some 177, some 178, some 179, some 180, some 181, some 182, some 183, some 184, some 185, some 186, some 187, some 188, some 189, some 190, some 191, some 192, some 193, some 194, some 195, some 196, some 197, some 198, some 199, some 200, some 201, some 202, some 203, some 204, some 205, some 206, some 207, some 208, some 209, some 210, some 211, some 212, some 213, some 214, some 215, some 216, some 217, some 218, some 219] (fun fs wx => (fun wx => ∃ d1, Bx (SRC blk S d1 wx) ∧ Bx (Upd (fun x => x = blk) w wx) ∧ Bx (Ss.Idx (Ss.rotI s m e) d d1) ∧ Bx (PermIn a b d d1))  wx) ?first ?rest
          case' first => intro _ _ _ _
          case' rest => (intro fs wc hcut; simp only [Mix]; try dsimp only at hcut)
          case first =>
            by_cases q : s < m ∧ m < e
            · rw [decide_eq_true q]
              have CR := Bx.mk (rotC_any R0.out n c s m e HNn.out q.1 q.2 (by omega) hsz (.func (.func 51) #[] #[]))
              repeat' (first | (go_at_call 81; (with_reducible refine (CR.out).mono ?_); rintro e1 w1 ⟨rfl, d1, R1, U1, X1, P1⟩; dsimp only) | go_values | go_skip | go_guarded | go_step | go_upon | go_back)
              refine met_cut (by assumption) (by kernel_rfl) (by kernel_rfl) ?rel
              case' rel => try dsimp only [slotsOf, List.getD_cons_succ, List.getD_cons_zero]
              case rel => exact ⟨d1, ⟨R1⟩, ⟨U0.out.trans U1⟩, ⟨X1⟩, ⟨permIn_mono _ _ _ _ _ _ (by omega) (by omega) (by rw [HNn.out]; exact h3) P1⟩⟩
            · rw [decide_eq_false q]
              have hX : Ss.Idx (Ss.rotI s m e) d d := fun t => by
                by_cases q1 : s < m
                · obtain rfl : e = m := by omega
                  rw [Ss.rot_none2 _ _ _ (by omega)]
                · obtain rfl : s = m := by omega
                  rw [Ss.rot_none1]
              have BX := Bx.mk hX
              clear hX
              repeat' (first | fail | go_values | go_skip | go_guarded | go_step | go_upon | go_back)
              refine met_cut (by assumption) (by kernel_rfl) (by kernel_rfl) ?rel
              case' rel => try dsimp only [slotsOf, List.getD_cons_succ, List.getD_cons_zero]
              case rel => exact ⟨d, R0, U0, BX, ⟨permIn_refl _ _ _⟩⟩
          case rest =>
            clear R0 U0
            obtain ⟨d1, R1, U1, X1, P1⟩ := hcut
            rename World => wm
            have he2 : e = mid + m - s := by omega
            have hSP := Ss.split Ss.swo_key d d1 a m b mid s0 r0 s (by rw [HNn.out]; exact h3) HCUT.out (by have := HFD.out; rw [← hp] at this; exact this) HS1.out HS2.out (by rw [← he2]; exact X1.out)
            rw [← he2] at hSP
            clear he2
            obtain ⟨_, T1, T2, T3, T4, TX⟩ := hSP
            have B1 := Bx.mk T1
            have B2 := Bx.mk T2
            have B3 := Bx.mk T3
            have B4 := Bx.mk T4
            have BX := Bx.mk TX
            have hN1 := Bx.mk (P1.out.1.trans HNn.out)
            clear T1 T2 T3 T4 TX X1
            go_upto_region 41 with (fail)
            refine wp_cutM [none, none, none, none, none, some 5, some 6, some 7, some 8, some 9, some 10, some 11, some 12, some 13, some 14, some 15, some 16, some 17, none, some 19, none, some 21, some 22, some 23, none, some 25, some 26, some 27, some 28, some 29, some 30, some 31, some 32, some 33, some 34, some 35, some 36, some 37, some 38, some 39, some 40, some 41, some 42, some 43, some 44, some 45, some 46, some 47, some 48, some 49, some 50, some 51, some 52, some 53, some 54, some 55, some 56, some 57, some 58, some 59, some 60, some 61, some 62, some 63, some 64, some 65, some 66, some 67, some 68, some 69, some 70, some 71, some 72, some 73, some 74, some 75, some 76, some 77, some 78, some 79, some 80, some 81, some 82, some 83, some 84, some 85, some 86, some 87, some 88, some 89, some 90, some 91, some 92, some 93, some 94, some 95, some 96, some 97, some 98, some 99, some 100, some 101, some 102, some 103, some 104, some 105, some 106, some 107, some 108, some 109, some 110, some 111, some 112, some 113, some 114, some 115, some 116, some 117, some 118, some 119, some 120, some 121, some 122, some 123, some 124, some 125, some 126, some 127, some 128, some 129, some 130, some 131, some 132, some 133, some 134, some 135, some 136, some 137, some 138, some 139, some 140, some 141, some 142, some 143, some 144, some 145, some 146, some 147, some 148, some 149, some 150, some 151, some 152, some 153, some 154, some 155, some 156, some 157, some 158, some 159, some 160, some 161, some 162, some 163, some 164, some 165, some 166, some 167, some 168, some 169, some 170, some 171, some 172, some 173, some 174, some 175, some 176, some 177, some 178, some 179, some 180, some 181, some 182, some 183, some 184, some 185, some 186, some 187, some 188, some 189, some 190, some 191, some 192, some 193, some 194, some 195, some 196, some 197, some 198, some 199, some 200, some 201, some 202, some 203, some 204, some 205, some 206, some 207, some 208, some 209, some 210, some 211, some 212, some 213, some 214, some 215, some 216, some 217, some 218, some 219] (fun fs wx => (fun v wx => v = .bool (decide (a < s ∧ s < mid)) ∧ wx = wm) (fs 199) wx) ?first ?rest
            case' first => intro _ _ _ _
            case' rest => (intro fs wc hcut; simp only [Mix]; generalize fs 199 = u199 at hcut ⊢; try dsimp only at hcut)
            case first =>
              by_cases q1 : a < s
              · have q1I : (a : Int) < (s : Int) := by omega
                by_cases q2 : s < mid
                · have q2I : (s : Int) < (mid : Int) := by omega
                  repeat' (first | fail | go_values | go_skip | go_guarded | go_step | go_upon | go_back)
                  refine met_cut (by assumption) (by kernel_rfl) (by kernel_rfl) ?rel
                  case' rel => try dsimp only [slotsOf, List.getD_cons_succ, List.getD_cons_zero]
                  case rel => exact ⟨vb_true ⟨q1, q2⟩ rfl, rfl⟩
                · have q2I : ¬ (s : Int) < (mid : Int) := by omega
                  repeat' (first | fail | go_values | go_skip | go_guarded | go_step | go_upon | go_back)
                  refine met_cut (by assumption) (by kernel_rfl) (by kernel_rfl) ?rel
                  case' rel => try dsimp only [slotsOf, List.getD_cons_succ, List.getD_cons_zero]
                  case rel => exact ⟨vb_false (fun h => q2 h.2) rfl, rfl⟩
              · have q1I : ¬ (a : Int) < (s : Int) := by omega
                repeat' (first | fail | go_values | go_skip | go_guarded | go_step | go_upon | go_back)
                refine met_cut (by assumption) (by kernel_rfl) (by kernel_rfl) ?rel
                case' rel => try dsimp only [slotsOf, List.getD_cons_succ, List.getD_cons_zero]
                case rel => exact ⟨vb_false (fun h => q1 h.1) rfl, rfl⟩
            case rest =>
              obtain ⟨rfl, hw⟩ := hcut
              have hw' := hw.symm
              subst hw'
              clear hw
              go_upto_if 199 with (fail)
              refine wp_cutM [none, none, none, none, none, some 5, some 6, some 7, some 8, some 9, some 10, some 11, some 12, some 13, some 14, some 15, some 16, some 17, none, some 19, none, some 21, some 22, some 23, none, some 25, some 26, some 27, some 28, some 29, some 30, some 31, some 32, some 33, some 34, some 35, some 36, some 37, some 38, some 39, some 40, some 41, some 42, some 43, some 44, some 45, some 46, some 47, some 48, some 49, some 50, some 51, some 52, some 53, some 54, some 55, some 56, some 57, some 58, some 59, some 60, some 61, some 62, some 63, some 64, some 65, some 66, some 67, some 68, some 69, some 70, some 71, some 72, some 73, some 74, some 75, some 76, some 77, some 78, some 79, some 80, some 81, some 82, some 83, some 84, some 85, some 86, some 87, some 88, some 89, some 90, some 91, some 92, some 93, some 94, some 95, some 96, some 97, some 98, some 99, some 100, some 101, some 102, some 103, some 104, some 105, some 106, some 107, some 108, some 109, some 110, some 111, some 112, some 113, some 114, some 115, some 116, some 117, some 118, some 119, some 120, some 121, some 122, some 123, some 124, some 125, some 126, some 127, some 128, some 129, some 130, some 131, some 132, some 133, some 134, some 135, some 136, some 137, some 138, some 139, some 140, some 141, some 142, some 143, some 144, some 145, some 146, some 147, some 148, some 149, some 150, some 151, some 152, some 153, some 154, some 155, some 156, some 157, some 158, some 159, some 160, some 161, some 162, some 163, some 164, some 165, some 166, some 167, some 168, some 169, some 170, some 171, some 172, some 173, some 174, some 175, some 176, some 177, some 178, some 179, some 180, some 181, some 182, some 183, some 184, some 185, some 186, some 187, some 188, some 189, some 190, some 191, some 192, some 193, some 194, some 195, some 196, some 197, some 198, some 199, some 200, some 201, some 202, some 203, some 204, some 205, some 206, some 207, some 208, some 209, some 210, some 211, some 212, some 213, some 214, some 215, some 216, some 217, some 218, some 219] (fun fs wx => (fun wx => ∃ d2, Bx (SRC blk S d2 wx) ∧ Bx (Upd (fun x => x = blk) w wx) ∧ Bx (PermIn a mid d1 d2) ∧ Bx (SortedIn ltC a mid d2))  wx) ?first ?rest
              case' first => intro _ _ _ _
              case' rest => (intro fs wc hcut; simp only [Mix]; try dsimp only at hcut)
              case first =>
                by_cases q : a < s ∧ s < mid
                · rw [decide_eq_true q]
                  have CR := Bx.mk (IH.out R1.out n c a s mid (by omega) hN1.out q.1 q.2 (by omega) hsz B1.out B2.out)
                  repeat' (first | (go_at_call 79; (with_reducible refine (CR.out).mono ?_); rintro e1 w1 ⟨rfl, d2, R2, U2, P2, S2⟩; dsimp only) | go_values | go_skip | go_guarded | go_step | go_upon | go_back)
                  refine met_cut (by assumption) (by kernel_rfl) (by kernel_rfl) ?rel
                  case' rel => try dsimp only [slotsOf, List.getD_cons_succ, List.getD_cons_zero]
                  case rel => exact ⟨d2, ⟨R2⟩, ⟨U1.out.trans U2⟩, ⟨P2⟩, ⟨S2⟩⟩
                · rw [decide_eq_false q]
                  have hX : SortedIn ltC a mid d1 := by
                    by_cases q1 : a < s
                    · obtain rfl : s = mid := by omega
                      exact B1.out
                    · obtain rfl : s = a := by omega
                      exact B2.out
                  have BX := Bx.mk hX
                  clear hX
                  repeat' (first | fail | go_values | go_skip | go_guarded | go_step | go_upon | go_back)
                  refine met_cut (by assumption) (by kernel_rfl) (by kernel_rfl) ?rel
                  case' rel => try dsimp only [slotsOf, List.getD_cons_succ, List.getD_cons_zero]
                  case rel => exact ⟨d1, R1, U1, ⟨permIn_refl _ _ _⟩, BX⟩
              case rest =>
                clear R1 U1
                obtain ⟨d2, R2, U2, P2, S2⟩ := hcut
                rename World => wn
                have B3' := Bx.mk (Ss.SortedIn.of_perm B3.out P2.out (.inr (Nat.le_refl _)))
                have B4' := Bx.mk (Ss.SortedIn.of_perm B4.out P2.out (.inr hbd.2.2.1))
                have hN2 := Bx.mk (P2.out.1.trans hN1.out)
                clear B1 B2 B3 B4
                go_upto_region 43 with (fail)
                refine wp_cutM [none, none, none, none, none, some 5, some 6, some 7, some 8, some 9, some 10, some 11, some 12, some 13, some 14, some 15, some 16, some 17, none, some 19, none, some 21, some 22, some 23, none, some 25, some 26, some 27, some 28, some 29, some 30, some 31, some 32, some 33, some 34, some 35, some 36, some 37, some 38, some 39, some 40, some 41, some 42, some 43, some 44, some 45, some 46, some 47, some 48, some 49, some 50, some 51, some 52, some 53, some 54, some 55, some 56, some 57, some 58, some 59, some 60, some 61, some 62, some 63, some 64, some 65, some 66, some 67, some 68, some 69, some 70, some 71, some 72, some 73, some 74, some 75, some 76, some 77, some 78, some 79, some 80, some 81, some 82, some 83, some 84, some 85, some 86, some 87, some 88, some 89, some 90, some 91, some 92, some 93, some 94, some 95, some 96, some 97, some 98, some 99, some 100, some 101, some 102, some 103, some 104, some 105, some 106, some 107, some 108, some 109, some 110, some 111, some 112, some 113, some 114, some 115, some 116, some 117, some 118, some 119, some 120, some 121, some 122, some 123, some 124, some 125, some 126, some 127, some 128, some 129, some 130, some 131, some 132, some 133, some 134, some 135, some 136, some 137, some 138, some 139, some 140, some 141, some 142, some 143, some 144, some 145, some 146, some 147, some 148, some 149, some 150, some 151, some 152, some 153, some 154, some 155, some 156, some 157, some 158, some 159, some 160, some 161, some 162, some 163, some 164, some 165, some 166, some 167, some 168, some 169, some 170, some 171, some 172, some 173, some 174, some 175, some 176, some 177, some 178, some 179, some 180, some 181, some 182, some 183, some 184, some 185, some 186, some 187, some 188, some 189, some 190, some 191, some 192, some 193, some 194, some 195, some 196, some 197, some 198, some 199, some 200, some 201, some 202, some 203, some 204, some 205, some 206, some 207, some 208, some 209, some 210, some 211, some 212, some 213, some 214, some 215, some 216, some 217, some 218, some 219] (fun fs wx => (fun v wx => v = .bool (decide (mid < e ∧ e < b)) ∧ wx = wn) (fs 213) wx) ?first ?rest
                case' first => intro _ _ _ _
                case' rest => (intro fs wc hcut; simp only [Mix]; generalize fs 213 = u213 at hcut ⊢; try dsimp only at hcut)
                case first =>
                  by_cases q1 : mid < e
                  · have q1I : (mid : Int) < (e : Int) := by omega
                    by_cases q2 : e < b
                    · have q2I : (e : Int) < (b : Int) := by omega
                      repeat' (first | fail | go_values | go_skip | go_guarded | go_step | go_upon | go_back)
                      refine met_cut (by assumption) (by kernel_rfl) (by kernel_rfl) ?rel
                      case' rel => try dsimp only [slotsOf, List.getD_cons_succ, List.getD_cons_zero]
                      case rel => exact ⟨vb_true ⟨q1, q2⟩ rfl, rfl⟩
                    · have q2I : ¬ (e : Int) < (b : Int) := by omega
                      repeat' (first | fail | go_values | go_skip | go_guarded | go_step | go_upon | go_back)
                      refine met_cut (by assumption) (by kernel_rfl) (by kernel_rfl) ?rel
                      case' rel => try dsimp only [slotsOf, List.getD_cons_succ, List.getD_cons_zero]
                      case rel => exact ⟨vb_false (fun h => q2 h.2) rfl, rfl⟩
                  · have q1I : ¬ (mid : Int) < (e : Int) := by omega
                    repeat' (first | fail | go_values | go_skip | go_guarded | go_step | go_upon | go_back)
                    refine met_cut (by assumption) (by kernel_rfl) (by kernel_rfl) ?rel
                    case' rel => try dsimp only [slotsOf, List.getD_cons_succ, List.getD_cons_zero]
                    case rel => exact ⟨vb_false (fun h => q1 h.1) rfl, rfl⟩
                case rest =>
                  obtain ⟨rfl, hw⟩ := hcut
                  have hw' := hw.symm
                  subst hw'
                  clear hw
                  have hmb : a ≤ mid ∧ mid ≤ b ∧ b ≤ d1.size := by rw [hN1.out]; omega
                  have PA := Bx.mk (permIn_trans _ _ _ _ _ P1.out (permIn_mono _ _ _ _ _ _ (Nat.le_refl _) hmb.2.1 hmb.2.2 P2.out))
                  by_cases q : mid < e ∧ e < b
                  · rw [decide_eq_true q]
                    have CR := Bx.mk (IH.out R2.out n c mid e b (by omega) hN2.out q.1 q.2 h3 hsz B3'.out B4'.out)
                    repeat' (first | (go_at_call 79; (with_reducible refine (CR.out).mono ?_); rintro e1 w1 ⟨rfl, d3, R3, U3, P3, S3⟩; dsimp only) | go_values | go_skip | go_guarded | go_step | go_upon | go_back)
                    have hb2 : b ≤ d2.size := by rw [hN2.out]; exact h3
                    go_returns
                    exact ⟨rfl, d3, R3, U2.out.trans U3, permIn_trans _ _ _ _ _ PA.out (permIn_mono _ _ _ _ _ _ hmb.1 (Nat.le_refl _) hb2 P3), Ss.join d1 d2 d3 a mid b hmb.2.2 hmb.1 hmb.2.1 BX.out P2.out S2.out P3 S3⟩
                  · rw [decide_eq_false q]
                    have hX : SortedIn ltC mid b d2 := by
                      by_cases q1 : mid < e
                      · obtain rfl : e = b := by omega
                        exact B3'.out
                      · obtain rfl : e = mid := by omega
                        exact B4'.out
                    have BS := Bx.mk hX
                    clear hX
                    repeat' (first | fail | go_values | go_skip | go_guarded | go_step | go_upon | go_back)
                    go_returns
                    exact ⟨rfl, d2, R2.out, U2.out, PA.out, Ss.join d1 d2 d2 a mid b hmb.2.2 hmb.1 hmb.2.1 BX.out P2.out S2.out (permIn_refl _ _ _) BS.out⟩
end Go.Proofs.Ytdnkdmdmekdfkaa
