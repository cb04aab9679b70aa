/- pdqsortOrdered at IDs: it sorts: walked. -/
import Derived.Test.YtohflgpkimnodaaSo3
import Derived.Test.YtohflgpkimnodaaSo5
import Derived.Test.YtohflgpkimnodaaSo7
import Derived.Test.YtohflgpkimnodaaSo9
import Derived.Test.YtohflgpkimnodaaSo11
import Derived.Test.YtohflgpkimnodaaSo12
import Derived.Test.YtohflgpkimnodaaSo13
import Derived.Test.YtohflgpkimnodaaSo14
import Derived.Deep.DeepCutAuto
import Derived.Deep.CutBlock
namespace Go.Proofs.Ytohflgpkimnodaa
open Go.RowKit Go.Sort
set_option maxRecDepth 100000 in
set_option maxHeartbeats 16000000 in
theorem pdq_any : ∀ (N : Nat) {w : World} {blk cap : Nat} {d : Array Nat} (_ : SR blk cap d w) (n c a b limit : Nat) (_ : b - a < N) (_ : d.size = n) (_ : a ≤ b) (_ : b ≤ n) (_ : n < 2305843009213693952) (_ : limit < 2305843009213693952) (_ : Below ltN a b d),
    Calls Try.prog 41 #[.slice (some ⟨blk, 0, none⟩) n c, .int .i64 a, .int .i64 b, .int .i64 limit] w fun e w' => e = .returned (.tuple #[]) ∧ ∃ d', PermIn a b d d' ∧ SortedIn ltN a b d' ∧ SR blk cap d' w' ∧ Upd (fun x => x = blk) w w' := by
  intro N
  induction N with
  | zero => intro _ _ _ _ _ _ _ _ _ _ h; exact absurd h (Nat.not_lt_zero _)
  | succ N ih =>
    intro w blk cap d hR n c a b limit hN hn hab hb hsz hlim hBel
    have HL := Bx.mk (fun (x y : Nat) w => Less_any x y w)
    have HI := Bx.mk (fun {w : World} {d : Array Nat} (h : SR blk cap d w) => @ih w blk cap d h n c)
    have HR0 := Bx.mk hR
    have HS0 := Bx.mk hn
    have HB0 := Bx.mk hBel
    clear ih hR hn hBel
    go_enter Try.func41, Try.ntmps41
    repeat' (first | fail | go_values | go_skip | go_guarded | go_step | go_upon | go_back)
    go_loopw [1, 2, 3, 8, 9] (fun s1 s2 s3 s8 s9 wr => ∃ (a1 b1 lim : Nat) (wb wp : Bool) (d1 : Array Nat), s1 = .int .i64 a1 ∧ s2 = .int .i64 b1 ∧ s3 = .int .i64 lim ∧ s8 = .bool wb ∧ s9 = .bool wp ∧
      a1 ≤ b1 ∧ b1 ≤ n ∧ b1 - a1 ≤ b - a ∧ lim ≤ limit ∧ Bx (d1.size = n) ∧ Bx (Below ltN a1 b1 d1) ∧ Bx (Gl a b d a1 b1 d1) ∧ Bx (SR blk cap d1 wr) ∧ Upd (fun x => x = blk) w wr) (fun s1 s2 _ _ _ _ => (intOf s2).toNat - (intOf s1).toNat)
    case atStart => exact ⟨a, b, limit, true, true, d, rfl, rfl, rfl, rfl, rfl, hab, hb, Nat.le_refl _, Nat.le_refl _, HS0, HB0, ⟨Gl.refl a b d⟩, HR0, Upd.refl _ _⟩
    case round =>
      obtain ⟨a1, b1, lim, wb, wp, d1, rfl, rfl, rfl, rfl, rfl, hab1, hb1, hle, hlm, HS, HB, HG, HR, hU⟩ := hrel
      clear HS0 HB0 HR0
      obtain ⟨l, hl⟩ : ∃ l, b1 - a1 = l := ⟨_, rfl⟩
      have wl' : IntKind.i64.wrap ((b1 : Int) - (a1 : Int)) = (l : Int) := by rw [IntKind.wrap_i64]; omega
      by_cases h12 : l ≤ 12
      · have h12I : (l : Int) ≤ 12 := by omega
        have C := Bx.mk (ins_any HR.out HR.out.lt n c a1 b1 HS.out hab1 hb1 (by omega))
        repeat' (first | (go_at_call 43; (with_reducible refine (C.out).mono ?_); rintro e w2 ⟨rfl, HR2, U2⟩; dsimp only) | go_values | go_skip | go_guarded | go_step | go_upon | go_back)
        go_returns
        obtain ⟨p1, p2⟩ := insertionSort_holds (lt := ltN) swoN d1 a1 b1 hab1 (by rw [HS.out]; exact hb1)
        obtain ⟨q1, q2⟩ := HG.out _ p1 p2
        exact ⟨rfl, _, q1, q2, HR2, hU.trans U2⟩
      · have h12I : ¬ (l : Int) ≤ 12 := by omega
        by_cases hl0 : lim = 0
        · have hl0I : (lim : Int) = 0 := by omega
          have C := Bx.mk (heap_any HR.out n c a1 b1 HS.out (by omega) hb1 hsz)
          repeat' (first | (go_at_call 44; (with_reducible refine (C.out).mono ?_); rintro e w2 ⟨rfl, HR2, U2⟩; dsimp only) | go_values | go_skip | go_guarded | go_step | go_upon | go_back)
          go_returns
          obtain ⟨p1, p2⟩ := heapSort_holds (lt := ltN) swoN d1 a1 b1 hab1 (by rw [HS.out]; exact hb1)
          obtain ⟨q1, q2⟩ := HG.out _ p1 p2
          exact ⟨rfl, _, q1, q2, HR2, hU.trans U2⟩
        · have hl0I : ¬ (lim : Int) = 0 := by omega
          obtain ⟨lim0, hlim0⟩ : ∃ lim0, lim0 + 1 = lim := ⟨lim - 1, by omega⟩
          have wlim : IntKind.i64.wrap ((lim : Int) - 1) = (lim0 : Int) := by rw [IntKind.wrap_i64]; omega
          go_upto_if 35 with (fail)
          go_cut [3] (fun s3 wc => ∃ (lim2 : Nat) (d2 : Array Nat), s3 = .int .i64 lim2 ∧ lim2 ≤ lim ∧ Bx (PermIn a1 b1 d1 d2) ∧ Bx (SR blk cap d2 wc) ∧ Upd (fun x => x = blk) w wc)
          case first =>
            cases wb with
            | false =>
              have C := Bx.mk (break_any HR.out n c a1 b1 HS.out (by omega) hb1 hsz)
              repeat' (first | (go_at_call 45; (with_reducible refine (C.out).mono ?_); rintro e w2 ⟨rfl, d2, P2, HR2, U2⟩; dsimp only) | go_values | go_skip | go_guarded | go_step | go_upon | go_back)
              go_meet
              case rel => exact ⟨lim0, d2, rfl, by omega, ⟨P2⟩, ⟨HR2⟩, hU.trans U2⟩
            | true =>
              repeat' (first | fail | go_values | go_skip | go_guarded | go_step | go_upon | go_back)
              go_meet
              case rel => exact ⟨lim, d1, rfl, by omega, ⟨permIn_refl _ _ _⟩, HR, hU⟩
          case rest =>
            obtain ⟨lim2, d2, rfl, hlm2, HP2, HR2, hU2⟩ := hcut
            clear HR hU wlim hlim0 hl0 hl0I
            have HS2 := Bx.mk (HP2.out.1.trans HS.out)
            have C := Bx.mk (pivot_any HR2.out n c a1 b1 HS2.out (by omega) hb1 hsz)
            go_upto_if 50 with (first | (go_at_call 46; (with_reducible refine (C.out).mono ?_); rintro e w3 ⟨p, hnt, rfl, hp1, hp2, hh, HR3, U3⟩; dsimp only))
            have HR3' := Bx.mk HR3
            have hU3 : Upd (fun x => x = blk) w w3 := hU2.trans (New.upd U3)
            clear C U3 HR3 HR2 hU2
            go_cut [11, 12] (fun s11 s12 wc => ∃ (p h : Nat) (d3 : Array Nat), s11 = .int .i64 p ∧ s12 = .int .i64 h ∧ a1 ≤ p ∧ p < b1 ∧ h ≤ 2 ∧ Bx (PermIn a1 b1 d1 d3) ∧ Bx (SR blk cap d3 wc) ∧ Upd (fun x => x = blk) w wc)
            case first =>
              by_cases h2 : hnt = 2
              · subst h2
                have C := Bx.mk (rev_any HR3'.out n c a1 b1 HS2.out (by omega) hb1 (by omega))
                have PR := Bx.mk (permIn_trans _ _ _ _ _ HP2.out (reverseRange_holds d2 a1 b1 hab1 (by rw [HS2.out]; exact hb1)))
                obtain ⟨b0, hb0⟩ : ∃ b0, b1 - 1 = b0 := ⟨_, rfl⟩
                obtain ⟨pa, hpa⟩ : ∃ pa, p - a1 = pa := ⟨_, rfl⟩
                obtain ⟨p5, hp5⟩ : ∃ p5, b0 - pa = p5 := ⟨_, rfl⟩
                have wb0 : IntKind.i64.wrap ((b1 : Int) - 1) = (b0 : Int) := by rw [IntKind.wrap_i64]; omega
                have wpa : IntKind.i64.wrap ((p : Int) - (a1 : Int)) = (pa : Int) := by rw [IntKind.wrap_i64]; omega
                have wp5 : IntKind.i64.wrap ((b0 : Int) - (pa : Int)) = (p5 : Int) := by rw [IntKind.wrap_i64]; omega
                repeat' (first | (go_at_call 47; (with_reducible refine (C.out).mono ?_); rintro e w4 ⟨rfl, HR4, U4⟩; dsimp only) | go_values | go_skip | go_guarded | go_step | go_upon | go_back)
                go_meet
                case rel => exact ⟨p5, 1, _, rfl, rfl, by omega, by omega, by omega, PR, ⟨HR4⟩, hU3.trans U4⟩
              · have h2I : ¬ (hnt : Int) = 2 := by omega
                repeat' (first | fail | go_values | go_skip | go_guarded | go_step | go_upon | go_back)
                go_meet
                case rel => exact ⟨p, hnt, d2, rfl, rfl, hp1, hp2, hh, HP2, HR3', hU3⟩
            case rest =>
              clear HP2 HS2 HR3' hU3 hp1 hp2 hh
              obtain ⟨p, h, d3, rfl, rfl, hp1, hp2, hh, HP3, HR3, hU3⟩ := hcut
              have HS3 := Bx.mk (HP3.out.1.trans HS.out)
              have HB3 := Bx.mk (HB.out.perm (by rw [HS.out]; exact hb1) HP3.out)
              go_upto_region 15 with (fail)
              go_cut [68] (fun s68 wx => ∃ bb : Bool, s68 = .bool bb ∧ Bx (SR blk cap d3 wx) ∧ Upd (fun x => x = blk) w wx)
              case first =>
                by_cases h1 : h = 1
                · subst h1
                  cases wb <;> cases wp <;> ((repeat' (first | fail | go_values | go_skip | go_guarded | go_step | go_upon | go_back)); go_meet; exact ⟨_, rfl, HR3, hU3⟩)
                · have h1I : ¬ (h : Int) = 1 := by omega
                  cases wb <;> cases wp <;> ((repeat' (first | fail | go_values | go_skip | go_guarded | go_step | go_upon | go_back)); go_meet; exact ⟨_, rfl, HR3, hU3⟩)
              case rest =>
                clear HR3 hU3
                obtain ⟨bb, rfl, HR3, hU3⟩ := hcut
                go_upto_if 68 with (fail)
                go_cut [] (fun wx => ∃ (d4 : Array Nat), Bx (PermIn a1 b1 d1 d4) ∧ Bx (SR blk cap d4 wx) ∧ Upd (fun x => x = blk) w wx)
                case first =>
                  cases bb with
                  | false =>
                    repeat' (first | fail | go_values | go_skip | go_guarded | go_step | go_upon | go_back)
                    go_meet
                    case rel => exact ⟨d3, HP3, HR3, hU3⟩
                  | true =>
                    obtain ⟨d4, r, hres⟩ : ∃ d4 r, partialInsertionSort ltN d3 a1 b1 = (d4, r) := ⟨_, _, rfl⟩
                    have C := Bx.mk (partial_any HR3.out n c a1 b1 HS3.out (by omega) hb1 hsz (d4, r) hres)
                    have PS := partialInsertionSort_holds (lt := ltN) swoN d3 a1 b1 (by omega) (by rw [HS3.out]; exact hb1) HB3.out
                    rw [hres] at PS
                    have PS2 := Bx.mk PS
                    clear hres PS
                    cases r with
                    | false =>
                      repeat' (first | (go_at_call 48; (with_reducible refine (C.out).mono ?_); rintro e w4 ⟨rfl, HR4, U4⟩; dsimp only) | go_values | go_skip | go_guarded | go_step | go_upon | go_back)
                      go_meet
                      case rel => exact ⟨d4, ⟨permIn_trans _ _ _ _ _ HP3.out PS2.out.1⟩, ⟨HR4⟩, hU3.trans U4⟩
                    | true =>
                      repeat' (first | (go_at_call 48; (with_reducible refine (C.out).mono ?_); rintro e w4 ⟨rfl, HR4, U4⟩; dsimp only) | go_values | go_skip | go_guarded | go_step | go_upon | go_back)
                      go_returns
                      obtain ⟨q1, q2⟩ := HG.out d4 (permIn_trans _ _ _ _ _ HP3.out PS2.out.1) (PS2.out.2 rfl)
                      exact ⟨rfl, d4, q1, q2, HR4, hU3.trans U4⟩
                case rest =>
                  clear HP3 HR3 hU3 HS3 HB3
                  obtain ⟨d4, HP4, HR4, hU4⟩ := hcut
                  have HS4 := Bx.mk (HP4.out.1.trans HS.out)
                  have HB4 := Bx.mk (HB.out.perm (by rw [HS.out]; exact hb1) HP4.out)
                  have HG4 := Bx.mk (HG.out.perm HP4.out)
                  clear HB HG HP4
                  go_upto_region 17 with (fail)
                  go_cut [87] (fun s87 wx => ∃ bb : Bool, s87 = .bool bb ∧ Bx (bb = true → 0 < a1 ∧ ltN d4[a1 - 1]! d4[p]! = false) ∧ Bx (SR blk cap d4 wx) ∧ Upd (fun x => x = blk) w wx)
                  case first =>
                    by_cases ha0 : 0 < a1
                    · obtain ⟨q, hqa⟩ : ∃ q, q + 1 = a1 := ⟨a1 - 1, by omega⟩
                      have ha0I : (0 : Int) < (a1 : Int) := by omega
                      have wqa : IntKind.i64.wrap ((a1 : Int) - 1) = (q : Int) := by rw [IntKind.wrap_i64]; omega
                      have hqI : (q : Int) < (n : Int) := by omega
                      have hpI : (p : Int) < (n : Int) := by omega
                      obtain ⟨x, hx⟩ : ∃ x, d4[q]! = x := ⟨_, rfl⟩
                      obtain ⟨y, hy⟩ : ∃ y, d4[p]! = y := ⟨_, rfl⟩
                      have k1 : ∀ z : After wc, z.to.cell? ⟨blk, q, none⟩ = some (.int .u32 (x : Nat)) := fun z => by rw [← hx]; exact (HR4.out.blk z.h (fun q => q)).cell q (by have := HS4.out; omega)
                      have k2 : ∀ z : After wc, z.to.cell? ⟨blk, p, none⟩ = some (.int .u32 (y : Nat)) := fun z => by rw [← hy]; exact (HR4.out.blk z.h (fun q => q)).cell p (by have := HS4.out; omega)
                      have hL := fun w => HL.out x y w
                      obtain ⟨lb, hlb⟩ : ∃ lb, ltN x y = lb := ⟨_, rfl⟩
                      rw [hlb] at hL
                      have HF := Bx.mk (show (!lb) = true → 0 < a1 ∧ ltN d4[a1 - 1]! d4[p]! = false from fun z => ⟨ha0, by rw [show a1 - 1 = q from by omega, hx, hy, hlb]; simpa using z⟩)
                      clear hx hy hlb
                      (refine wp_region_calm (by kernel_rfl) (by kernel_rfl) ?_; (repeat (go_big_quiet_step ((go_at_call 49; refine Calls.calm_same (hL _))))); refine wpQuiet_nil ?_; intro wq hq)
                      have HR5 := Bx.mk (HR4.out.blk hq (fun q => q))
                      have U5 : Upd (fun x => x = blk) w wq := hU4.trans (New.upd hq)
                      repeat' (first | fail | go_values | go_skip | go_guarded | go_step | go_upon | go_back)
                      go_meet
                      case rel => exact ⟨_, rfl, HF, HR5, U5⟩
                    · have ha0I : ¬ (0 : Int) < (a1 : Int) := by omega
                      (refine wp_region_calm (by kernel_rfl) (by kernel_rfl) ?_; (repeat (go_big_quiet_step ((fail)))); refine wpQuiet_nil ?_; intro wq hq)
                      have HR5 := Bx.mk (HR4.out.blk hq (fun q => q))
                      have U5 : Upd (fun x => x = blk) w wq := hU4.trans (New.upd hq)
                      repeat' (first | fail | go_values | go_skip | go_guarded | go_step | go_upon | go_back)
                      go_meet
                      case rel => exact ⟨false, rfl, ⟨by simp⟩, HR5, U5⟩
                  case rest =>
                    clear HR4 hU4
                    obtain ⟨bb, rfl, HF, HR4, hU4⟩ := hcut
                    cases bb with
                    | true =>
                      obtain ⟨ha0, hF2⟩ := HF.out rfl
                      obtain ⟨P, hP⟩ : ∃ P, d4[p]! = P := ⟨_, rfl⟩
                      rw [hP] at hF2
                      have HF2 := Bx.mk hF2
                      have C := Bx.mk (pequal_any HR4.out n c a1 b1 p P HS4.out hp1 hp2 hb1 hsz hP)
                      clear HF hF2 hP
                      repeat' (first | (go_at_call 50; (with_reducible refine (C.out).mono ?_); rintro e w6 ⟨mid, d6, rfl, hm1, hm2, P6, L6, G6, HR6, U6⟩; dsimp only) | go_values | go_skip | go_guarded | go_step | go_upon | go_back)
                      have RE := roundE (d3 := d4) ha0 (by rw [HS4.out]; exact hb1) HB4.out HF2.out hm1 hm2 P6 L6 G6
                      have HS6 := Bx.mk (P6.1.trans HS4.out)
                      have HG6 := Bx.mk (HG4.out.trans RE.2)
                      have HB6 := Bx.mk RE.1
                      have HR6' := Bx.mk HR6
                      have U6' := hU4.trans U6
                      clear P6 L6 G6 RE
                      go_roundw
                      case rel => exact ⟨mid, b1, lim2, wb, wp, d6, rfl, rfl, rfl, rfl, rfl, by omega, hb1, by omega, by omega, HS6, HB6, HG6, HR6', U6'⟩
                      case measure => simp [intOf]; omega
                    | false =>
                      have C := Bx.mk (part_any HR4.out n c a1 b1 p HS4.out hp1 hp2 (by omega) hb1 hsz)
                      clear HF
                      go_upto_if 113 with (first | (go_at_call 51; (with_reducible refine (C.out).mono ?_); rintro e w6 ⟨mid, ap, d6, rfl, hm1, hm2, P6, L6, G6, HR6, U6⟩; dsimp only))
                      have RP := Bx.mk (roundP (d3 := d4) (by rw [HS4.out]; exact hb1) HB4.out hm1 hm2 P6 L6 G6)
                      have HS6 := Bx.mk (P6.1.trans HS4.out)
                      have HR6' := Bx.mk HR6
                      have U6' := hU4.trans U6
                      clear P6 L6 G6 C HR6 U6 HB4
                      obtain ⟨m1, hm1'⟩ : ∃ m1, mid + 1 = m1 := ⟨_, rfl⟩
                      rw [hm1'] at RP
                      have wm : IntKind.i64.wrap ((mid : Int) + 1) = (m1 : Int) := by rw [IntKind.wrap_i64]; omega
                      by_cases hlt : mid - a1 < b1 - mid
                      · have hltI : (mid : Int) - (a1 : Int) < (b1 : Int) - (mid : Int) := by omega
                        have CI := Bx.mk (HI.out HR6'.out a1 mid lim2 (by omega) HS6.out hm1 (by omega) hsz (by omega) RP.out.1)
                        repeat' (first | (go_at_call 41; (with_reducible refine (CI.out).mono ?_); rintro e w8 ⟨rfl, d8, P8, S8, HR8, U8⟩; dsimp only) | go_values | go_skip | go_guarded | go_step | go_upon | go_back)
                        obtain ⟨hB8, hG8⟩ := RP.out.2.2.1 d8 P8 S8
                        have HS8 := Bx.mk (P8.1.trans HS6.out)
                        have HB8 := Bx.mk hB8
                        have HG8 := Bx.mk (HG4.out.trans hG8)
                        have HR8' := Bx.mk HR8
                        have U8' := U6'.trans U8
                        clear hB8 hG8 P8 S8 U8 CI
                        go_roundw
                        case rel => exact ⟨m1, b1, lim2, _, ap, d8, rfl, rfl, rfl, rfl, rfl, by omega, hb1, by omega, by omega, HS8, HB8, HG8, HR8', U8'⟩
                        case measure => simp [intOf]; omega
                      · have hltI : ¬ (mid : Int) - (a1 : Int) < (b1 : Int) - (mid : Int) := by omega
                        have CI := Bx.mk (HI.out HR6'.out m1 b1 lim2 (by omega) HS6.out (by omega) hb1 hsz (by omega) RP.out.2.1)
                        repeat' (first | (go_at_call 41; (with_reducible refine (CI.out).mono ?_); rintro e w8 ⟨rfl, d8, P8, S8, HR8, U8⟩; dsimp only) | go_values | go_skip | go_guarded | go_step | go_upon | go_back)
                        obtain ⟨hB8, hG8⟩ := RP.out.2.2.2 d8 P8 S8
                        have HS8 := Bx.mk (P8.1.trans HS6.out)
                        have HB8 := Bx.mk hB8
                        have HG8 := Bx.mk (HG4.out.trans hG8)
                        have HR8' := Bx.mk HR8
                        have U8' := U6'.trans U8
                        clear hB8 hG8 P8 S8 U8 CI
                        go_roundw
                        case rel => exact ⟨a1, mid, lim2, _, ap, d8, rfl, rfl, rfl, rfl, rfl, hm1, by omega, by omega, by omega, HS8, HB8, HG8, HR8', U8'⟩
                        case measure => simp [intOf]; omega
end Go.Proofs.Ytohflgpkimnodaa
