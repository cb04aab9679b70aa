/- The reference's form: the walk. -/
import Derived.Test.YtdnkdmdmekdfkaaDf2
import Derived.Deep.DeepCutAuto
import Derived.Deep.CutBlock
namespace Go.Proofs.Ytdnkdmdmekdfkaa
open Go.RowKit
theorem newEnt (w : World) (i : Nat) (s0 : Option Addr) (s1 s2 : Nat) : New w (w.alloc (.cells #[.int .u32 i, .slice s0 s1 s2] 43)) := (Upd.refl _ w).alloc _
def lastI (L : List Et) (j : Nat) : Nat := if j = 0 then 0 else (L[j - 1]?.map (fun x => x.1)).getD 0
theorem lastI_succ (L : List Et) (j : Nat) (h : j < L.length) : lastI L (j + 1) = L[j].1 := by
  unfold lastI; rw [if_neg (by omega), Nat.add_sub_cancel, List.getElem?_eq_getElem h]; rfl
theorem frm_step (last : Nat) (x : Et) (r : List Et) : frm last (x :: r) = if (x.1 ≤ last ∨ x.1 / 1024 < 1 ∨ 4194303 < x.1 / 1024) then 4 else if lsE (-1) x.2 ≠ 0 then lsE (-1) x.2 else if secr x.2 = true then 4 else frm x.1 r := by
  show (if x.1 ≤ last then (4 : Int) else if oneE x ≠ 0 then oneE x else if secr x.2 = true then 4 else frm x.1 r) = _
  by_cases h1 : x.1 ≤ last
  · rw [if_pos h1, if_pos (.inl h1)]
  · by_cases h2 : x.1 / 1024 < 1 ∨ 4194303 < x.1 / 1024
    · have e2 : oneE x = 4 := by unfold oneE; rw [if_pos h2]
      rw [if_neg h1, if_pos (by rw [e2]; simp), e2, if_pos (.inr h2)]
    · have e2 : oneE x = lsE (-1) x.2 := by unfold oneE; rw [if_neg h2]
      have hb : ¬ (x.1 ≤ last ∨ x.1 / 1024 < 1 ∨ 4194303 < x.1 / 1024) := fun h => h.elim h1 h2
      by_cases h3 : lsE (-1) x.2 = 0
      · rw [if_neg h1, if_neg (by rw [e2]; simp [h3]), if_neg hb, if_neg (show ¬ lsE (-1) x.2 ≠ 0 by simp [h3])]
      · rw [if_neg h1, if_pos (by rw [e2]; exact h3), e2, if_neg hb, if_pos h3]
set_option maxRecDepth 4000 in
set_option maxHeartbeats 8000000 in
theorem refForm_any (A : Option Addr) (n c : Nat) (L : List Et) (w : World) (h : EnL w A n L) (hn : n ≤ 1000) (hs : Sm L) : Calls Try.prog 17 #[.slice A n c] w fun e w' => e = .returned (.int .i64 (frm 0 L)) ∧ New w w' := by
  have HL := Bx.mk h.len
  go_enter Try.func17, Try.ntmps17
  repeat' (first | fail | go_values | go_skip | go_guarded | go_step | go_upon | go_back)
  go_loopw [11] (fun iv wr => ∃ (j : Nat), j ≤ n ∧ iv = .int .i64 j ∧ Bx (frm 0 L = frm (lastI L j) (L.drop j)) ∧ Bx (New w wr)) (fun iv _ => n - (intOf iv).toNat)
  case atStart => exact ⟨0, by omega, rfl, ⟨rfl⟩, ⟨Upd.refl _ _⟩⟩
  case round =>
    obtain ⟨j, hj, rfl, HJ, HN⟩ := hrel
    by_cases hlt : j < n
    · have hji : (j : Int) < (n : Int) := by omega
      have hjL : j < L.length := by rw [HL.out]; exact hlt
      obtain ⟨b0, off, s0, s1, s2, rfl, h0, h1, hco⟩ := (h.new HN.out).el j hjL
      have HP : 0 < j → wr.cell? ⟨b0, off + (j - 1) * 2, none⟩ = some (.int .u32 (lastI L j)) := fun hj0 => by
        obtain ⟨b', off', _, _, _, e, g, _⟩ := (h.new HN.out).el (j - 1) (by omega)
        simp only [Option.some.injEq, Addr.mk.injEq, and_true] at e
        obtain ⟨rfl, rfl⟩ := e
        rw [g]
        have : lastI L (j - 1 + 1) = L[j - 1].1 := lastI_succ L (j - 1) (by omega)
        rw [show j - 1 + 1 = j by omega] at this
        rw [this]
      have HPB := Bx.mk HP
      clear HP
      have HLS := Bx.mk (lastI_succ L j hjL)
      have HD := Bx.mk (show L.drop j = L[j] :: L.drop (j + 1) from List.drop_eq_getElem_cons hjL)
      have hq := hs L[j] (List.getElem_mem hjL)
      have hl0 : j = 0 → lastI L j = 0 := fun e => by rw [e]; rfl
      have HL0 := Bx.mk hl0
      clear hl0
      generalize L[j] = x at *
      obtain ⟨i, l⟩ := x
      dsimp only at h0 h1 hco HLS
      generalize hla : lastI L j = last at *
      have HS := Bx.mk (show frm 0 L = if (i ≤ last ∨ i / 1024 < 1 ∨ 4194303 < i / 1024) then 4 else if lsE (-1) l ≠ 0 then lsE (-1) l else if secr l = true then 4 else frm i (L.drop (j + 1)) by rw [HJ.out, HD.out]; exact frm_step _ _ _)
      obtain ⟨g, hg⟩ : ∃ g, i / 1024 = g := ⟨_, rfl⟩
      rw [hg] at HS
      have hgi : g ≤ i ∧ (i = 0 → g = 0) := by omega
      have HG := Bx.mk (fun w => refGen_any i g hg w hq.id)
      have hA := newEnt wr i s0 s1 s2
      obtain ⟨n0, n1⟩ := e2_new wr i s0 s1 s2
      have HCO := Bx.mk (hco.new hA)
      clear hla hg hco
      go_upto_region 5 with (first
        | (go_at_call 39; (with_reducible refine (HG.out _).mono ?_); rintro e2 w2 ⟨rfl, hu2⟩; dsimp only))
      have HN2 := Bx.mk ((HN.out.trans hA).trans hu2)
      have HA2 := Bx.mk (hA.trans hu2)
      have HCO2 := Bx.mk (HCO.out.new hu2)
      replace n0 := hu2.cell n0 (fun q => q)
      replace n1 := hu2.cell n1 (fun q => q)
      obtain ⟨bad, hbad⟩ : ∃ b, decide (g < 1 ∨ 4194303 < g ∨ (0 < j ∧ i ≤ last)) = b := ⟨_, rfl⟩
      have HBad := Bx.mk hbad
      have HBad2 := Bx.mk (show decide (i ≤ last ∨ g < 1 ∨ 4194303 < g) = bad by
        rw [← hbad, decide_eq_decide]
        by_cases hj0 : j = 0
        · have := HL0.out hj0; omega
        · omega)
      clear hbad hA
      go_cut [39] (fun v wx => v = .bool bad ∧ Bx (New w2 wx))
      case first =>
        by_cases q1 : g < 1
        · have q1I : (g : Int) < 1 := by omega
          have hb := HBad.out
          rw [decide_eq_true (Or.inl q1)] at hb
          subst hb
          clear q1
          go_quiet (fail)
          repeat' (first | fail | go_values | go_skip | go_guarded | go_step | go_upon | go_back)
          go_meet
          case rel => exact ⟨rfl, ⟨(Upd.refl _ _).drewN _⟩⟩
        · have q1I : ¬ (g : Int) < 1 := by omega
          by_cases q2 : 4194303 < g
          · have q2I : (g : Int) > 4194303 := by omega
            have q2J : (4194303 : Int) < (g : Int) := by omega
            have hb := HBad.out
            rw [decide_eq_true (Or.inr (Or.inl q2))] at hb
            subst hb
            clear q1 q2
            go_quiet (fail)
            repeat' (first | fail | go_values | go_skip | go_guarded | go_step | go_upon | go_back)
            go_meet
            case rel => exact ⟨rfl, ⟨(Upd.refl _ _).drewN _⟩⟩
          · have q2I : ¬ (g : Int) > 4194303 := by omega
            have q2J : ¬ (4194303 : Int) < (g : Int) := by omega
            by_cases q3 : 0 < j
            · have q3I : (0 : Int) < (j : Int) := by omega
              have q3d : decide ((0 : Int) < (j : Int)) = true := decide_eq_true q3I
              have q3e : decide (0 < j) = true := decide_eq_true q3
              have hp := HA2.out.cell (HPB.out q3) (fun q => q)
              obtain ⟨jp, hjp⟩ : ∃ x, j - 1 = x := ⟨_, rfl⟩
              rw [hjp] at hp
              have wj : IntKind.i64.wrap ((j : Int) - 1) = (jp : Int) := by rw [IntKind.wrap_i64]; omega
              have hjpn : (jp : Int) < (n : Int) := by omega
              clear hjp
              by_cases q4 : i ≤ last
              · have q4I : (i : Int) ≤ (last : Int) := by omega
                have hb := HBad.out
                rw [decide_eq_true (Or.inr (Or.inr ⟨q3, q4⟩))] at hb
                subst hb
                clear q1 q2 q4
                go_quiet (fail)
                repeat' (first | fail | go_values | go_skip | go_guarded | go_step | go_upon | go_back)
                go_meet
                case rel => exact ⟨rfl, ⟨(Upd.refl _ _).drewN _⟩⟩
              · have q4I : ¬ (i : Int) ≤ (last : Int) := by omega
                have hb := HBad.out
                rw [decide_eq_false (by omega)] at hb
                subst hb
                clear q1 q2 q4
                go_quiet (fail)
                repeat' (first | fail | go_values | go_skip | go_guarded | go_step | go_upon | go_back)
                go_meet
                case rel => exact ⟨rfl, ⟨(Upd.refl _ _).drewN _⟩⟩
            · have q3I : ¬ (0 : Int) < (j : Int) := by omega
              have q3d : decide ((0 : Int) < (j : Int)) = false := decide_eq_false q3I
              have q3e : decide (0 < j) = false := decide_eq_false q3
              have hb := HBad.out
              rw [decide_eq_false (by omega)] at hb
              subst hb
              clear q1 q2
              go_quiet (fail)
              repeat' (first | fail | go_values | go_skip | go_guarded | go_step | go_upon | go_back)
              go_meet
              case rel => exact ⟨rfl, ⟨(Upd.refl _ _).drewN _⟩⟩
      case rest =>
        obtain ⟨rfl, HQ⟩ := hcut
        rename World => wq
        have HNq := Bx.mk (HN2.out.trans HQ.out)
        have HCOq := Bx.mk (HCO2.out.new HQ.out)
        replace n0 := HQ.out.cell n0 (fun q => q)
        replace n1 := HQ.out.cell n1 (fun q => q)
        have HNj := Bx.mk (HN.out)
        cases bad with
        | true =>
          have HE := Bx.mk (show frm 0 L = 4 by rw [HS.out, if_pos (of_decide_eq_true HBad2.out)])
          repeat' (first | fail | go_values | go_skip | go_guarded | go_step | go_upon | go_back)
          go_returns
          exact ⟨by rw [HE.out]; rfl, HNq.out⟩
        | false =>
          have HS2 := Bx.mk (show frm 0 L = if lsE (-1) l ≠ 0 then lsE (-1) l else if secr l = true then 4 else frm i (L.drop (j + 1)) by rw [HS.out, if_neg (of_decide_eq_false HBad2.out)])
          have HLI := Bx.mk (refList_any s0 s1 s2 l wq HCOq.out.len (by have := HCOq.out.len; have := hq.len; dsimp only at *; omega) HCOq.out.rd hq.k)
          have HLL := Bx.mk (show l.length = s1 from HCOq.out.len)
          have HKK := Bx.mk hq.k
          have hs1 : s1 ≤ 1000 := by have := HLL.out; have := hq.len; dsimp only at *; omega
          clear HS HBad HBad2 HG
          generalize lsE (-1) l = E at *
          by_cases hE : E = 0
          · subst hE
            have HS3 := Bx.mk (show frm 0 L = if secr l = true then 4 else frm i (L.drop (j + 1)) by rw [HS2.out, if_neg (by simp)])
            go_upto_block 2 with (first
              | (go_at_call 40; (with_reducible refine (HLI.out).mono ?_); rintro e3 w3 ⟨rfl, hu3⟩; have n1' := hu3.cell n1 (fun q => q); dsimp only))
            have HN3 := Bx.mk (HNq.out.trans hu3)
            have HCO3 := Bx.mk (HCOq.out.new hu3)
            clear hu3 HLI n0 n1
            repeat' (first | fail | go_values | go_skip | go_guarded | go_step | go_upon | go_back)
            go_loopw [49] (fun mv wr => ∃ (m : Nat), m ≤ s1 ∧ mv = .int .i64 m ∧ Bx (secr (l.take m) = false) ∧ Bx (New w3 wr)) (fun mv _ => s1 - (intOf mv).toNat)
            case atStart => exact ⟨0, by omega, rfl, ⟨rfl⟩, ⟨Upd.refl _ _⟩⟩
            case round =>
              obtain ⟨m, hm, rfl, HY, HNm⟩ := hrel
              by_cases hlm : m < s1
              · have hmi : (m : Int) < (s1 : Int) := by omega
                have hmL : m < l.length := by rw [HLL.out]; exact hlm
                obtain ⟨c0, co, rfl, t0, t1, t2, t3⟩ := (HCO3.out.new HNm.out).rd.four m hmL
                have HSt := Bx.mk (secr_take l m hmL)
                have HTt := Bx.mk (show (!told l[m].k) = true → secr l = true from fun h => List.any_eq_true.2 ⟨l[m], List.getElem_mem hmL, h⟩)
                have hkq := HKK.out l[m] (List.getElem_mem hmL)
                generalize l[m] = q at *
                obtain ⟨k, a, b, c'⟩ := q
                simp only at t0 t1 t2 t3 HSt HTt hkq
                have HT := Bx.mk (fun w => refTold_any k w hkq)
                obtain ⟨u0, _, _, _⟩ := c4_new wr k a b c'
                have hbx := (Upd.refl Nowhere wr).alloc (.cells #[.int .u8 k, .int .i32 a, .int .i32 b, .int .i32 c'] 46)
                cases hT : told k with
                | true =>
                  rw [hT] at HT HSt
                  have HY2 := Bx.mk (show secr (l.take (m + 1)) = false by rw [HSt.out, HY.out]; rfl)
                  clear HTt HSt hT
                  repeat' (first | (go_at_call 41; (with_reducible refine (HT.out _).mono ?_); rintro e4 w4 ⟨rfl, hu4⟩; dsimp only) | go_values | go_skip | go_guarded | go_step | go_upon | go_back)
                  go_roundw
                  case rel => exact ⟨m + 1, by omega, by go_num, HY2, ⟨(HNm.out.trans hbx).trans hu4⟩⟩
                  case measure => simp [intOf]; omega
                | false =>
                  rw [hT] at HT HTt
                  have HE := Bx.mk (show frm 0 L = 4 by rw [HS3.out, if_pos (HTt.out rfl)])
                  clear HTt HSt hT
                  repeat' (first | (go_at_call 41; (with_reducible refine (HT.out _).mono ?_); rintro e4 w4 ⟨rfl, hu4⟩; dsimp only) | go_values | go_skip | go_guarded | go_step | go_upon | go_back)
                  go_returns
                  exact ⟨by rw [HE.out]; rfl, ((HN3.out.trans HNm.out).trans hbx).trans hu4⟩
              · obtain rfl : m = s1 := by omega
                have HSF := Bx.mk (show secr l = false by have := HY.out; rwa [List.take_of_length_le (by rw [HLL.out]; exact Nat.le_refl _)] at this)
                have HJ2 := Bx.mk (show frm 0 L = frm (lastI L (j + 1)) (L.drop (j + 1)) by rw [HS3.out, if_neg (by rw [HSF.out]; exact Bool.false_ne_true), HLS.out])
                repeat' (first | fail | go_values | go_skip | go_guarded | go_step | go_upon | go_back)
                go_roundw
                case rel => exact ⟨j + 1, by omega, by go_num, HJ2, ⟨HN3.out.trans HNm.out⟩⟩
                case measure => simp [intOf]; omega
          · have HE := Bx.mk (show frm 0 L = E by rw [HS2.out, if_pos hE])
            repeat' (first | (go_at_call 40; (with_reducible refine (HLI.out).mono ?_); rintro e3 w3 ⟨rfl, hu3⟩; dsimp only) | go_values | go_skip | go_guarded | go_step | go_upon | go_back)
            go_returns
            exact ⟨by rw [HE.out]; rfl, HNq.out.trans hu3⟩
    · obtain rfl : j = n := by omega
      have HE := Bx.mk (show frm 0 L = 0 by rw [HJ.out, List.drop_of_length_le (by rw [HL.out]; exact Nat.le_refl _)]; rfl)
      repeat' (first | fail | go_values | go_skip | go_guarded | go_step | go_upon | go_back)
      go_returns
      exact ⟨by rw [HE.out]; rfl, HN.out⟩
end Go.Proofs.Ytdnkdmdmekdfkaa
