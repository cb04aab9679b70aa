/- The reference's form: the walk. -/
import Derived.Test.YtdnkdmdmekdfkaaDf2
import Derived.Deep.DeepCutAuto
import Derived.Deep.CutBlock
import Derived.Test.YtdnkdmdmekdfkaaDf17
namespace Go.Proofs.Ytdnkdmdmekdfkaa
open Go.RowKit
theorem newEnt (w : World) (i : Nat) (s0 : Option Addr) (s1 s2 : Nat) : New w (w.alloc (.cells #[.int .u32 i, .slice s0 s1 s2] 43)) := (Upd.refl _ w).alloc _
def lastI (L : List Et) (j : Nat) : Nat := if j = 0 then 0 else (L[j - 1]?.map (fun x => x.1)).getD 0
theorem lastI_succ (L : List Et) (j : Nat) (h : j < L.length) : lastI L (j + 1) = L[j].1 := by
  unfold lastI; rw [if_neg (by omega), Nat.add_sub_cancel, List.getElem?_eq_getElem h]; rfl
theorem frm_step (last : Nat) (x : Et) (r : List Et) : frm last (x :: r) = if (x.1 ≤ last ∨ x.1 / 1024 < 1 ∨ 4194303 < x.1 / 1024) then 4 else if lsE (-1) x.2 ≠ 0 then lsE (-1) x.2 else if secr x.2 = true then 4 else frm x.1 r := by
  show (if x.1 ≤ last then (4 : Int) else if oneE x ≠ 0 then oneE x else if secr x.2 = true then 4 else frm x.1 r) = _
  by_cases h1 : x.1 ≤ last
  · rw [if_pos h1, if_pos (.inl h1)]
  · by_cases h2 : x.1 / 1024 < 1 ∨ 4194303 < x.1 / 1024
    · have e2 : oneE x = 4 := by unfold oneE; rw [if_pos h2]
      rw [if_neg h1, if_pos (by rw [e2]; simp), e2, if_pos (.inr h2)]
    · have e2 : oneE x = lsE (-1) x.2 := by unfold oneE; rw [if_neg h2]
      have hb : ¬ (x.1 ≤ last ∨ x.1 / 1024 < 1 ∨ 4194303 < x.1 / 1024) := fun h => h.elim h1 h2
      by_cases h3 : lsE (-1) x.2 = 0
      · rw [if_neg h1, if_neg (by rw [e2]; simp [h3]), if_neg hb, if_neg (show ¬ lsE (-1) x.2 ≠ 0 by simp [h3])]
      · rw [if_neg h1, if_pos (by rw [e2]; exact h3), e2, if_neg hb, if_pos h3]
set_option maxRecDepth 4000 in
set_option maxHeartbeats 8000000 in
theorem refForm_any (A : Option Addr) (n c : Nat) (L : List Et) (w : World) (h : EnL w A n L) (hn : n ≤ 1000) (hs : Sm L) : Calls Try.prog 17 #[.slice A n c] w fun e w' => e = .returned (.int .i64 (frm 0 L)) ∧ New w w' := by
  have HL := Bx.mk h.len
  go_enter Try.func17, Try.ntmps17
  repeat' (first | fail | go_values | go_skip | go_guarded | go_step | go_upon | go_back)
  go_loopw [11] (fun iv wr => ∃ (j : Nat), j ≤ n ∧ iv = .int .i64 j ∧ Bx (frm 0 L = frm (lastI L j) (L.drop j)) ∧ Bx (New w wr)) (fun iv _ => n - (intOf iv).toNat)
  case atStart => exact ⟨0, by omega, rfl, ⟨rfl⟩, ⟨Upd.refl _ _⟩⟩
  case round =>
    obtain ⟨j, hj, rfl, HJ, HN⟩ := hrel
    by_cases hlt : j < n
    · have hji : (j : Int) < (n : Int) := by omega
      have hjL : j < L.length := by rw [HL.out]; exact hlt
      obtain ⟨b0, off, s0, s1, s2, rfl, h0, h1, hco⟩ := (h.new HN.out).el j hjL
      have HP : 0 < j → wr.cell? ⟨b0, off + (j - 1) * 2, none⟩ = some (.int .u32 (lastI L j)) := fun hj0 => by
        obtain ⟨b', off', _, _, _, e, g, _⟩ := (h.new HN.out).el (j - 1) (by omega)
        simp only [Option.some.injEq, Addr.mk.injEq, and_true] at e
        obtain ⟨rfl, rfl⟩ := e
        rw [g]
        have : lastI L (j - 1 + 1) = L[j - 1].1 := lastI_succ L (j - 1) (by omega)
        rw [show j - 1 + 1 = j by omega] at this
        rw [this]
      have HPB := Bx.mk HP
      clear HP
      have HLS := Bx.mk (lastI_succ L j hjL)
      have HD := Bx.mk (show L.drop j = L[j] :: L.drop (j + 1) from List.drop_eq_getElem_cons hjL)
      have hq := hs L[j] (List.getElem_mem hjL)
      have hl0 : j = 0 → lastI L j = 0 := fun e => by rw [e]; rfl
      have HL0 := Bx.mk hl0
      clear hl0
      generalize L[j] = x at *
      obtain ⟨i, l⟩ := x
      dsimp only at h0 h1 hco HLS
      generalize hla : lastI L j = last at *
      have HS := Bx.mk (show frm 0 L = if (i ≤ last ∨ i / 1024 < 1 ∨ 4194303 < i / 1024) then 4 else if lsE (-1) l ≠ 0 then lsE (-1) l else if secr l = true then 4 else frm i (L.drop (j + 1)) by rw [HJ.out, HD.out]; exact frm_step _ _ _)
      obtain ⟨g, hg⟩ : ∃ g, i / 1024 = g := ⟨_, rfl⟩
      rw [hg] at HS
      have hgi : g ≤ i ∧ (i = 0 → g = 0) := by omega
      have HG := Bx.mk (fun w => refGen_any i g hg w hq.id)
      have hA := newEnt wr i s0 s1 s2
      obtain ⟨n0, n1⟩ := e2_new wr i s0 s1 s2
      have HCO := Bx.mk (hco.new hA)
      clear hla hg hco
      go_upto_region 5 with (first
        | (go_at_call 39; (with_reducible refine (HG.out _).mono ?_); rintro e2 w2 ⟨rfl, hu2⟩; dsimp only))
      have HN2 := Bx.mk ((HN.out.trans hA).trans hu2)
      have HA2 := Bx.mk (hA.trans hu2)
      have HCO2 := Bx.mk (HCO.out.new hu2)
      replace n0 := hu2.cell n0 (fun q => q)
      replace n1 := hu2.cell n1 (fun q => q)
      obtain ⟨bad, hbad⟩ : ∃ b, decide (g < 1 ∨ 4194303 < g ∨ (0 < j ∧ i ≤ last)) = b := ⟨_, rfl⟩
      have HBad := Bx.mk hbad
      have HBad2 := Bx.mk (show decide (i ≤ last ∨ g < 1 ∨ 4194303 < g) = bad by
        rw [← hbad, decide_eq_decide]
        by_cases hj0 : j = 0
        · have := HL0.out hj0; omega
        · omega)
      clear hbad hA
      go_cut [39] (fun v wx => v = .bool bad ∧ Bx (New w2 wx))
      case first =>
        by_cases q1 : g < 1
        · have q1I : (g : Int) < 1 := by omega
          have hb := HBad.out
          rw [decide_eq_true (Or.inl q1)] at hb
          subst hb
          clear q1
          go_quiet (fail)
          repeat' (first | fail | go_values | go_skip | go_guarded | go_step | go_upon | go_back)
          go_meet
          case rel => exact ⟨rfl, ⟨(Upd.refl _ _).drewN _⟩⟩
        · have q1I : ¬ (g : Int) < 1 := by omega
          by_cases q2 : 4194303 < g
          · have q2I : (g : Int) > 4194303 := by omega
            have q2J : (4194303 : Int) < (g : Int) := by omega
            have hb := HBad.out
            rw [decide_eq_true (Or.inr (Or.inl q2))] at hb
            subst hb
            clear q1 q2
            go_quiet (fail)
            repeat' (first | fail | go_values | go_skip | go_guarded | go_step | go_upon | go_back)
            go_meet
            case rel => exact ⟨rfl, ⟨(Upd.refl _ _).drewN _⟩⟩
          · have q2I : ¬ (g : Int) > 4194303 := by omega
            have q2J : ¬ (4194303 : Int) < (g : Int) := by omega
            by_cases q3 : 0 < j
            · have q3I : (0 : Int) < (j : Int) := by omega
              have q3d : decide ((0 : Int) < (j : Int)) = true := decide_eq_true q3I
              have q3e : decide (0 < j) = true := decide_eq_true q3
              have hp := HA2.out.cell (HPB.out q3) (fun q => q)
              obtain ⟨jp, hjp⟩ : ∃ x, j - 1 = x := ⟨_, rfl⟩
              rw [hjp] at hp
              have wj : IntKind.i64.wrap ((j : Int) - 1) = (jp : Int) := by rw [IntKind.wrap_i64]; omega
              have hjpn : (jp : Int) < (n : Int) := by omega
              clear hjp
              by_cases q4 : i ≤ last
              · have q4I : (i : Int) ≤ (last : Int) := by omega
                have hb := HBad.out
                rw [decide_eq_true (Or.inr (Or.inr ⟨q3, q4⟩))] at hb
                subst hb
                clear q1 q2 q4
                go_quiet (fail)
                repeat' (first | fail | go_values | go_skip | go_guarded | go_step | go_upon | go_back)
                go_meet
                case rel => exact ⟨rfl, ⟨(Upd.refl _ _).drewN _⟩⟩
              · have q4I : ¬ (i : Int) ≤ (last : Int) := by omega
                have hb := HBad.out
                rw [decide_eq_false (by omega)] at hb
                subst hb
                clear q1 q2 q4
                go_quiet (fail)
                repeat' (first | fail | go_values | go_skip | go_guarded | go_step | go_upon | go_back)
                go_meet
                case rel => exact ⟨rfl, ⟨(Upd.refl _ _).drewN _⟩⟩
            · have q3I : ¬ (0 : Int) < (j : Int) := by omega
              have q3d : decide ((0 : Int) < (j : Int)) = false := decide_eq_false q3I
              have q3e : decide (0 < j) = false := decide_eq_false q3
              have hb := HBad.out
              rw [decide_eq_false (by omega)] at hb
              subst hb
              clear q1 q2
              go_quiet (fail)
              repeat' (first | fail | go_values | go_skip | go_guarded | go_step | go_upon | go_back)
              go_meet
              case rel => exact ⟨rfl, ⟨(Upd.refl _ _).drewN _⟩⟩
      case rest =>
        obtain ⟨rfl, HQ⟩ := hcut
        rename World => wq
        have HNq := Bx.mk (HN2.out.trans HQ.out)
        have HCOq := Bx.mk (HCO2.out.new HQ.out)
        replace n0 := HQ.out.cell n0 (fun q => q)
        replace n1 := HQ.out.cell n1 (fun q => q)
        have HNj := Bx.mk (HN.out)
        cases bad with
        | true =>
          have HE := Bx.mk (show frm 0 L = 4 by rw [HS.out, if_pos (of_decide_eq_true HBad2.out)])
          repeat' (first | fail | go_values | go_skip | go_guarded | go_step | go_upon | go_back)
          go_returns
          exact ⟨by rw [HE.out]; rfl, HNq.out⟩
        | false =>
          have HS2 := Bx.mk (show frm 0 L = if lsE (-1) l ≠ 0 then lsE (-1) l else if secr l = true then 4 else frm i (L.drop (j + 1)) by rw [HS.out, if_neg (of_decide_eq_false HBad2.out)])
          have HLI := Bx.mk (refList_any s0 s1 s2 l wq HCOq.out.len (by have := HCOq.out.len; have := hq.len; dsimp only at *; omega) HCOq.out.rd hq.k)
          have HLL := Bx.mk (show l.length = s1 from HCOq.out.len)
          have HKK := Bx.mk hq.k
          have hs1 : s1 ≤ 1000 := by have := HLL.out; have := hq.len; dsimp only at *; omega
          clear HS HBad HBad2 HG
          generalize lsE (-1) l = E at *
          by_cases hE : E = 0
          · subst hE
            have HS3 := Bx.mk (show frm 0 L = if secr l = true then 4 else frm i (L.drop (j + 1)) by rw [HS2.out, if_neg (by simp)])
            go_upto_block 2 with (first
              | (go_at_call 40; (with_reducible refine (HLI.out).mono ?_); rintro e3 w3 ⟨rfl, hu3⟩; have n1' := hu3.cell n1 (fun q => q); dsimp only))
            have HN3 := Bx.mk (HNq.out.trans hu3)
            have HCO3 := Bx.mk (HCOq.out.new hu3)
            clear hu3 HLI n0 n1
            repeat' (first | fail | go_values | go_skip | go_guarded | go_step | go_upon | go_back)
            go_loopw [49] (fun mv wr => ∃ (m : Nat), m ≤ s1 ∧ mv = .int .i64 m ∧ Bx (secr (l.take m) = false) ∧ Bx (New w3 wr)) (fun mv _ => s1 - (intOf mv).toNat)
            case atStart => exact ⟨0, by omega, rfl, ⟨rfl⟩, ⟨Upd.refl _ _⟩⟩
            case round =>
              obtain ⟨m, hm, rfl, HY, HNm⟩ := hrel
              by_cases hlm : m < s1
              · have hmi : (m : Int) < (s1 : Int) := by omega
                have hmL : m < l.length := by rw [HLL.out]; exact hlm
                obtain ⟨c0, co, rfl, t0, t1, t2, t3⟩ := (HCO3.out.new HNm.out).rd.four m hmL
                have HSt := Bx.mk (secr_take l m hmL)
                have HTt := Bx.mk (show (!told l[m].k) = true → secr l = true from fun h => List.any_eq_true.2 ⟨l[m], List.getElem_mem hmL, h⟩)
                have hkq := HKK.out l[m] (List.getElem_mem hmL)
                generalize l[m] = q at *
                obtain ⟨k, a, b, c'⟩ := q
                simp only at t0 t1 t2 t3 HSt HTt hkq
                have HT := Bx.mk (fun w => refTold_any k w hkq)
                obtain ⟨u0, _, _, _⟩ := c4_new wr k a b c'
                have hbx := (Upd.refl Nowhere wr).alloc (.cells #[.int .u8 k, .int .i32 a, .int .i32 b, .int .i32 c'] 46)
                cases hT : told k with
                | true =>
                  rw [hT] at HT HSt
                  have HY2 := Bx.mk (show secr (l.take (m + 1)) = false by rw [HSt.out, HY.out]; rfl)
                  clear HTt HSt hT
                  repeat' (first | (go_at_call 41; (with_reducible refine (HT.out _).mono ?_); rintro e4 w4 ⟨rfl, hu4⟩; dsimp only) | go_values | go_skip | go_guarded | go_step | go_upon | go_back)
                  go_roundw
                  case rel => exact ⟨m + 1, by omega, by go_num, HY2, ⟨(HNm.out.trans hbx).trans hu4⟩⟩
                  case measure => simp [intOf]; omega
                | false =>
                  rw [hT] at HT HTt
                  have HE := Bx.mk (show frm 0 L = 4 by rw [HS3.out, if_pos (HTt.out rfl)])
                  clear HTt HSt hT
                  repeat' (first | (go_at_call 41; (with_reducible refine (HT.out _).mono ?_); rintro e4 w4 ⟨rfl, hu4⟩; dsimp only) | go_values | go_skip | go_guarded | go_step | go_upon | go_back)
                  go_returns
                  exact ⟨by rw [HE.out]; rfl, ((HN3.out.trans HNm.out).trans hbx).trans hu4⟩
              · obtain rfl : m = s1 := by omega
                have HSF := Bx.mk (show secr l = false by have := HY.out; rwa [List.take_of_length_le (by rw [HLL.out]; exact Nat.le_refl _)] at this)
                have HJ2 := Bx.mk (show frm 0 L = frm (lastI L (j + 1)) (L.drop (j + 1)) by rw [HS3.out, if_neg (by rw [HSF.out]; exact Bool.false_ne_true), HLS.out])
                repeat' (first | fail | go_values | go_skip | go_guarded | go_step | go_upon | go_back)
                go_roundw
                case rel => exact ⟨j + 1, by omega, by go_num, HJ2, ⟨HN3.out.trans HNm.out⟩⟩
                case measure => simp [intOf]; omega
          · have HE := Bx.mk (show frm 0 L = E by rw [HS2.out, if_pos hE])
            repeat' (first | (go_at_call 40; (with_reducible refine (HLI.out).mono ?_); rintro e3 w3 ⟨rfl, hu3⟩; dsimp only) | go_values | go_skip | go_guarded | go_step | go_upon | go_back)
            go_returns
            exact ⟨by rw [HE.out]; rfl, HNq.out.trans hu3⟩
    · obtain rfl : j = n := by omega
      have HE := Bx.mk (show frm 0 L = 0 by rw [HJ.out, List.drop_of_length_le (by rw [HL.out]; exact Nat.le_refl _)]; rfl)
      repeat' (first | fail | go_values | go_skip | go_guarded | go_step | go_upon | go_back)
      go_returns
      exact ⟨by rw [HE.out]; rfl, HN.out⟩
end Go.Proofs.Ytdnkdmdmekdfkaa
namespace Go.Proofs.Ytdnkdmdmekdfkaa
open Go.RowKit
def Bd (L : List Et) : Prop := ∀ x ∈ L, x.1 < 4294967296 ∧ ∀ q ∈ x.2, q.k < 256
theorem sumL_mem {L : List Et} {x : Et} (h : x ∈ L) : x.2.length ≤ sumL L := by
  induction L with
  | nil => cases h
  | cons y L ih =>
    unfold sumL at ih ⊢
    rw [List.map_cons, List.sum_cons]
    rcases List.mem_cons.1 h with h | h
    · rw [h]; omega
    · have := ih h; omega
structure Ok (L : List Et) : Prop where
  f : frm 0 L = 0
  n : L.length ≤ 400
  l : ∀ x ∈ L, x.2.length ≤ 400
  b : Bd L
theorem few_ok {L : List Et} (hb : Bd L) (hf : few L = true) (h : frm 0 L = 0) : Ok L := by
  have hf := of_decide_eq_true hf
  exact ⟨h, by omega, fun x hx => by have := sumL_mem hx; omega, hb⟩
theorem few_sm {L : List Et} (hb : Bd L) (hf : few L = true) : Sm L ∧ L.length ≤ 400 := by
  have hf := of_decide_eq_true hf
  exact ⟨fun x hx => ⟨(hb x hx).1, by have := sumL_mem hx; omega, (hb x hx).2⟩, by omega⟩
theorem Ok.sm {L : List Et} (h : Ok L) : Sm L := fun x hx => ⟨(h.b x hx).1, Nat.le_trans (h.l x hx) (by omega), (h.b x hx).2⟩
theorem Ok.wf {L : List Et} (h : Ok L) : WfL L := (frm_wf L 0 h.f).1
theorem Ok.smP {L M : List Et} (hL : Ok L) (hM : Ok M) : SmP L (mrg L M) := by
  obtain ⟨h1, h2, h3, h4, h5⟩ := mrg_small L M
  have := hL.n
  have := hM.n
  refine ⟨by omega, fun x hx => (hL.b x hx).1, fun x hx => Nat.le_trans (hL.l x hx) (by omega), fun x hx => (hL.b x hx).2, by omega, by omega, fun x hx => hM.sm x (h4 x hx), by omega, fun c hc => ?_⟩
  obtain ⟨x, hx, n, hn, rfl⟩ := h5 c hc
  refine ⟨Nat.le_trans (List.length_filter_le _ _) (hM.l n hn), Nat.le_trans (List.length_filter_le _ _) (hM.l n hn), fun q hq => (hM.b n hn).2 q (List.mem_filter.1 hq).1, fun q hq => (hM.b n hn).2 q (List.mem_filter.1 hq).1⟩
theorem diffE_ok {L M : List Et} (hL : frm 0 L = 0) (hM : frm 0 M = 0) : diffE L M = 0 ∧ diffD L M = mrg L M := by
  have h : diffE L M = 0 := by unfold diffE; rw [if_neg (by simp [hL])]; exact hM
  exact ⟨h, by unfold diffD; rw [if_pos h]⟩
/-- Diff of two snapshots -/
theorem Diff_ok {A1 : Option Addr} {n1 p1 : Nat} {L1 : List Et} {A2 : Option Addr} {n2 p2 : Nat} {L2 : List Et} {w : World} (h1 : EnL w A1 n1 L1) (h2 : EnL w A2 n2 L2) (o1 : Ok L1) (o2 : Ok L2) (D : Dl) (hD : mrg L1 L2 = D) :
    Calls Try.prog 18 #[.slice A1 n1 p1, .slice A2 n2 p2] w fun e w' => (∃ (g0 : Option Addr) (g1 g2 : Nat) (c0 : Option Addr) (c1 c2 : Nat) (k0 : Option Addr) (k1 k2 : Nat), e = .returned (.tuple #[.agg #[.slice g0 g1 g2, .slice c0 c1 c2, .slice k0 k1 k2], .int .i64 0]) ∧ DlR w' g0 g1 g2 c0 c1 k0 k1 D) ∧ New w w' := by
  have := o1.n
  have := o2.n
  have e1 := h1.len
  have e2 := h2.len
  refine (Diff_any A1 n1 p1 L1 A2 n2 p2 L2 w h1 h2 (by omega) (by omega) o1.sm o2.sm).mono ?_
  rintro e w' ⟨⟨g, c, h, he, hd⟩, hu⟩
  rw [(diffE_ok o1.f o2.f).1] at he
  rw [(diffE_ok o1.f o2.f).2, hD] at hd
  obtain ⟨g0, g2, c0, c2, k0, k2, rfl, rfl, rfl, hr⟩ := hd.r
  exact ⟨⟨g0, _, g2, c0, _, c2, k0, _, k2, he, hr⟩, hu⟩
/-- Patch of a snapshot by its own delta -/
theorem Patch_ok {A : Option Addr} {n p : Nat} {L M : List Et} {g0 : Option Addr} {g1 g2 : Nat} {c0 : Option Addr} {c1 c2 : Nat} {h0 : Option Addr} {h1 h2 : Nat} {D : Dl} {w : World} (hx : EnL w A n L) (hd : DlR w g0 g1 g2 c0 c1 h0 h1 D) (o1 : Ok L) (o2 : Ok M) (hD : mrg L M = D) :
    Calls Try.prog 13 #[.slice A n p, .agg #[.slice g0 g1 g2, .slice c0 c1 c2, .slice h0 h1 h2]] w fun e w' => (∃ (t0 : Option Addr) (t1 t2 : Nat), e = .returned (.tuple #[.slice t0 t1 t2, .int .i64 0]) ∧ EnL w' t0 t1 M) ∧ New w w' := by
  subst hD
  refine (Patch_any A n p L g0 g1 g2 c0 c1 c2 h0 h1 h2 (mrg L M) w hx hd (o1.smP o2) o1.f).mono ?_
  rintro e w' ⟨⟨N, hC, h⟩, hu⟩
  obtain rfl := patch_uniq o1.wf o2.wf hC
  rcases h with ⟨⟨t0, t1, t2⟩, he, hen, _⟩ | ⟨_, hno⟩
  · obtain ⟨A', c', e', hl⟩ := hen.enl
    simp only [Value.slice.injEq] at e'
    obtain ⟨rfl, rfl, rfl⟩ := e'
    exact ⟨⟨_, _, _, he, hl⟩, hu⟩
  · exact absurd ⟨o2.f, rfl⟩ hno
theorem Twins_ok {A : Option Addr} {n c : Nat} {L : List Et} {w : World} (h : EnL w A n L) (hn : L.length ≤ 400) (hs : Sm L) : Calls Try.prog 11 #[.slice A n c] w fun e w' => (∃ (t0 : Option Addr) (t1 t2 : Nat), e = .returned (.slice t0 t1 t2) ∧ EnL w' t0 t1 L) ∧ New w w' := by
  have e1 := h.len
  refine (Twins_any A n c L w h (by omega) (fun x hx => (hs x hx).len)).mono ?_
  rintro e w' ⟨v, he, hen, hu⟩
  obtain ⟨A', c', rfl, hl⟩ := hen.enl
  exact ⟨⟨_, _, _, he, hl⟩, hu⟩
end Go.Proofs.Ytdnkdmdmekdfkaa
