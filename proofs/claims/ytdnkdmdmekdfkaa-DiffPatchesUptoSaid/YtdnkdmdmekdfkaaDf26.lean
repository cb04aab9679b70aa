/- Patch where it is no snapshot; Few and Twin of deltas: walks. -/
import Derived.Test.YtdnkdmdmekdfkaaDf19
import Derived.Test.YtdnkdmdmekdfkaaDfP5
import Derived.Test.YtdnkdmdmekdfkaaDf23
namespace Go.Proofs.Ytdnkdmdmekdfkaa
open Go.RowKit
set_option maxRecDepth 4000 in
set_option maxHeartbeats 4000000 in
theorem Patch_bad (A : Option Addr) (n p : Nat) (L : List Et) (g0 : Option Addr) (g1 g2 : Nat) (c0 : Option Addr) (c1 c2 : Nat) (h0 : Option Addr) (h1 h2 : Nat) (w : World) (hx : EnL w A n L) (hn : n ≤ 1000) (hs : Sm L) (hz : frm 0 L ≠ 0) :
    Calls Try.prog 13 #[.slice A n p, .agg #[.slice g0 g1 g2, .slice c0 c1 c2, .slice h0 h1 h2]] w fun e w' => e = .returned (.tuple #[.slice none 0 0, .int .i64 (frm 0 L)]) ∧ New w w' := by
  have U0 := newA w (.cells #[.slice g0 g1 g2, .slice c0 c1 c2, .slice h0 h1 h2] 26)
  have CF := Bx.mk (Form_any A n p L _ (hx.new U0) hn hs)
  obtain ⟨f, hf⟩ : ∃ f, frm 0 L = f := ⟨_, rfl⟩
  rw [hf] at CF hz ⊢
  have hzb : (f != 0) = true := by rw [bne_iff_ne]; exact hz
  clear hf
  go_enter Try.func13, Try.ntmps13
  repeat' (first | (go_at_call 24; (with_reducible refine (CF.out).mono ?_); rintro e2 w2 ⟨rfl, hu2⟩; dsimp only) | go_values | go_skip | go_guarded | go_step | go_upon | go_back)
  go_returns
  exact ⟨rfl, U0.trans hu2⟩
def sumH (L : List Ch) : Nat := (L.map fun x => x.nw.length + x.st.length).sum
theorem sumH_take (L : List Ch) (j : Nat) (h : j < L.length) : sumH (L.take (j + 1)) = sumH (L.take j) + (L[j].nw.length + L[j].st.length) := by
  unfold sumH
  rw [List.take_succ_eq_append_getElem h, List.map_append, List.sum_append]
  simp
theorem sumH_le (L : List Ch) (j : Nat) : sumH (L.take j) ≤ sumH L := by
  conv => rhs; rw [← List.take_append_drop j L]
  unfold sumH
  rw [List.map_append, List.sum_append]; omega
def fewD (D : Dl) : Bool := decide (D.gone.length + D.chg.length + sumH D.chg ≤ 300) && few D.come
set_option maxRecDepth 4000 in
set_option maxHeartbeats 8000000 in
theorem FewD_any (g0 : Option Addr) (g1 g2 : Nat) (c0 : Option Addr) (c1 c2 : Nat) (h0 : Option Addr) (h1 h2 : Nat) (D : Dl) (w : World) (hd : DlR w g0 g1 g2 c0 c1 h0 h1 D) (hb : g1 + h1 + sumH D.chg ≤ 1000000000) (hc : c1 + sumL D.come ≤ 1000000000) :
    Calls Try.prog 10 #[.agg #[.slice g0 g1 g2, .slice c0 c1 c2, .slice h0 h1 h2]] w fun e w' => e = .returned (.bool (fewD D)) ∧ New w w' := by
  have U0 := newA w (.cells #[.slice g0 g1 g2, .slice c0 c1 c2, .slice h0 h1 h2] 26)
  have hob := heap_alloc_new w (.cells #[.slice g0 g1 g2, .slice c0 c1 c2, .slice h0 h1 h2] 26)
  obtain ⟨z0, z1, z2, _⟩ := o3_at hob
  have HD := Bx.mk (hd.new U0)
  have HU0 := Bx.mk U0
  have HOB := Bx.mk hob
  have HG := Bx.mk (show D.gone.length = g1 from hd.gone.len)
  have HH := Bx.mk hd.chg.len
  have hbb := hb
  obtain ⟨t0, ht0⟩ : ∃ t, g1 + h1 = t := ⟨_, rfl⟩
  have wt0 : IntKind.i64.wrap ((g1 : Int) + (h1 : Int)) = (t0 : Int) := by rw [IntKind.wrap_i64]; omega
  have HT0 := Bx.mk ht0
  clear hd U0 hob
  go_enter Try.func10, Try.ntmps10
  go_upto_block 0 with (fail)
  generalize w.alloc (.cells #[.slice g0 g1 g2, .slice c0 c1 c2, .slice h0 h1 h2] 26) = w1 at *
  generalize w.heap.size = B at *
  repeat' (first | fail | go_values | go_skip | go_guarded | go_step | go_upon | go_back)
  go_loopw [3, 16] (fun s i wr => ∃ (j t : Nat), j ≤ h1 ∧ i = .int .i64 j ∧ s = .int .i64 t ∧ Bx (t = t0 + sumH (D.chg.take j)) ∧ Bx (New w1 wr)) (fun _ i _ => h1 - (intOf i).toNat)
  case atStart => exact ⟨0, t0, Nat.zero_le _, rfl, rfl, ⟨rfl⟩, ⟨Upd.refl _ _⟩⟩
  case round =>
    clear z0 z1 z2
    obtain ⟨j, t, hj, rfl, rfl, HJ, HN⟩ := hrel
    by_cases hlt : j < h1
    · have hji : (j : Int) < (h1 : Int) := by omega
      have hjL : j < D.chg.length := by rw [HH.out]; exact hlt
      obtain ⟨b0, off, s0, s1, s2, u0, u1, u2, rfl, e0, e1, e2, e3, hc1', hc2'⟩ := (HD.out.chg.new HN.out).el j hjL
      have HS := Bx.mk (sumH_take D.chg j hjL)
      have HB := Bx.mk (sumH_le D.chg (j + 1))
      have l1 : D.chg[j].nw.length = s1 := hc1'.len
      have l2 : D.chg[j].st.length = u1 := hc2'.len
      clear hc1' hc2'
      generalize D.chg[j] = q at *
      obtain ⟨i, lo, nq, sq⟩ := q
      dsimp only at e0 e1 e2 e3 HS l1 l2
      generalize (lo.toNat : Int) = LO at *
      have hs2 := HS.out
      have hb2 := HB.out
      have hj2 := HJ.out
      have ht2' := HT0.out
      obtain ⟨a1, ha1⟩ : ∃ x, s1 + u1 = x := ⟨_, rfl⟩
      obtain ⟨a2, ha2⟩ : ∃ x, t + a1 = x := ⟨_, rfl⟩
      have wa : IntKind.i64.wrap ((s1 : Int) + (u1 : Int)) = (a1 : Int) := by rw [IntKind.wrap_i64]; omega
      have wb : IntKind.i64.wrap ((t : Int) + (a1 : Int)) = (a2 : Int) := by rw [IntKind.wrap_i64]; omega
      have HA2 := Bx.mk (show a2 = t0 + sumH (D.chg.take (j + 1)) by omega)
      clear hs2 hb2 hj2 ht2' ha1 ha2 l1 l2
      have hbx := newA wr (.cells #[.int .u32 i, .int .u8 LO, .slice s0 s1 s2, .slice u0 u1 u2] 57)
      obtain ⟨i0, i1, i2, i3, _⟩ := o4_at (heap_alloc_new wr (.cells #[.int .u32 i, .int .u8 LO, .slice s0 s1 s2, .slice u0 u1 u2] 57))
      repeat' (first | fail | go_values | go_skip | go_guarded | go_step | go_upon | go_back)
      go_roundw
      case rel => exact ⟨j + 1, a2, by omega, by go_num, rfl, HA2, ⟨HN.out.trans hbx⟩⟩
      case measure => simp [intOf]; omega
    · obtain rfl : j = h1 := by omega
      have HE := Bx.mk (show fewD D = (decide (t ≤ 300) && few D.come) by
        have e := HJ.out
        have e0 := HT0.out
        rw [List.take_of_length_le (by rw [HH.out]; exact Nat.le_refl _)] at e
        unfold fewD; rw [HG.out, HH.out, e, ← e0])
      obtain ⟨z0, z1, z2, _⟩ := o3_at (HN.out.blk HOB.out (fun q => q))
      by_cases ht : t ≤ 300
      · rw [decide_eq_true ht, Bool.true_and] at HE
        have htI : (t : Int) ≤ 300 := by omega
        have CF := Bx.mk (fun w2 (k : New w1 w2) => Few_any c0 c1 c2 D.come w2 (HD.out.come.new k) hc)
        clear ht
        repeat' (first | (go_at_call 9; (with_reducible refine (CF.out _ HN.out).mono ?_); rintro e2 w2 ⟨rfl, hu2⟩; dsimp only) | go_values | go_skip | go_guarded | go_step | go_upon | go_back)
        go_returns
        exact ⟨by rw [HE.out]; rfl, (HU0.out.trans HN.out).trans hu2⟩
      · rw [decide_eq_false ht, Bool.false_and] at HE
        have htI : ¬ (t : Int) ≤ 300 := by omega
        clear ht
        repeat' (first | fail | go_values | go_skip | go_guarded | go_step | go_upon | go_back)
        go_returns
        exact ⟨by rw [HE.out]; rfl, HU0.out.trans HN.out⟩
end Go.Proofs.Ytdnkdmdmekdfkaa
namespace Go.Proofs.Ytdnkdmdmekdfkaa
open Go.RowKit
theorem lt_of_blk {w : World} {b : Nat} {o : Obj} (h : w.heap[b]? = some o) : b < w.heap.size := (Array.getElem?_eq_some_iff.1 h).1
def woC (l : List C4) (k : Nat) : List C4 := l.filter fun x => decide (x.k ≠ k)
theorem woC_take (l : List C4) (k j : Nat) (h : j < l.length) : woC (l.take (j + 1)) k = woC (l.take j) k ++ (if l[j].k ≠ k then [l[j]] else []) := by
  unfold woC
  rw [List.take_succ_eq_append_getElem h, List.filter_append, List.filter_cons, List.filter_nil]
  by_cases hk : l[j].k = k <;> simp [hk]
theorem woC_len (l : List C4) (k : Nat) : (woC l k).length ≤ l.length := List.length_filter_le _ _
set_option maxRecDepth 4000 in
set_option maxHeartbeats 8000000 in
theorem Without_any (A : Option Addr) (n c : Nat) (l : List C4) (k0 : Nat) (w : World) (h : Co w (A, n, c) l) (hl : l.length ≤ 1000) : Calls Try.prog 35 #[.slice A n c, .int .u8 k0] w fun e w' => (∃ s : Sl, e = .returned (.slice s.1 s.2.1 s.2.2) ∧ Cn w.heap.size w' s (woC l k0)) ∧ New w w' := by
  have HL := Bx.mk h.len
  dsimp only at HL
  have hx := h.rd
  dsimp only at hx
  have hn : n ≤ 1000 := by have := HL.out; omega
  go_enter Try.func35, Try.ntmps35
  repeat' (first | fail | go_values | go_skip | go_guarded | go_step | go_upon | go_back)
  go_loopw [5, 10] (fun o i wr => ∃ (j : Nat) (o0 : Option Addr) (o1 o2 : Nat), j ≤ n ∧ i = .int .i64 j ∧ o = .slice o0 o1 o2 ∧ Bx (Cn w.heap.size wr (o0, o1, o2) (woC (l.take j) k0)) ∧ Bx (New w wr)) (fun _ i _ => n - (intOf i).toNat)
  case atStart => exact ⟨0, none, 0, 0, by omega, rfl, rfl, ⟨World.ownsRow_nil _ _ _ _⟩, ⟨Upd.refl _ _⟩⟩
  case round =>
    obtain ⟨j, o0, o1, o2, hj, rfl, rfl, HO, HN⟩ := hrel
    by_cases hlt : j < n
    · have hjL : j < l.length := by rw [HL.out]; exact hlt
      obtain ⟨b0, off, rfl, h0, h1, h2, h3⟩ := (hx.new HN.out).four j hjL
      have HT := Bx.mk (woC_take l k0 j hjL)
      have hln : (woC (l.take j) k0).length ≤ 1000 := Nat.le_trans (woC_len _ _) (by rw [List.length_take]; omega)
      generalize l[j] = q at *
      obtain ⟨k, a, b, c'⟩ := q
      simp only at h0 h1 h2 h3 HT
      generalize woC (l.take j) k0 = X at *
      obtain ⟨n0, n1, n2, n3⟩ := c4_new wr k a b c'
      have hA := (Upd.refl Nowhere wr).alloc (.cells #[.int .u8 k, .int .i32 a, .int .i32 b, .int .i32 c'] 46)
      by_cases hk : k = k0
      · have hkI : ((k : Int) != (k0 : Int)) = false := by simp [hk]
        have HT2 := Bx.mk (show woC (l.take (j + 1)) k0 = X by rw [HT.out, if_neg (by simp [hk])]; exact List.append_nil _)
        clear HT hk
        repeat' (first | fail | go_values | go_skip | go_guarded | go_step | go_upon | go_back)
        go_roundw
        case rel => exact ⟨j + 1, o0, o1, o2, by omega, by go_num, rfl, ⟨by rw [HT2.out]; exact HO.out.new hA⟩, ⟨HN.out.trans hA⟩⟩
        case measure => simp [intOf]; omega
      · have hkI : ((k : Int) != (k0 : Int)) = true := by rw [bne_iff_ne]; omega
        have HT2 := Bx.mk (show woC (l.take (j + 1)) k0 = X ++ [⟨k, a, b, c'⟩] by rw [HT.out, if_pos hk])
        have hA2 := hA.alloc (.cells #[.int .u8 k, .int .i32 a, .int .i32 b, .int .i32 c'] 46)
        have hNA := HN.out.trans hA2
        have ho1 := HO.out.new hA2
        unfold Cn at ho1
        dsimp only at ho1
        have hs1 := src_oneB (P := Try.prog) (w := wr.alloc (.cells #[.int .u8 k, .int .i32 a, .int .i32 b, .int .i32 c'] 46)) Try.underlying41 [.int .u8 k, .int .i32 a, .int .i32 b, .int .i32 c'] 4 rfl (cc_one ⟨k, a, b, c'⟩) (wr.heap.size + 1) (by simp)
        clear HT hk
        repeat' (first | (at_builtin; refine wpList_appN _ rfl _ _ 41 41 rfl _ 46 (.agg #[.int .u8 0, .int .i32 0, .int .i32 0, .int .i32 0]) 4 16 Try.underlying41 infoC rfl _ _ _ ho1 rfl _ _ _ hs1 rfl _ hNA ?c1 ?c2 ?_; (case c1 => unfold maxLen; omega); (case c2 => omega); intro v5 w5 ho5 hu5 hk5 hv5); (obtain ⟨A5, c5, rfl, _⟩ := own_rd ho5) | go_values | go_skip | go_guarded | go_step | go_upon | go_back)
        go_roundw
        case rel => exact ⟨j + 1, A5, _, c5, by omega, by go_num, rfl, ⟨by rw [HT2.out]; unfold Cn; rw [List.length_append, ccells_snoc]; exact ho5⟩, ⟨hu5⟩⟩
        case measure => simp [intOf]; omega
    · obtain rfl : j = n := by omega
      have HE := Bx.mk (show l.take j = l from List.take_of_length_le (by rw [HL.out]; exact Nat.le_refl _))
      rw [HE.out] at HO
      repeat' (first | fail | go_values | go_skip | go_guarded | go_step | go_upon | go_back)
      go_returns
      exact ⟨⟨(o0, o1, o2), rfl, HO.out⟩, HN.out⟩
/-- as far as With has come -/
theorem wiG_step (d : Bool) (l : List C4) (c : C4) (j : Nat) (h : j < l.length) : wiG d (l.drop j) c = (if (!d && decide (c.k ≤ l[j].k)) = true then [c] else []) ++ ((if l[j].k ≠ c.k then [l[j]] else []) ++ wiG (d || decide (c.k ≤ l[j].k)) (l.drop (j + 1)) c) := by
  rw [List.drop_eq_getElem_cons h, wiG]
set_option maxRecDepth 4000 in
set_option maxHeartbeats 8000000 in
theorem With_any (A : Option Addr) (n c : Nat) (l : List C4) (x : C4) (w : World) (h : Co w (A, n, c) l) (hl : l.length ≤ 1000) : Calls Try.prog 36 #[.slice A n c, .agg #[.int .u8 x.k, .int .i32 x.a, .int .i32 x.b, .int .i32 x.c]] w fun e w' => (∃ s : Sl, e = .returned (.slice s.1 s.2.1 s.2.2) ∧ Cn w.heap.size w' s (wiG false l x)) ∧ New w w' := by
  have HL := Bx.mk h.len
  dsimp only at HL
  have hx := h.rd
  dsimp only at hx
  have hn : n ≤ 1000 := by have := HL.out; omega
  have HWL := Bx.mk (wiG_len false l x)
  obtain ⟨xk, xa, xb, xc⟩ := x
  dsimp only
  have U0 := (Upd.refl Nowhere w).alloc (.cells #[.int .u8 xk, .int .i32 xa, .int .i32 xb, .int .i32 xc] 46)
  have HB := Bx.mk (heap_alloc_new w (.cells #[.int .u8 xk, .int .i32 xa, .int .i32 xb, .int .i32 xc] 46))
  have HU0 := Bx.mk U0
  clear U0
  go_enter Try.func36, Try.ntmps36
  go_upto_block 0 with (fail)
  generalize w.alloc (.cells #[.int .u8 xk, .int .i32 xa, .int .i32 xb, .int .i32 xc] 46) = w1 at *
  have HB1 := Bx.mk HU0.out.size
  have HB2 := Bx.mk (lt_of_blk HB.out)
  generalize hBX : w.heap.size = BX at *
  have HBX := Bx.mk hBX
  clear hBX
  repeat' (first | fail | go_values | go_skip | go_guarded | go_step | go_upon | go_back)
  go_loopw [5, 6, 11] (fun o dn i wr => ∃ (j : Nat) (d : Bool) (o0 : Option Addr) (o1 o2 : Nat) (X : List C4), j ≤ n ∧ i = .int .i64 j ∧ dn = .bool d ∧ o = .slice o0 o1 o2 ∧ X.length ≤ 2 * j ∧ Bx (Cn w1.heap.size wr (o0, o1, o2) X) ∧ Bx (X ++ wiG d (l.drop j) ⟨xk, xa, xb, xc⟩ = wiG false l ⟨xk, xa, xb, xc⟩) ∧ Bx (New w1 wr)) (fun _ _ i _ => n - (intOf i).toNat)
  case atStart => exact ⟨0, false, none, 0, 0, [], by omega, rfl, rfl, rfl, by simp, ⟨World.ownsRow_nil _ _ _ _⟩, ⟨rfl⟩, ⟨Upd.refl _ _⟩⟩
  case round =>
    obtain ⟨j, d, o0, o1, o2, X, hj, rfl, rfl, rfl, hX, HO, HE, HN⟩ := hrel
    by_cases hlt : j < n
    · have hjL : j < l.length := by rw [HL.out]; exact hlt
      obtain ⟨b0, off, rfl, h0, h1, h2, h3⟩ := (hx.new (HU0.out.trans HN.out)).four j hjL
      have HT := Bx.mk (wiG_step d l ⟨xk, xa, xb, xc⟩ j hjL)
      generalize l[j] = q at *
      obtain ⟨k, a, b, c'⟩ := q
      simp only at h0 h1 h2 h3
      dsimp only at HT
      have hA := (Upd.refl Nowhere wr).alloc (.cells #[.int .u8 k, .int .i32 a, .int .i32 b, .int .i32 c'] 46)
      have HBQ := Bx.mk (heap_alloc_new wr (.cells #[.int .u8 k, .int .i32 a, .int .i32 b, .int .i32 c'] 46))
      have HLT := Bx.mk (fun b (hb : (Value.slice o0 o1 o2).ownBlock = some b) => (World.ownsRow.lt HO.out b hb).2)
      have HO1 := Bx.mk (HO.out.new hA)
      have HN1 := Bx.mk (HN.out.trans hA)
      have HSW := Bx.mk hA.size
      go_upto_region 6 with (fail)
      generalize wr.alloc (.cells #[.int .u8 k, .int .i32 a, .int .i32 b, .int .i32 c'] 46) = wv at *
      generalize wr.heap.size = BQ at *
      have HBP := Bx.mk (HN1.out.blk HB.out (fun q => q))
      obtain ⟨p0, p1, p2, p3, _⟩ := o4_at HBP.out
      obtain ⟨n0, n1, n2, n3, _⟩ := o4_at HBQ.out
      clear h0 h1 h2 h3 HO hA HN HSW
      obtain ⟨E, hE⟩ : ∃ E, (!d && decide (xk ≤ k)) = E := ⟨_, rfl⟩
      rw [hE] at HT
      obtain ⟨d', hd'⟩ : ∃ E, (d || decide (xk ≤ k)) = E := ⟨_, rfl⟩
      rw [hd'] at HT
      have HDD := Bx.mk (show d' = (d || E) by rw [← hd', ← hE]; cases d <;> simp)
      have HEE := Bx.mk hE
      clear hE hd'
      go_cut [23] (fun v wx => v = .bool E ∧ wx = wv)
      case first =>
        have hE := HEE.out
        cases d with
        | true =>
          obtain rfl : E = false := by rw [← hE]; rfl
          repeat' (first | fail | go_values | go_skip | go_guarded | go_step | go_upon | go_back)
          go_meet
          case rel => exact ⟨rfl, rfl⟩
        | false =>
          by_cases hk : xk ≤ k
          · have hkI : (xk : Int) ≤ (k : Int) := by omega
            obtain rfl : E = true := by rw [← hE, decide_eq_true hk]; rfl
            clear hE hk
            repeat' (first | fail | go_values | go_skip | go_guarded | go_step | go_upon | go_back)
            go_meet
            case rel => exact ⟨rfl, rfl⟩
          · have hkI : ¬ (xk : Int) ≤ (k : Int) := by omega
            obtain rfl : E = false := by rw [← hE, decide_eq_false hk]; rfl
            clear hE hk
            repeat' (first | fail | go_values | go_skip | go_guarded | go_step | go_upon | go_back)
            go_meet
            case rel => exact ⟨rfl, rfl⟩
      case rest =>
        obtain ⟨rfl, hw⟩ := hcut
        have hw' := hw.symm
        subst hw'
        clear hw
        go_upto_if 23 with (fail)
        go_cut [5, 6] (fun o dn wx => ∃ (o0 : Option Addr) (o1 o2 : Nat) (Y : List C4), o = .slice o0 o1 o2 ∧ dn = .bool d' ∧ Y.length ≤ 2 * j + 1 ∧ Bx (Y = X ++ if E = true then [⟨xk, xa, xb, xc⟩] else []) ∧ Bx (Cn w1.heap.size wx (o0, o1, o2) Y) ∧ Bx (New w1 wx) ∧ Bx (wx.heap[BQ]? = some (.cells #[.int .u8 k, .int .i32 a, .int .i32 b, .int .i32 c'] 46 (0, 0))))
        case first =>
          cases E with
          | false =>
            have hd := HDD.out
            rw [Bool.or_false] at hd
            subst hd
            repeat' (first | fail | go_values | go_skip | go_guarded | go_step | go_upon | go_back)
            go_meet
            case rel => exact ⟨o0, o1, o2, X, rfl, rfl, by omega, ⟨by simp⟩, HO1, HN1, HBQ⟩
          | true =>
            have hd := HDD.out
            rw [Bool.or_true] at hd
            subst hd
            have hA2 := (Upd.refl Nowhere wv).alloc (.cells #[.int .u8 xk, .int .i32 xa, .int .i32 xb, .int .i32 xc] 46)
            have ho1 := HO1.out.new hA2
            have hNA := HN1.out.trans hA2
            unfold Cn at ho1
            dsimp only at ho1
            have hs1 := src_one (P := Try.prog) (w := wv) Try.underlying41 [.int .u8 xk, .int .i32 xa, .int .i32 xb, .int .i32 xc] 4 rfl (cc_one ⟨xk, xa, xb, xc⟩)
            have HB4 := Bx.mk (hA2.blk HBQ.out (fun q => q))
            repeat' (first | (at_builtin; refine wpList_appN _ rfl _ _ 41 41 rfl _ 46 (.agg #[.int .u8 0, .int .i32 0, .int .i32 0, .int .i32 0]) 4 16 Try.underlying41 infoC rfl _ _ _ ho1 rfl _ _ _ hs1 rfl _ hNA ?c1 ?c2 ?_; (case c1 => unfold maxLen; omega); (case c2 => omega); intro v5 w5 ho5 hu5 hk5 hv5); (obtain ⟨A5, c5, rfl, _⟩ := own_rd ho5) | go_values | go_skip | go_guarded | go_step | go_upon | go_back)
            go_meet
            case rel => exact ⟨A5, _, c5, X ++ [⟨xk, xa, xb, xc⟩], rfl, rfl, by rw [List.length_append, List.length_singleton]; omega, ⟨by rw [if_pos rfl]⟩, ⟨by unfold Cn; rw [List.length_append, ccells_snoc]; exact ho5⟩, ⟨hu5⟩, ⟨hk5.blk HB4.out (fun q => by have := HLT.out _ q; exact absurd this (Nat.lt_irrefl _))⟩⟩
        case rest =>
          obtain ⟨z0, z1, z2, Y, rfl, rfl, hY, HY, HO2, HN2, HBQ2⟩ := hcut
          rename World => wy
          clear HO1 HN1 HBQ HLT n0 n1 n2 n3 p0 p1 p2 p3 HBP
          obtain ⟨p0, p1, p2, p3, _⟩ := o4_at (HN2.out.blk HB.out (fun q => q))
          obtain ⟨n0, n1, n2, n3, _⟩ := o4_at HBQ2.out
          by_cases hk : k = xk
          · have hkI : ((k : Int) != (xk : Int)) = false := by simp [hk]
            have HE2 := Bx.mk (show Y ++ wiG d' (l.drop (j + 1)) ⟨xk, xa, xb, xc⟩ = wiG false l ⟨xk, xa, xb, xc⟩ by rw [← HE.out, HT.out, HY.out, if_neg (show ¬ k ≠ xk by simp [hk])]; simp)
            clear hk HT
            repeat' (first | fail | go_values | go_skip | go_guarded | go_step | go_upon | go_back)
            go_roundw
            case rel => exact ⟨j + 1, d', z0, z1, z2, Y, by omega, by go_num, rfl, rfl, by omega, HO2, HE2, HN2⟩
            case measure => simp [intOf]; omega
          · have hkI : ((k : Int) != (xk : Int)) = true := by rw [bne_iff_ne]; omega
            have HE2 := Bx.mk (show (Y ++ [⟨k, a, b, c'⟩]) ++ wiG d' (l.drop (j + 1)) ⟨xk, xa, xb, xc⟩ = wiG false l ⟨xk, xa, xb, xc⟩ by rw [← HE.out, HT.out, HY.out, if_pos (show k ≠ xk from hk)]; simp)
            clear hk HT
            have hA2 := (Upd.refl Nowhere wy).alloc (.cells #[.int .u8 k, .int .i32 a, .int .i32 b, .int .i32 c'] 46)
            have ho1 := HO2.out.new hA2
            have hNA := HN2.out.trans hA2
            unfold Cn at ho1
            dsimp only at ho1
            have hs1 := src_one (P := Try.prog) (w := wy) Try.underlying41 [.int .u8 k, .int .i32 a, .int .i32 b, .int .i32 c'] 4 rfl (cc_one ⟨k, a, b, c'⟩)
            repeat' (first | (at_builtin; refine wpList_appN _ rfl _ _ 41 41 rfl _ 46 (.agg #[.int .u8 0, .int .i32 0, .int .i32 0, .int .i32 0]) 4 16 Try.underlying41 infoC rfl _ _ _ ho1 rfl _ _ _ hs1 rfl _ hNA ?c1 ?c2 ?_; (case c1 => unfold maxLen; omega); (case c2 => omega); intro v5 w5 ho5 hu5 hk5 hv5); (obtain ⟨A5, c5, rfl, _⟩ := own_rd ho5) | go_values | go_skip | go_guarded | go_step | go_upon | go_back)
            go_roundw
            case rel => exact ⟨j + 1, d', A5, _, c5, Y ++ [⟨k, a, b, c'⟩], by omega, by go_num, rfl, rfl, by rw [List.length_append, List.length_singleton]; omega, ⟨by unfold Cn; rw [List.length_append, ccells_snoc]; exact ho5⟩, HE2, ⟨hu5⟩⟩
            case measure => simp [intOf]; omega
    · obtain rfl : n = j := by omega
      have HD := Bx.mk (show l.drop n = [] from List.drop_of_length_le (by rw [HL.out]; exact Nat.le_refl _))
      rw [HD.out] at HE
      cases d with
      | true =>
        have HX := Bx.mk (show X = wiG false l ⟨xk, xa, xb, xc⟩ by rw [← HE.out, wiG]; simp)
        repeat' (first | fail | go_values | go_skip | go_guarded | go_step | go_upon | go_back)
        go_returns
        exact ⟨⟨(o0, o1, o2), rfl, by rw [← HX.out, HBX.out]; exact HO.out.lower HB1.out⟩, HU0.out.trans HN.out⟩
      | false =>
        have HX := Bx.mk (show X ++ [⟨xk, xa, xb, xc⟩] = wiG false l ⟨xk, xa, xb, xc⟩ by rw [← HE.out, wiG]; simp)
        obtain ⟨p0, p1, p2, p3, _⟩ := o4_at (HN.out.blk HB.out (fun q => q))
        have hA2 := (Upd.refl Nowhere wr).alloc (.cells #[.int .u8 xk, .int .i32 xa, .int .i32 xb, .int .i32 xc] 46)
        have ho1 := HO.out.new hA2
        have hNA := HN.out.trans hA2
        unfold Cn at ho1
        dsimp only at ho1
        have hs1 := src_one (P := Try.prog) (w := wr) Try.underlying41 [.int .u8 xk, .int .i32 xa, .int .i32 xb, .int .i32 xc] 4 rfl (cc_one ⟨xk, xa, xb, xc⟩)
        repeat' (first | (at_builtin; refine wpList_appN _ rfl _ _ 41 41 rfl _ 46 (.agg #[.int .u8 0, .int .i32 0, .int .i32 0, .int .i32 0]) 4 16 Try.underlying41 infoC rfl _ _ _ ho1 rfl _ _ _ hs1 rfl _ hNA ?c1 ?c2 ?_; (case c1 => unfold maxLen; omega); (case c2 => omega); intro v5 w5 ho5 hu5 hk5 hv5); (obtain ⟨A5, c5, rfl, _⟩ := own_rd ho5) | go_values | go_skip | go_guarded | go_step | go_upon | go_back)
        go_returns
        refine ⟨⟨(A5, _, c5), rfl, ?_⟩, HU0.out.trans hu5⟩
        rw [← HX.out, HBX.out]
        refine Cn.lower ?_ HB1.out
        unfold Cn; rw [List.length_append, ccells_snoc]; exact ho5
end Go.Proofs.Ytdnkdmdmekdfkaa
namespace Go.Proofs.Ytdnkdmdmekdfkaa
open Go.RowKit
def idxE (l : List Et) (v : Nat) : Int := if l.findIdx (fun x => x.1 == v) < l.length then (l.findIdx (fun x => x.1 == v) : Nat) else -1
def idxC (l : List C4) (k : Nat) : Int := if l.findIdx (fun x => x.k == k) < l.length then (l.findIdx (fun x => x.k == k) : Nat) else -1
theorem findIdx_hit {α : Type} {p : α → Bool} (l : List α) (j : Nat) (hj : j < l.length) (h : ∀ q ∈ l.take j, p q = false) (hp : p l[j] = true) : l.findIdx p = j :=
  (List.findIdx_eq hj).2 ⟨hp, fun i hi => h _ (by rw [List.mem_take_iff_getElem]; exact ⟨i, by omega, rfl⟩)⟩
theorem findIdx_miss {α : Type} {p : α → Bool} (l : List α) (h : ∀ q ∈ l, p q = false) : ¬ l.findIdx p < l.length := by
  intro hl
  have := List.findIdx_getElem (w := hl)
  rw [h _ (List.getElem_mem hl)] at this; cases this
set_option maxHeartbeats 4000000 in
theorem refFindE_ix (A : Option Addr) (n c : Nat) (l : List Et) (v : Nat) (w : World) (h : EnL w A n l) (hl : l.length ≤ 1000) : Calls Try.prog 21 #[.slice A n c, .int .u32 v] w fun e w' => e = .returned (.int .i64 (idxE l v)) ∧ New w w' := by
  have HL := Bx.mk h.len
  have hn : n ≤ 1000 := by have := HL.out; omega
  go_enter Try.func21, Try.ntmps21
  repeat' (first | fail | go_values | go_skip | go_guarded | go_step | go_upon | go_back)
  go_loopw [9] (fun i wr => ∃ (j : Nat), j ≤ n ∧ i = .int .i64 j ∧ Bx (∀ q ∈ l.take j, (q.1 == v) = false) ∧ New w wr) (fun i _ => n - (intOf i).toNat)
  case atStart => exact ⟨0, by omega, rfl, ⟨fun q hq => by simp at hq⟩, Upd.refl _ _⟩
  case round =>
    obtain ⟨j, hj, rfl, HY, hN⟩ := hrel
    by_cases hlt : j < n
    · have hjL : j < l.length := by rw [HL.out]; exact hlt
      obtain ⟨b0, off, s0, s1, s2, rfl, h0, h1, _⟩ := (h.new hN).el j hjL
      have HS := Bx.mk (List.take_succ_eq_append_getElem hjL)
      have HF := Bx.mk (findIdx_hit (p := fun q : Et => q.1 == v) l j hjL HY.out)
      generalize hqe : l[j] = q at *
      obtain ⟨i, m⟩ := q
      dsimp only at h0 h1 HF
      obtain ⟨n0, n1⟩ := e2_new wr i s0 s1 s2
      have hA := (Upd.refl Nowhere wr).alloc (.cells #[.int .u32 i, .slice s0 s1 s2] 43)
      have HQE := Bx.mk hqe
      clear hqe
      by_cases hk : i = v
      · have HE := Bx.mk (show idxE l v = (j : Int) by unfold idxE; rw [HF.out (by simp [hk]), if_pos hjL])
        subst hk
        repeat' (first | fail | go_values | go_skip | go_guarded | go_step | go_upon | go_back)
        go_returns
        exact ⟨by rw [HE.out]; rfl, hN.trans hA⟩
      · have hkb : ((i : Int) == (v : Int)) = false := by rw [beq_eq_false_iff_ne]; omega
        have hkI : ¬ (i : Int) = (v : Int) := by omega
        have HY2 := Bx.mk (show ∀ q ∈ l.take (j + 1), (q.1 == v) = false by
          intro q hq
          rw [HS.out] at hq
          rcases List.mem_append.1 hq with hq | hq
          · exact HY.out q hq
          · simp at hq; subst hq; simpa using hk)
        clear hk
        repeat' (first | fail | go_values | go_skip | go_guarded | go_step | go_upon | go_back)
        go_roundw
        case rel => exact ⟨j + 1, by omega, by go_num, HY2, hN.trans hA⟩
        case measure => simp [intOf]; omega
    · obtain rfl : j = n := by omega
      have HE := Bx.mk (show idxE l v = -1 by have := HY.out; rw [List.take_of_length_le (by rw [HL.out]; exact Nat.le_refl _)] at this; unfold idxE; rw [if_neg (findIdx_miss l this)])
      repeat' (first | fail | go_values | go_skip | go_guarded | go_step | go_upon | go_back)
      go_returns
      exact ⟨by rw [HE.out]; rfl, hN⟩
set_option maxHeartbeats 4000000 in
theorem refFindC_ix (A : Option Addr) (n c : Nat) (l : List C4) (k0 : Nat) (w : World) (h : Co w (A, n, c) l) (hl : l.length ≤ 1000) : Calls Try.prog 34 #[.slice A n c, .int .u8 k0] w fun e w' => e = .returned (.int .i64 (idxC l k0)) ∧ New w w' := by
  have HL := Bx.mk h.len
  dsimp only at HL
  have hx := h.rd
  dsimp only at hx
  have hn : n ≤ 1000 := by have := HL.out; omega
  go_enter Try.func34, Try.ntmps34
  repeat' (first | fail | go_values | go_skip | go_guarded | go_step | go_upon | go_back)
  go_loopw [9] (fun i wr => ∃ (j : Nat), j ≤ n ∧ i = .int .i64 j ∧ Bx (∀ q ∈ l.take j, (q.k == k0) = false) ∧ New w wr) (fun i _ => n - (intOf i).toNat)
  case atStart => exact ⟨0, by omega, rfl, ⟨fun q hq => by simp at hq⟩, Upd.refl _ _⟩
  case round =>
    obtain ⟨j, hj, rfl, HY, hN⟩ := hrel
    by_cases hlt : j < n
    · have hjL : j < l.length := by rw [HL.out]; exact hlt
      obtain ⟨b0, off, rfl, h0, h1, h2, h3⟩ := (hx.new hN).four j hjL
      have HS := Bx.mk (List.take_succ_eq_append_getElem hjL)
      have HF := Bx.mk (findIdx_hit (p := fun q : C4 => q.k == k0) l j hjL HY.out)
      generalize hqe : l[j] = q at *
      obtain ⟨k, a, b, c'⟩ := q
      simp only at h0 h1 h2 h3 HF
      obtain ⟨n0, n1, n2, n3⟩ := c4_new wr k a b c'
      have hA := (Upd.refl Nowhere wr).alloc (.cells #[.int .u8 k, .int .i32 a, .int .i32 b, .int .i32 c'] 46)
      have HQE := Bx.mk hqe
      clear hqe
      by_cases hk : k = k0
      · have HE := Bx.mk (show idxC l k0 = (j : Int) by unfold idxC; rw [HF.out (by simp [hk]), if_pos hjL])
        subst hk
        repeat' (first | fail | go_values | go_skip | go_guarded | go_step | go_upon | go_back)
        go_returns
        exact ⟨by rw [HE.out]; rfl, hN.trans hA⟩
      · have hkb : ((k : Int) == (k0 : Int)) = false := by rw [beq_eq_false_iff_ne]; omega
        have hkI : ¬ (k : Int) = (k0 : Int) := by omega
        have HY2 := Bx.mk (show ∀ q ∈ l.take (j + 1), (q.k == k0) = false by
          intro q hq
          rw [HS.out] at hq
          rcases List.mem_append.1 hq with hq | hq
          · exact HY.out q hq
          · simp at hq; subst hq; simpa using hk)
        clear hk
        repeat' (first | fail | go_values | go_skip | go_guarded | go_step | go_upon | go_back)
        go_roundw
        case rel => exact ⟨j + 1, by omega, by go_num, HY2, hN.trans hA⟩
        case measure => simp [intOf]; omega
    · obtain rfl : j = n := by omega
      have HE := Bx.mk (show idxC l k0 = -1 by have := HY.out; rw [List.take_of_length_le (by rw [HL.out]; exact Nat.le_refl _)] at this; unfold idxC; rw [if_neg (findIdx_miss l this)])
      repeat' (first | fail | go_values | go_skip | go_guarded | go_step | go_upon | go_back)
      go_returns
      exact ⟨by rw [HE.out]; rfl, hN⟩
theorem idxC_or (l : List C4) (k : Nat) : (idxC l k = -1 ∧ (fnd l k).isSome = false) ∨ ∃ j : Nat, idxC l k = (j : Int) ∧ j < l.length ∧ (fnd l k).isSome = true := by
  unfold idxC
  by_cases h : l.findIdx (fun x => x.k == k) < l.length
  · rw [if_pos h]
    refine .inr ⟨_, rfl, h, ?_⟩
    unfold fnd
    rw [List.find?_isSome]
    exact ⟨_, List.getElem_mem h, List.findIdx_getElem (w := h)⟩
  · rw [if_neg h]
    refine .inl ⟨rfl, ?_⟩
    cases hf : fnd l k with
    | none => rfl
    | some q =>
      exfalso
      apply h
      exact List.findIdx_lt_length_of_exists ⟨q, List.mem_of_find?_eq_some hf, List.find?_some (p := fun x : C4 => x.k == k) hf⟩
theorem dropE_at : ∀ (X : List Et) (i j : Nat) (hj : j < X.length), (∀ q ∈ X.take j, q.1 ≠ i) → X[j].1 = i → dropE i X = X.take j ++ X.drop (j + 1)
  | [], _, j, hj, _, _ => absurd hj (Nat.not_lt_zero _)
  | x :: r, i, 0, _, _, h => by rw [dropE, if_pos (by simpa using h)]; rfl
  | x :: r, i, j + 1, hj, h, k => by
    rw [dropE, if_neg (h x (by simp)), dropE_at r i j (by simpa using hj) (fun q hq => h q (by simp [hq])) (by simpa using k)]
    rfl
theorem putE_at : ∀ (X : List Et) (i j : Nat) (l : List C4) (hj : j < X.length), (∀ q ∈ X.take j, q.1 ≠ i) → X[j].1 = i → putE i l X = X.set j (i, l)
  | [], _, j, _, hj, _, _ => absurd hj (Nat.not_lt_zero _)
  | x :: r, i, 0, l, _, _, h => by
    have h' : x.1 = i := by simpa using h
    rw [putE, if_pos h', h']; rfl
  | x :: r, i, j + 1, l, hj, h, k => by
    rw [putE, if_neg (h x (by simp)), putE_at r i j l (by simpa using hj) (fun q hq => h q (by simp [hq])) (by simpa using k)]
    rfl
theorem idxE_or (l : List Et) (v : Nat) : (idxE l v = -1 ∧ fndE l v = none) ∨ ∃ (j : Nat) (hj : j < l.length), idxE l v = (j : Int) ∧ fndE l v = some l[j] ∧ l[j].1 = v ∧ ∀ q ∈ l.take j, q.1 ≠ v := by
  unfold idxE
  by_cases h : l.findIdx (fun x => x.1 == v) < l.length
  · rw [if_pos h]
    have hp := List.findIdx_getElem (w := h)
    have hq : ∀ q ∈ l.take (l.findIdx (fun x => x.1 == v)), (q.1 == v) = false := by
      intro q hq
      obtain ⟨i, hi, e⟩ := List.mem_take_iff_getElem.1 hq
      have := List.not_of_lt_findIdx (p := fun x : Et => x.1 == v) (xs := l) (i := i) (by omega)
      rw [← e]; simpa using this
    refine .inr ⟨_, h, rfl, ?_, by simpa using hp, fun q k => by simpa using hq q k⟩
    exact find_at l _ h hq hp
  · rw [if_neg h]
    refine .inl ⟨rfl, ?_⟩
    cases hf : fndE l v with
    | none => rfl
    | some q =>
      exfalso
      apply h
      exact List.findIdx_lt_length_of_exists ⟨q, List.mem_of_find?_eq_some hf, List.find?_some (p := fun x : Et => x.1 == v) hf⟩
/-- entities in a row of the call's own; their components where they are -/
structure Nw (b0 : Nat) (w : World) (A : Option Addr) (n c : Nat) (X : List Et) : Prop where
  ex : ∃ es, w.ownsRow b0 43 2 (.slice A n c) n (ec es) ∧ es.length = n ∧ Al (Cz b0 w) es X
theorem Nw.enl {b0 : Nat} {w : World} {A : Option Addr} {n c : Nat} {X : List Et} (h : Nw b0 w A n c X) : EnL w A n X := by
  obtain ⟨es, h1, h2, h3⟩ := h.ex
  exact own_enl h1 h2 (h3.map fun _ _ q => q.co)
theorem Nw.new {b0 : Nat} {w w' : World} {A : Option Addr} {n c : Nat} {X : List Et} (h : Nw b0 w A n c X) (k : New w w') : Nw b0 w' A n c X := by
  obtain ⟨es, h1, h2, h3⟩ := h.ex
  exact ⟨es, own_new h1 k, h2, h3.map fun _ _ q => q.new k⟩
theorem Nw.of_enN {base b0 : Nat} {w : World} {v : Value} {X : List Et} (h : EnN base w v X) (hb : b0 ≤ base) : ∃ A c, v = .slice A X.length c ∧ Nw b0 w A X.length c X := by
  obtain ⟨es, ho, hal⟩ := h.ex
  obtain ⟨A, c, rfl, _⟩ := own_rd ho
  exact ⟨A, c, rfl, es, own_lower ho hb, hal.len, hal.map fun _ _ q => .inl (q.lower hb)⟩
theorem Nw.len {b0 : Nat} {w : World} {A : Option Addr} {n c : Nat} {X : List Et} (h : Nw b0 w A n c X) : X.length = n := h.enl.len
/-- append onto an empty literal: only makes memory -/
theorem run_append_lit0 {P : Program} {w : World} (base g : Nat) (t tx ty e : TypeId) (i : TypeInfo) (z : Value) (size bytes : Nat)
    (hsize : i.size = size) (hby : i.bytes = bytes) (hzs : z.cells.size = size) (hg : w.heap[g]? = some (.cells #[] e (0, 0))) (hgb : base ≤ g)
    (x : Value) (m : Nat) (news : List Value) (hs : App P t tx e i z x m news w)
    (h63 : m ≤ maxLen) (hbytes : m * bytes ≤ 140737488355328) (hbase : base ≤ w.heap.size) :
    ∃ v' w', (Builtin.append_ #[t, tx] ty #[.slice (some ⟨g, 0, none⟩) 0 0, x]).run P w = .ok v' w' ∧ w'.ownsRow base e size v' m news ∧ New w w' := by
  subst hsize
  subst hby
  have hl := hs.len
  by_cases hm : m = 0
  · subst hm
    have hn : news = [] := List.eq_nil_of_length_eq_zero (by simpa using hl)
    subst hn
    have hr := hs.room ty g 0 0 #[] hg (by omega) (by simp)
    simp only [Nat.zero_mul, List.take_zero, List.nil_append, List.length_nil, Nat.add_zero] at hr
    have hd : (#[] : Array Value).toList.drop 0 = [] := rfl
    simp only [List.drop_zero, List.append_nil] at hr
    refine ⟨_, _, hr, ⟨by simp, .inr ⟨g, 0, #[], rfl, hgb, setRow_heap w g #[] _ e _ hg, by omega, by simp [maxLen], by simp, by simp⟩⟩, ⟨rfl, rfl, rfl, by simp, fun k hk _ => ?_⟩⟩
    by_cases hkg : k = g
    · subst hkg; rw [setRow_heap w k #[] _ e _ hg, hg]
    · exact setRow_other w g k _ hkg
  · have hold : (Builtin.firstCells i.size 0 (.slice (some ⟨g, 0, none⟩) 0 0)).run P w.drew = .ok ([] : List Value).toArray w.drew := by
      simp [Builtin.firstCells, loadCells, loadCellsFrom]
    have hsmall : m ≤ 9223372036854775807 := by simp only [maxLen] at h63; omega
    have hr := hs.grow ty (some ⟨g, 0, none⟩) 0 0 [] hold (by omega) (by omega) (by rw [Nat.zero_add]; exact hbytes)
    have hge := grownCap_ge w (0 + m) 0 e
    have hcm : grownCap w (0 + m) 0 e ≤ maxLen := grownCap_le_maxLen w (0 + m) 0 e (by omega)
    simp only [Nat.zero_add, List.nil_append] at hr hge hcm
    refine ⟨_, _, hr, ⟨hl, .inr ⟨w.heap.size, _, _, rfl, hbase, heap_alloc_new w.drew _, hge, hcm, ?_, ?_⟩⟩, ⟨rfl, rfl, rfl, by simp, fun k hk _ => heap_alloc_old w.drew _ hk⟩⟩
    · simp only [Array.size_append, List.size_toArray, size_zeroCells, hzs, hl, ← Nat.add_mul]
      congr 1
      omega
    · simp only [Array.toList_append]
      rw [← hl]
      exact List.take_left
theorem bit_mod (y : BitVec 8) (k : Nat) : (((y.toNat : Int) / 2 ^ k).tmod 2 == 0) = !y.getLsbD k := by
  have e : ((y.toNat : Int) / 2 ^ k) = ((y.toNat / 2 ^ k : Nat) : Int) := by rw [Int.natCast_ediv, Int.natCast_pow]; rfl
  have e2 : ((y.toNat / 2 ^ k : Nat) : Int).tmod 2 = ((y.toNat / 2 ^ k % 2 : Nat) : Int) := rfl
  rw [e, e2, BitVec.getLsbD, Nat.testBit, Nat.shiftRight_eq_div_pow, Nat.one_and_eq_mod_two]
  rcases Nat.mod_two_eq_zero_or_one (y.toNat / 2 ^ k) with h | h <;> rw [h] <;> rfl
end Go.Proofs.Ytdnkdmdmekdfkaa
