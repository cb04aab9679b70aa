/- The law of reading back. -/
import Derived.Test.YtfhkonjklhaknaaBiL5
import Derived.Test.YtfhkonjklhaknaaBiL4
namespace Go.Proofs.Ytfhkonjklhaknaa
open Go.RowKit

theorem infoN : (Try.prog.info? 29).map (fun i => (i.zero, i.size, i.bytes)) = some (some (.agg #[.int .u64 0, .int .i64 0]), 2, 16) := by kernel_rfl
def bitsK (K : List (Nat × Int)) : List Bool := K.flatMap fun q => Bi.numBits q.1 q.2.toNat
def okNum (q : Nat × Int) : Prop := 0 ≤ q.2 ∧ q.2 ≤ 64 ∧ q.1 < 2 ^ q.2.toNat
theorem okNum_of (L : List Bool) (x : Nat) (n : Int) (h : Bi.putErr L x n = 0) : okNum (x, n) ∧ Bi.putRes L x n = L ++ Bi.numBits x n.toNat := by
  refine ⟨?_, if_pos h⟩
  unfold Bi.putErr at h
  split at h
  · cases h
  · rename_i h1
    split at h
    · cases h
    · rename_i h2
      have h3 : x / 2 ^ n.toNat = 0 := by simpa using h2
      refine ⟨by simp only; omega, by simp only; omega, ?_⟩
      simp only
      rcases Nat.lt_or_ge x (2 ^ n.toNat) with q | q
      · exact q
      · have := Nat.div_pos q (Nat.pow_pos (by omega)); omega
theorem bitsK_snoc (K : List (Nat × Int)) (q : Nat × Int) : bitsK (K ++ [q]) = bitsK K ++ Bi.numBits q.1 q.2.toNat := by simp [bitsK]
theorem bitsK_length (K : List (Nat × Int)) (h : ∀ q ∈ K, okNum q) : (bitsK K).length ≤ 64 * K.length := by
  induction K with
  | nil => simp [bitsK]
  | cons q K ih =>
    have h1 := ih fun r hr => h r (List.mem_cons_of_mem _ hr)
    have h2 := (h q List.mem_cons_self).2.1
    simp only [bitsK, List.flatMap_cons, List.length_append, Bi.numBits_length, List.length_cons] at h1 ⊢
    omega
theorem numCells_snoc (K : List (Nat × Int)) (q : Nat × Int) : numCells (K ++ [q]) = numCells K ++ [.int .u64 q.1, .int .i64 q.2] := by simp [numCells]
theorem numCells_one (K : List (Nat × Int)) : ∀ u ∈ numCells K, u.oneCell' = true := by
  intro u hu
  simp only [numCells, List.mem_flatMap] at hu
  obtain ⟨q, _, hq⟩ := hu
  simp at hq
  rcases hq with rfl | rfl <;> rfl
theorem get_of (q : Nat × Int) (K : List (Nat × Int)) (T : List Bool) (h : okNum q) : Bi.getErr (bitsK (q :: K) ++ T) q.2 = 0 ∧ Bi.getVal (bitsK (q :: K) ++ T) q.2 = q.1 ∧ Bi.getRest (bitsK (q :: K) ++ T) q.2 = bitsK K ++ T := by
  obtain ⟨h0, h1, h2⟩ := h
  have hb : bitsK (q :: K) ++ T = Bi.numBits q.1 q.2.toNat ++ (bitsK K ++ T) := by simp [bitsK]
  have hE : Bi.getErr (bitsK (q :: K) ++ T) q.2 = 0 := by
    rw [hb, Bi.getErr, if_neg (by omega), if_neg]
    rw [List.length_append, Bi.numBits_length]; omega
  refine ⟨hE, ?_, ?_⟩
  · rw [Bi.getVal, if_pos hE, hb, List.take_append_of_le_length (by rw [Bi.numBits_length]; exact Nat.le_refl _), List.take_of_length_le (by rw [Bi.numBits_length]; exact Nat.le_refl _), Bi.numOf_numBits, Nat.mod_eq_of_lt h2]
  · rw [Bi.getRest, if_pos hE, hb]
    exact List.drop_left' (Bi.numBits_length _ _)
theorem end_nought (t : Nat) (h : t < 8) : Bi.endErr (List.replicate t false) = 0 := by
  rw [Bi.endErr, if_neg (by simp; omega), if_neg]
  simp

set_option maxHeartbeats 4000000 in
theorem back_any (A : Option Addr) (n c : Nat) (Ls : List (Nat × Int)) (w : World) (hl : Ls.length = n) (hnm : n ≤ maxLen) (hx : Rd w A (numCells Ls)) (hb : ∀ q ∈ Ls, q.1 < 18446744073709551616 ∧ -9223372036854775808 ≤ q.2 ∧ q.2 ≤ 9223372036854775807) :
    Calls Try.prog 7 #[.slice A n c] w fun e w' => e = .returned (.bool true) ∧ New w w' := by
  have HL := Bx.mk hl
  have HM := Bx.mk (show n ≤ 9223372036854775807 from Nat.le_trans hnm (by decide))
  clear hl hnm
  go_enter Try.func7, Try.ntmps7
  repeat' (first | (first | (go_at_call 9; go_loud ((with_reducible refine (awake_any _).mono ?_); rintro e w1 ⟨rfl, hu1⟩; dsimp only)) | (go_at_call 10; go_loud ((with_reducible refine (New_any _).mono ?_); rintro e w2 ⟨rfl, hu2, hW2, -⟩; dsimp only))) | go_values | go_skip | go_guarded | go_step | go_upon | go_back)
  have hg := hu1.size
  have hN2 := hu1.trans hu2
  generalize w1.heap.size = g at *
  go_loopw [4, 17] (fun x i wr => ∃ (k : Nat) (vx v : Value) (K : List (Nat × Int)) (nK : Nat), k ≤ n ∧ i = .int .i64 k ∧ x = vx ∧ K.length = nK ∧ nK ≤ k ∧ nK ≤ 60 ∧ (∀ q ∈ K, okNum q) ∧ wr.ownsRow w.heap.size 29 2 vx nK (numCells K) ∧ IsW wr 0 g v (bitsK K) ∧ New w wr ∧ ∀ b, v.ownBlock = some b → w.heap.size ≤ b) (fun _ i _ => n - (intOf i).toNat)
  case atStart => exact ⟨0, _, _, [], 0, by omega, rfl, rfl, rfl, by omega, by omega, (fun q h => by cases h), World.ownsRow_nil _ _ _ _, hW2 0, hN2, fun b hb => by cases hb⟩
  case round =>
    obtain ⟨k, vx, v, K, nK, hk, rfl, rfl, hK, hnk, hn60, hok, hox, hW, hN, hv⟩ := hrel
    by_cases hlt : k < n
    · have hkL : k < Ls.length := by rw [HL.out]; exact hlt
      obtain ⟨g0, g1⟩ := numCells_get Ls k hkL
      have hub := hb Ls[k] (List.getElem_mem hkL)
      generalize Ls[k] = q at g0 g1 hub
      obtain ⟨V, N⟩ := q
      obtain ⟨b0, off, rfl, hc0⟩ : ∃ b off, A = some ⟨b, off, none⟩ ∧ wr.cell? ⟨b, off + 2 * k, none⟩ = some (.int .u64 V) := by
        rcases (hx.new hN) with h | ⟨b, off, h, hc⟩
        · rw [h] at g0; cases g0
        · exact ⟨b, off, h, hc _ _ g0⟩
      have hc1 : wr.cell? ⟨b0, off + (2 * k + 1), none⟩ = some (.int .i64 N) := by
        rcases (hx.new hN) with h | ⟨b, o2, h, hc⟩
        · rw [h] at g1; cases g1
        · simp only [Option.some.injEq, Addr.mk.injEq, and_true] at h
          obtain ⟨rfl, rfl⟩ := h
          exact hc _ _ g1
      clear g0 g1
      rw [show off + 2 * k = off + k * 2 by omega] at hc0
      rw [show off + (2 * k + 1) = off + k * 2 + 1 by omega] at hc1
      have hNa := hN.alloc (.cells #[.int .u64 V, .int .i64 N] 29)
      have hoxa := hox.alloc (.cells #[.int .u64 V, .int .i64 N] 29)
      have hWa := hW.new ((Upd.refl _ wr).alloc (.cells #[.int .u64 V, .int .i64 N] 29))
      by_cases h60 : 60 ≤ k
      · have h60' : ¬ (k : Int) < 60 := by omega
        have hk63 : (k : Int) + 1 ≤ 9223372036854775807 := by have := HM.out; omega
        go_wp2
        go_roundw
        case rel => exact ⟨k + 1, _, v, K, nK, by omega, by go_num, rfl, hK, by omega, hn60, hok, hoxa, hWa, hNa, hv⟩
        case measure => simp [intOf]; omega
      · have h60' : (k : Int) < 60 := by omega
        have hA0 : (wr.alloc (.cells #[.int .u64 V, .int .i64 N] 29)).cell? ⟨wr.heap.size, 0, none⟩ = some (.int .u64 V) := by rw [World.cell?, heap_alloc_new]; rfl
        have hA1 : (wr.alloc (.cells #[.int .u64 V, .int .i64 N] 29)).cell? ⟨wr.heap.size, 1, none⟩ = some (.int .i64 N) := by rw [World.cell?, heap_alloc_new]; rfl
        have hnew : ¬ ((fun b => b = g ∨ v.ownBlock = some b) wr.heap.size) := fun q => q.elim (fun q => by have := (Array.getElem?_eq_some_iff.1 hW.obj).1; omega) (fun q => by have := own_lt hW.row _ q; omega)
        have hXl := bitsK_length K hok
        have BK := Bx.mk hK
        have BXl := Bx.mk (show (bitsK K).length ≤ 1048576 by omega)
        have BU := Bx.mk hub
        obtain ⟨E, hE⟩ : ∃ E, Bi.putErr (bitsK K) V N = E := ⟨_, rfl⟩
        obtain ⟨Y, hY⟩ : ∃ Y, Bi.putRes (bitsK K) V N = Y := ⟨_, rfl⟩
        have BE := Bx.mk hE
        have BY := Bx.mk hY
        by_cases hE0 : E = 0
        · subst hE0
          obtain ⟨hq, hYX⟩ := okNum_of _ _ _ hE
          rw [hY] at hYX
          have BQ := Bx.mk hq
          have BYX := Bx.mk hYX
          clear hE hY hK hub hYX hq hXl
          repeat' (first | (first
            | (go_at_call 12; go_loud ((with_reducible refine (Put_e hWa (Nat.zero_le _) BXl.out V BU.out.1 V N rfl BU.out.2.1 BU.out.2.2 0 BE.out Y BY.out).mono ?_); rintro e w4 ⟨rfl, v4, hW4, hU4⟩; have hox4 := own_upd hoxa hU4.upd (fun b hb q => q.elim (fun q => own_obj_ne hoxa hWa.obj (by decide) (q ▸ hb)) (fun q => own_apart hoxa hWa.row (by decide) b hb q)); have hB0 := hU4.upd.cell hA0 hnew; have hB1 := hU4.upd.cell hA1 hnew; have hs4 := (Src.ofSlice (P := Try.prog) (size := 2) _ Try.underlying22 _ 1 1 _ rfl (cells_new w4 [.int .u64 V, .int .i64 N] 29) (by intro u hu; simp at hu; rcases hu with rfl | rfl <;> rfl)); have hox5 := hox4.alloc (.cells #[.int .u64 V, .int .i64 N] 29); have hN4 := (hU4.fresh hNa hg hv).1; have hlo : w.heap.size ≤ w4.heap.size := hN4.size; dsimp only))
            | (at_builtin; go_loud (refine wpList_appN _ rfl _ _ 22 22 rfl _ 29 (.agg #[.int .u64 0, .int .i64 0]) 2 16 Try.underlying22 infoN rfl _ _ _ hox5 rfl _ _ _ hs4 rfl _ (hN4.alloc _) ?c1 ?c2 ?_; (case c1 => unfold maxLen; omega); (case c2 => omega); intro v5 w5 ho5 hu5 hk5 hv5))) | go_values | go_skip | go_guarded | go_step | go_upon | go_back)
          go_roundw
          case rel =>
            obtain ⟨n4, b4⟩ := hU4.fresh hNa hg hv
            have hW5 : IsW w5 0 g v4 Y := IsV.upd (IsW.new hW4 ((Upd.refl _ w4).alloc (.cells #[.int .u64 V, .int .i64 N] 29))) hk5 (fun q => own_obj_ne hox4 hW4.obj (by decide) q) (fun b hb q => own_apart hox4 hW4.row (by decide) b q hb)
            refine ⟨k + 1, _, v4, K ++ [(V, N)], nK + 1, by omega, by go_num, rfl, by simp [BK.out], by omega, by omega, ?_, by rw [numCells_snoc]; exact ho5, by rw [bitsK_snoc]; exact BYX.out ▸ hW5, hu5, b4⟩
            intro q hq
            rcases List.mem_append.1 hq with h | h
            · exact hok q h
            · simp at h; subst h; exact BQ.out
          case measure => simp [intOf]; omega
        · have BR := Bx.mk (show Y = bitsK K by rw [← hY, Bi.putRes, if_neg (by rw [hE]; exact hE0)])
          clear hE hY hK hub hXl
          repeat' (first | (first
            | (go_at_call 12; go_loud ((with_reducible refine (Put_e hWa (Nat.zero_le _) BXl.out V BU.out.1 V N rfl BU.out.2.1 BU.out.2.2 E BE.out Y BY.out).mono ?_); rintro e w4 ⟨rfl, v4, hW4, hU4⟩; have hox4 := own_upd hoxa hU4.upd (fun b hb q => q.elim (fun q => own_obj_ne hoxa hWa.obj (by decide) (q ▸ hb)) (fun q => own_apart hoxa hWa.row (by decide) b hb q)); dsimp only))) | go_values | go_skip | go_guarded | go_step | go_upon | go_back)
          go_roundw
          case rel =>
            obtain ⟨n4, b4⟩ := hU4.fresh hNa hg hv
            exact ⟨k + 1, _, v4, K, nK, by omega, by go_num, rfl, BK.out, by omega, hn60, hok, hox4, BR.out ▸ hW4, n4, b4⟩
          case measure => simp [intOf]; omega
    · obtain rfl : k = n := by omega
      obtain ⟨A1, c1, rfl, hc1, hm1, hr1, hb1⟩ := own_rd hox
      have hXl := bitsK_length K hok
      have BXl := Bx.mk (show (bitsK K).length ≤ 3840 by omega)
      obtain ⟨t, ht, hT⟩ := Bi.bitsOf_pack (bitsK K)
      have BT := Bx.mk hT
      have hnb : Bi.nbytes (bitsK K) ≤ 1000 := by unfold Bi.nbytes; omega
      have BP := Bx.mk (Bi.pack_length (bitsK K))
      have BK := Bx.mk hK
      clear hXl hT hK hr1 hb1
      repeat' (first | (first
        | (go_at_call 15; go_loud ((with_reducible refine (Bytes_e hW (by have := BXl.out; omega) _ rfl _ rfl).mono ?_); rintro e w3 ⟨v3, rfl, ho3, hu3⟩; (obtain ⟨A3, c3, rfl, _, _, hr3, _⟩ := own_rd ho3); dsimp only))
        | (go_at_call 17; go_loud ((with_reducible refine (Read_any A3 _ c3 _ _ BP.out (by omega) hr3).mono ?_); rintro e w4 ⟨gr, vr, rfl, hI4, hu4, hgr, -⟩; dsimp only))) | go_values | go_skip | go_guarded | go_step | go_upon | go_back)
      have hN4 := (hN.trans hu3).trans hu4
      have hgr0 : w.heap.size ≤ gr := Nat.le_trans (hN.trans hu3).size hgr
      have hox4 := own_new (own_new hox hu3) hu4
      have BPl := Bx.mk (show (Bi.pack (bitsK K)).length ≤ 1000000 by rw [BP.out]; omega)
      generalize Bi.pack (bitsK K) = P at *
      clear hox hW hN hv ho3 hu3 hr3 hW2 hN2
      go_loopw [43] (fun i wr => ∃ (j a : Nat), j ≤ nK ∧ i = .int .i64 j ∧ IsR wr gr vr P a ∧ (Bi.bitsOf P).drop a = bitsK (K.drop j) ++ List.replicate t false ∧ a ≤ 8 * P.length ∧ New w wr ∧ wr.ownsRow w.heap.size 29 2 (.slice A1 nK c1) nK (numCells K)) (fun i _ => nK - (intOf i).toNat)
      case atStart => exact ⟨0, 0, by omega, rfl, hI4, by rw [List.drop_zero, List.drop_zero]; exact BT.out, by omega, hN4, hox4⟩
      case round =>
        obtain ⟨j, a, hj, rfl, hI, hR, ha, hN, hox⟩ := hrel
        by_cases hlt2 : j < nK
        · have hjK : j < K.length := by rw [BK.out]; exact hlt2
          obtain ⟨g0, g1⟩ := numCells_get K j hjK
          have hqq := hok K[j] (List.getElem_mem hjK)
          have hdr := Bx.mk (show K.drop j = K[j] :: K.drop (j + 1) from List.drop_eq_getElem_cons hjK)
          generalize K[j] = q at g0 g1 hqq hdr
          obtain ⟨V, N⟩ := q
          obtain ⟨A2, c2, hv2, _, _, hr2, _⟩ := own_rd hox
          obtain ⟨rfl, rfl⟩ : A1 = A2 ∧ c1 = c2 := by simpa using hv2
          clear hv2
          obtain ⟨b0, off, rfl, hc0⟩ : ∃ b off, A1 = some ⟨b, off, none⟩ ∧ wr.cell? ⟨b, off + 2 * j, none⟩ = some (.int .u64 V) := by
            rcases hr2 with h | ⟨b, off, h, hc⟩
            · rw [h] at g0; cases g0
            · exact ⟨b, off, h, hc _ _ g0⟩
          have hc1 : wr.cell? ⟨b0, off + (2 * j + 1), none⟩ = some (.int .i64 N) := by
            rcases hr2 with h | ⟨b, o2, h, hc⟩
            · rw [h] at g1; cases g1
            · simp only [Option.some.injEq, Addr.mk.injEq, and_true] at h
              obtain ⟨rfl, rfl⟩ := h
              exact hc _ _ g1
          clear g0 g1
          rw [show off + 2 * j = off + j * 2 by omega] at hc0
          rw [show off + (2 * j + 1) = off + j * 2 + 1 by omega] at hc1
          have hA0 : (wr.alloc (.cells #[.int .u64 V, .int .i64 N] 29)).cell? ⟨wr.heap.size, 0, none⟩ = some (.int .u64 V) := by rw [World.cell?, heap_alloc_new]; rfl
          have hA1 : (wr.alloc (.cells #[.int .u64 V, .int .i64 N] 29)).cell? ⟨wr.heap.size, 1, none⟩ = some (.int .i64 N) := by rw [World.cell?, heap_alloc_new]; rfl
          have hNa := hN.alloc (.cells #[.int .u64 V, .int .i64 N] 29)
          have hoxa := hox.alloc (.cells #[.int .u64 V, .int .i64 N] 29)
          have hIa := hI.new ((Upd.refl _ wr).alloc (.cells #[.int .u64 V, .int .i64 N] 29))
          have hnew : ¬ ((fun b => b = gr) wr.heap.size) := fun q => by have h1 := (Array.getElem?_eq_some_iff.1 hI.obj).1; have h2 : wr.heap.size = gr := q; omega
          obtain ⟨e0, eV, eR⟩ := get_of (V, N) (K.drop (j + 1)) (List.replicate t false) hqq
          rw [← hdr.out] at e0 eV eR
          have B0 := Bx.mk e0
          have BV := Bx.mk (congrArg (fun z : Nat => (z : Int)) eV)
          have BR := Bx.mk eR
          have hN1 := hqq.1
          have hN2 := hqq.2.1
          simp only at hN1 hN2
          have BH := Bx.mk hR
          clear e0 eV eR hqq hR
          repeat' (first | (first
            | (go_at_call 20; go_loud ((with_reducible refine (Get_e hIa _ N BH.out ha BPl.out (by omega) (by omega) V 0 BV.out B0.out _ BR.out).mono ?_); rintro e w5 ⟨rfl, a', hI5, hR5, ha5, hU5⟩; have hB0 := hU5.cell hA0 hnew; have hB1 := hU5.cell hA1 hnew; dsimp only))) | go_values | go_skip | go_guarded | go_step | go_upon | go_back)
          go_roundw
          case rel =>
            refine ⟨j + 1, a', by omega, by go_num, hI5, hR5, ha5, hNa.then hU5 (fun b hb => .inr (by have hb' : b = gr := hb; omega)), own_upd hoxa hU5 (fun b hb q => own_obj_ne hoxa hIa.obj (by decide) ((show b = gr from q) ▸ hb))⟩
          case measure => simp [intOf]; omega
        · obtain rfl : j = nK := by omega
          rw [show K.drop j = [] from List.drop_of_length_le (by rw [BK.out]; exact Nat.le_refl _)] at hR
          have BH := Bx.mk (show (Bi.bitsOf P).drop a = List.replicate t false from hR)
          have hd : decide ((t : Int) < 8) = true := decide_eq_true (by omega)
          clear hR
          repeat' (first | (first
            | (go_at_call 22; go_loud ((with_reducible refine (End_e hI _ BH.out ha BPl.out 0 (end_nought t ht)).mono ?_); rintro e w6 ⟨rfl, hu6⟩; have hI6 := hI.new hu6; dsimp only))
            | (go_at_call 21; go_loud ((with_reducible refine (Left_e hI6 _ BH.out ha BPl.out t (by simp)).mono ?_); rintro e w7 ⟨rfl, hu7⟩; dsimp only))) | go_values | go_skip | go_guarded | go_step | go_upon | go_back)
          go_ret
          exact ⟨rfl, (hN.trans hu6).trans hu7⟩
end Go.Proofs.Ytfhkonjklhaknaa
