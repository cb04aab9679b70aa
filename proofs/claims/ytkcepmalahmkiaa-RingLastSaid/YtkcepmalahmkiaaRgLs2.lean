/- RingLast: walked. -/
import Derived.Test.YtkcepmalahmkiaaRgLs
import Derived.Test.YtkcepmalahmkiaaRgL12
import Derived.Deep.DeepCutAuto
import Derived.Deep.CutBlock
namespace Go.Proofs.Ytkcepmalahmkiaa
open Go.RowKit
def ticksTo (ss : List Nat) (j : Nat) : List Nat := (List.range j).map fun i => tickAt ss (i + 1)
theorem ticksTo_succ (ss : List Nat) (j : Nat) : t32l (ticksTo ss (j + 1)) = t32l (ticksTo ss j) ++ [.int .u32 (tickAt ss (j + 1) : Nat)] := by simp [ticksTo, t32l, List.range_succ]
theorem ticksTo_length (ss : List Nat) (j : Nat) : (ticksTo ss j).length = j := by simp [ticksTo]
theorem ticksTo_get (ss : List Nat) (j i : Nat) (h : i < (ticksTo ss j).length) : (ticksTo ss j)[i] = tickAt ss (i + 1) := by simp [ticksTo]
set_option maxRecDepth 100000 in
set_option maxHeartbeats 4000000 in
theorem RingLast_any (k : Nat) (A : Option Addr) (n c : Nat) (ss : List Nat) (w : World) (hk : k < 256) (hl : ss.length = n) (hn : n ≤ 9223372036854775807) (hx : Rd w A (b8s ss)) (hs : ∀ s ∈ ss, s < 256) :
    Calls Try.prog 5 #[.int .u8 k, .slice A n c] w fun e w' => e = .returned (.bool true) ∧ New w w' := by
  have HL := Bx.mk hl
  have HX := Bx.mk hx
  have HS := Bx.mk hs
  obtain ⟨m, hm⟩ : ∃ m, 1 + k % 64 = m := ⟨_, rfl⟩
  have hm1 : 1 ≤ m := by omega
  have hm64 : m ≤ 64 := by omega
  have HMI := Bx.mk (show (1 + (k : Int) % 64) = (m : Int) by omega)
  clear hm
  clear hl hx hs
  go_enter Try.func5, Try.ntmps5
  go_upto_block 0 with (first
    | (go_at_call 7; (with_reducible refine (awake_any _).mono ?_); rintro e w1 ⟨rfl, N1⟩; dsimp only)
    | (rw [HMI.out]; (go_at_call 19; (with_reducible refine (NAt.of_new (m : Int) m rfl _ hm1 hm64).mono ?_); rintro e w2 ⟨rfl, N2, hR2⟩; dsimp only)))
  have hT0 : tickAt ss 0 = 0 := rfl
  go_cut [8, 9] (fun s8 s9 wx => ∃ (j : Nat), j ≤ n ∧ j ≤ 300 ∧ wx.ownsRow w1.heap.size 34 1 s9 j (t32l (ticksTo ss j)) ∧ Bx (NAt w1 wx w1.heap.size m (heldTo ss m j)) ∧ New w1 wx)
  case first =>
    go_wp2
    go_loopw [8, 9, 31] (fun s8 s9 i wr => ∃ (j : Nat), j ≤ n ∧ j ≤ 300 ∧ i = .int .i64 j ∧ s8 = .int .u32 (tickAt ss j : Nat) ∧ wr.ownsRow w1.heap.size 34 1 s9 j (t32l (ticksTo ss j)) ∧ Bx (NAt w1 wr w1.heap.size m (heldTo ss m j)) ∧ New w1 wr) (fun _ _ i _ => n - (intOf i).toNat)
    case atStart => exact ⟨0, by omega, by omega, rfl, rfl, World.ownsRow_nil _ _ _ _, ⟨by rw [show heldTo ss m 0 = [] from by simp [heldTo, allTo]]; exact hR2⟩, N2⟩
    case round =>
      obtain ⟨j, hj, hj300, rfl, rfl, ho, hR, hN⟩ := hrel
      by_cases hlt : j < n
      · obtain ⟨b, off, rfl, hc⟩ := b8_at ((HX.out.new N1).new hN) j (by rw [HL.out]; exact hlt)
        have hjl : j < ss.length := by rw [HL.out]; exact hlt
        have hs0 := HS.out _ (List.getElem_mem hjl)
        have HT1 := Bx.mk (show tickAt ss (j + 1) = tickAt ss j + (1 + ss[j]) by simp [tickAt, List.getD_eq_getElem?_getD, hjl])
        have hlt1 := tickAt_lt ss HS.out j
        have hPut := held_put ss m j hm1
        have HTT := Bx.mk (ticksTo_succ ss j)
        generalize ss[j] = s at *
        by_cases h300 : j = 300
        · subst h300
          have hni : (300 : Int) < (n : Int) := by omega
          repeat' (first | fail | go_values | go_skip | go_guarded | go_step | go_upon | go_back)
          go_meet
          case rel => exact ⟨300, by omega, by omega, ho, hR, hN⟩
        · have h3 : (j : Int) < 300 := by omega
          have h3' : ¬ (300 : Int) ≤ (j : Int) := by omega
          have hw1 : IntKind.u32.wrap (1 + (s : Int)) = 1 + (s : Int) := by rw [IntKind.wrap_u32]; omega
          have hw2 : IntKind.u32.wrap ((tickAt ss j : Int) + (1 + (s : Int))) = ((tickAt ss (j + 1) : Nat) : Int) := by rw [IntKind.wrap_u32, HT1.out]; omega
          have hbt : tickAt ss (j + 1) < 4294967296 := by rw [HT1.out]; omega
          generalize hq1 : tickAt ss (j + 1) = t1 at *
          have HQ1 := Bx.mk hq1
          clear hq1
          generalize tickAt ss j = t0 at *
          have HP := Bx.mk hPut
          clear hPut
          repeat' (first | (first
            | (go_at_call 20; (with_reducible refine (hR.out.put t1 t1 rfl (j : Int) hbt).mono ?_); rintro e w3 ⟨rfl, hR3, hU3⟩; rw [HP.out.1] at hR3; rw [HP.out.2]; have N3 := NBlk.new hU3 hN (Nat.le_refl _); have ho3 := (NBlk.row ho hU3 (by decide) (by decide)).alloc (.cells #[.int .u32 t1] 34); have hs3 := Src.ofSlice (P := Try.prog) (size := 1) _ Try.underlying22 _ 1 1 _ rfl (cells_new w3 [.int .u32 t1] 34) (by intro u hu; simp at hu; rcases hu with rfl; rfl); dsimp only)
            | (at_builtin; refine wpList_appN _ rfl _ _ 22 22 rfl _ 34 (.int .u32 0) 1 4 Try.underlying22 infoTL rfl _ _ _ ho3 rfl _ _ _ hs3 rfl _ (N3.alloc _) ?c1 ?c2 ?_; (case c1 => unfold maxLen; omega); (case c2 => omega); intro v5 w5 ho5 hu5 hk5 hv5)) | go_values | go_skip | go_guarded | go_step | go_upon | go_back)
          go_roundw
          case rel => exact ⟨j + 1, by omega, by omega, by go_num, by rw [HQ1.out], by rw [HTT.out]; exact ho5, ⟨(hR3.next ((Upd.refl _ _).alloc _)).others hk5 (fun b cs fz q => by
            obtain ⟨_, ⟨rfl, _⟩ | ⟨g1, c1, cur1, rfl, _, hh1, _⟩⟩ := ho3
            · cases q
            · simp only [Value.ownBlock, Option.some.injEq] at q
              subst q
              rw [hh1]
              exact ⟨fun e => by injection e with e; injection e with _ e; exact absurd e (by decide), fun e => by injection e with e; injection e with _ e; exact absurd e (by decide)⟩)⟩, hu5⟩
          case measure => simp [intOf]; omega
      · obtain rfl : j = n := by omega
        repeat' (first | fail | go_values | go_skip | go_guarded | go_step | go_upon | go_back)
        go_meet
        case rel => exact ⟨j, by omega, by omega, ho, hR, hN⟩
  case rest =>
    obtain ⟨j, hjn, hj300, ho, hR, hN⟩ := hcut
    have HR := hR
    have HTL := Bx.mk (ticksTo_length ss j)
    have hwj : IntKind.i64.wrap ((j : Int) - (m : Int)) = (j : Int) - (m : Int) := by rw [IntKind.wrap_i64]; omega
    obtain ⟨A9, c9, rfl, _⟩ := own_rd ho
    go_wp2
    go_loopw [55] (fun i wr => ∃ (q : Nat), q ≤ j ∧ i = .int .i64 q ∧ New wc wr) (fun i _ => j - (intOf i).toNat)
    case atStart => exact ⟨0, Nat.zero_le _, rfl, Upd.refl _ _⟩
    case round =>
      obtain ⟨q, hq, rfl, hNq⟩ := hrel
      by_cases hlt : q < j
      · obtain ⟨gA, cA, hvA, _, _, _, _, hrA⟩ := own_some (own_new ho hNq) (by omega)
        simp only [Value.slice.injEq, true_and] at hvA
        obtain ⟨rfl, rfl⟩ := hvA
        obtain ⟨b, off, hbo, hc⟩ := t32l_at hrA q (by rw [HTL.out]; exact hlt)
        simp only [Option.some.injEq, Addr.mk.injEq, and_true] at hbo
        obtain ⟨rfl, rfl⟩ := hbo
        rw [ticksTo_get, Nat.zero_add] at hc
        have hF := found_held ss m j q hlt
        generalize tickAt ss (q + 1) = t1 at *
        by_cases hin : j - m ≤ q
        · have hini : (j : Int) - (m : Int) ≤ (q : Int) := by omega
          rw [if_pos hin] at hF
          have HF := Bx.mk hF
          clear hF hrA
          repeat' (first | (go_at_call 21; (with_reducible refine ((HR.out.next hNq).get t1).mono ?_); rintro e w7 ⟨rfl, hN7⟩; rw [HF.out]; (have hc7 := hN7.cell hc (fun q => q)); rw [show valN (some (q : Int)) = .int .i64 (q : Int) from rfl, show (some (q : Int)).isSome = true from rfl]; dsimp only) | go_values | go_skip | go_guarded | go_step | go_upon | go_back)
          go_roundw
          case rel => exact ⟨q + 1, by omega, by go_num, hNq.trans hN7⟩
          case measure => simp [intOf]; omega
        · have hini : ¬ (j : Int) - (m : Int) ≤ (q : Int) := by omega
          rw [if_neg hin] at hF
          have HF := Bx.mk hF
          clear hF hrA
          repeat' (first | (go_at_call 21; (with_reducible refine ((HR.out.next hNq).get t1).mono ?_); rintro e w7 ⟨rfl, hN7⟩; rw [HF.out]; (have hc7 := hN7.cell hc (fun q => q)); rw [show valN none = .int .i64 0 from rfl, show (none : Option Int).isSome = false from rfl]; dsimp only) | go_values | go_skip | go_guarded | go_step | go_upon | go_back)
          go_roundw
          case rel => exact ⟨q + 1, by omega, by go_num, hNq.trans hN7⟩
          case measure => simp [intOf]; omega
      · obtain rfl : q = j := by omega
        have hmin : min (m : Int) (q : Int) = ((min m q : Nat) : Int) := by omega
        have HH := Bx.mk (heldTo_length ss m q)
        repeat' (first | (first
          | (go_at_call 22; (with_reducible refine ((HR.out.next hNq).len_ (min m q) HH.out).mono ?_); rintro e w7 ⟨rfl, hN7⟩; subst hN7; dsimp only)
          | ((with_reducible refine at_wpList ?_); refine wpList_min rfl _ _ _ _ rfl _ _ _ _ _ hmin rfl rfl ?_)) | go_values | go_skip | go_guarded | go_step | go_upon | go_back)
        go_ret
        exact ⟨rfl, (N1.trans hN).trans hNq⟩
end Go.Proofs.Ytkcepmalahmkiaa
