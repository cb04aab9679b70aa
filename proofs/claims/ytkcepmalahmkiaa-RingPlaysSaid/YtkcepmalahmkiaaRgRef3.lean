/- The reference of rings: Cut: walked. -/
import Derived.Test.YtkcepmalahmkiaaRgRef2
namespace Go.Proofs.Ytkcepmalahmkiaa
open Go.RowKit
/-- blocks of the reference's rings -/
def RfBlk (g : Nat) (w : World) (b : Nat) : Prop := b = g ∧ ∃ cs fz, w.heap[b]? = some (.cells cs 77 fz)
theorem ring_cell {w : World} {g : Nat} {a b : Value} (h : w.heap[g]? = some (.cells #[a, b] 77 (0, 0))) : w.cell? ⟨g, 0, none⟩ = some a ∧ w.cell? ⟨g, 1, none⟩ = some b ∧ w.frozen? ⟨g, 1, none⟩ = false :=
  ⟨by rw [World.cell?, h]; rfl, by rw [World.cell?, h]; rfl, by simp [World.frozen?, h]⟩
/-- a row of its own becomes the ring's -/
theorem RfAt.store {w0 wr : World} {g most m c : Nat} {b : Value} {A : Option Addr} {ys : List (Rit Int)} (hg : wr.heap[g]? = some (.cells #[.int .i64 most, b] 77 (0, 0))) (h0 : w0.heap.size ≤ g) (hs : w0.heap.size ≤ wr.heap.size)
    (hl : ys.length = m) (hc : m ≤ c) (hm : c ≤ maxLen) (hr : Rd wr A (rfc ys)) (hn : A = none → m = 0) (ht : ∀ a, A = some a → ys ≠ [] → ∃ cs fz, wr.heap[a.block]? = some (.cells cs 111 fz)) (h1 : m ≤ most) (h2 : 1 ≤ most) (h3 : most ≤ 64) (hup : Rising ys) (hlt : ∀ x ∈ ys, x.tick < 4294967296) :
    RfAt w0 (wr.setCell ⟨g, 1, none⟩ (.slice A m c)) g most ys := by
  subst hl
  have hne : ∀ a, A = some a → ys ≠ [] → a.block ≠ g := fun a ha hx e => by
    obtain ⟨cs, fz, q⟩ := ht a ha hx
    rw [e, hg] at q
    injection q with q
    injection q with _ q
    exact absurd q (by decide)
  refine ⟨⟨A, c, heap_setCell_same wr g 1 _ _ _ hg, hc, hm, ?_, hn, fun a ha hx => ?_⟩, by simpa [World.setCell] using hs, h0, h1, h2, h3, hup, hlt⟩
  · exact hr.upd (Upd.set1 wr ⟨g, 1, none⟩ _) fun a ha hx q => hne a ha (fun e => hx (by rw [e]; rfl)) q
  · obtain ⟨cs, fz, q⟩ := ht a ha hx
    exact ⟨cs, fz, (Upd.set1 wr ⟨g, 1, none⟩ _).blk q (hne a ha hx)⟩
/-- what an own row is made of -/
theorem own_items {w : World} {base n c : Nat} {A : Option Addr} {cs : List Value} (h : w.ownsRow base 111 2 (.slice A n c) n cs) : ∀ a, A = some a → ∃ cs fz, w.heap[a.block]? = some (.cells cs 111 fz) := by
  intro a ha
  obtain ⟨_, ⟨hv, _⟩ | ⟨g1, c1, cur1, hv, _, hh1, _⟩⟩ := h
  · simp only [Value.slice.injEq] at hv
    rw [hv.1] at ha; cases ha
  · simp only [Value.slice.injEq] at hv
    rw [hv.1] at ha
    obtain rfl := Option.some.inj ha
    exact ⟨_, _, hh1⟩
set_option maxRecDepth 20000 in
set_option maxHeartbeats 4000000 in
theorem RfAt.cut {w0 w : World} {g most : Nat} {xs : List (Rit Int)} (h : RfAt w0 w g most xs) (t : Nat) :
    Calls Try.prog 30 #[.pointer (some ⟨g, 0, none⟩), .int .u32 t] w fun e w' => e = .returned (.int .i64 (lb xs t : Nat)) ∧ RfAt w0 w' g most (xs.drop (lb xs t)) ∧ Upd (RfBlk g w) w w' := by
  obtain ⟨⟨A, c, hg, hc, hm, hr, hn, _⟩, hs0, hg0, h4, h5, h6, hup, hlt⟩ := h
  have HG := Bx.mk hg
  have k1 : w.cell? ⟨g, 1, none⟩ = some (.slice A xs.length c) := by rw [World.cell?, hg]; rfl
  have HR := Bx.mk hr
  have HFD := Bx.mk (filter_drop hup t)
  have HUP := Bx.mk (hup.drop (lb xs t))
  have HLT := Bx.mk (fun x (hx : x ∈ xs.drop (lb xs t)) => hlt x (List.mem_of_mem_drop hx))
  have HLB := Bx.mk (And.intro (lb_le xs t) (List.length_drop (i := lb xs t) (l := xs)))
  obtain ⟨n, hl⟩ : ∃ n, xs.length = n := ⟨_, rfl⟩
  rw [hl] at k1
  have hn64 : n ≤ 64 := by omega
  have HL := Bx.mk hl
  have h4' : n ≤ most := by omega
  clear hg hr hn hl h4 hc hup hlt
  generalize lb xs t = p at *
  go_enter Try.func30, Try.ntmps30
  go_wp2
  go_loopw [5, 16] (fun s i wr => ∃ j : Nat, j ≤ n ∧ i = .int .i64 j ∧ New w wr ∧ wr.ownsRow w.heap.size 111 2 s ((xs.take j).filter fun y => decide (t ≤ y.tick)).length (rfc ((xs.take j).filter fun y => decide (t ≤ y.tick)))) (fun _ i _ => n - (intOf i).toNat)
  case atStart => exact ⟨0, Nat.zero_le _, rfl, Upd.refl _ _, World.ownsRow_nil _ _ _ _⟩
  case round =>
    obtain ⟨j, hj, rfl, hN, ho⟩ := hrel
    by_cases hlt : j < n
    · have hjx : j < xs.length := by rw [HL.out]; exact hlt
      obtain ⟨b, off, rfl, c0, c1⟩ := rfc_at (HR.out.new hN) j hjx
      have HT := Bx.mk (show (xs.take (j + 1)).filter (fun y => decide (t ≤ y.tick)) = (xs.take j).filter (fun y => decide (t ≤ y.tick)) ++ (if t ≤ xs[j].tick then [xs[j]] else []) by
        rw [List.take_succ_eq_append_getElem hjx, List.filter_append]
        by_cases q : t ≤ xs[j].tick <;> simp [q])
      have hlen : ((xs.take j).filter fun y => decide (t ≤ y.tick)).length ≤ 64 := Nat.le_trans (List.length_filter_le _ _) (by rw [List.length_take]; omega)
      generalize (xs.take j).filter (fun y => decide (t ≤ y.tick)) = ys at *
      generalize xs[j] = x at *
      obtain ⟨tk, v⟩ := x
      dsimp only at c0 c1 HT
      obtain ⟨hz, z0, z1⟩ := item_new wr tk v
      obtain ⟨m, hm'⟩ : ∃ m, ys.length = m := ⟨_, rfl⟩
      rw [hm'] at ho hlen
      have HM := Bx.mk hm'
      clear hm'
      by_cases hq : t ≤ tk
      · rw [if_pos hq] at HT
        have hqi : (t : Int) ≤ (tk : Int) := by omega
        have hoz := own_new ho hz
        have hoz2 := hoz.alloc (.cells #[.int .u32 tk, .int .i64 v] 111)
        have hsz := Src.ofSlice (P := Try.prog) (size := 2) _ Try.underlying75 _ 1 1 _ rfl (cells_new (wr.alloc (.cells #[.int .u32 tk, .int .i64 v] 111)) [.int .u32 tk, .int .i64 v] 111) (by intro u hu; simp at hu; rcases hu with rfl | rfl <;> rfl)
        rw [show (wr.alloc (.cells #[.int .u32 tk, .int .i64 v] 111)).heap.size = wr.heap.size + 1 by simp] at hsz
        have hNz := (hN.trans hz).alloc (.cells #[.int .u32 tk, .int .i64 v] 111)
        clear hoz
        repeat' (first | (at_builtin; refine wpList_appN _ rfl _ _ 75 75 rfl _ 111 (.agg #[.int .u32 0, .int .i64 0]) 2 16 Try.underlying75 infoRf rfl _ _ _ hoz2 rfl _ _ _ hsz rfl _ hNz ?c1 ?c2 ?_; (case c1 => unfold maxLen; omega); (case c2 => omega); intro v5 w5 ho5 hu5 hk5 hv5) | go_values | go_skip | go_guarded | go_step | go_upon | go_back)
        go_roundw
        case rel => exact ⟨j + 1, by omega, by go_num, hu5, by rw [HT.out, List.length_append, HM.out, rfc_append]; exact ho5⟩
        case measure => simp [intOf]; omega
      · rw [if_neg hq, List.append_nil] at HT
        have hqi : ¬ (t : Int) ≤ (tk : Int) := by omega
        have hoz := own_new ho hz
        repeat' (first | fail | go_values | go_skip | go_guarded | go_step | go_upon | go_back)
        go_roundw
        case rel => exact ⟨j + 1, by omega, by go_num, hN.trans hz, by rw [HT.out, HM.out]; exact hoz⟩
        case measure => simp [intOf]; omega
    · obtain rfl : j = n := by omega
      rw [List.take_of_length_le (by rw [HL.out]; exact Nat.le_refl _), HFD.out] at ho
      have hlen := HLB.out.2
      have hle := HLB.out.1
      rw [HL.out] at hle hlen
      obtain ⟨m, hm'⟩ : ∃ m, (xs.drop p).length = m := ⟨_, rfl⟩
      rw [hm'] at ho hlen
      have HM := Bx.mk hm'
      clear hm'
      have hw : IntKind.i64.wrap ((j : Int) - (m : Int)) = (p : Int) := by rw [IntKind.wrap_i64]; omega
      obtain ⟨A5, c5, rfl, hc5, hm5, hr5, ha5⟩ := own_rd ho
      have HML := Bx.mk (show m ≤ most by omega)
      clear hlen hle
      have hgr := hN.blk HG.out (fun q => q)
      obtain ⟨_, q1, q2⟩ := ring_cell hgr
      rw [HL.out] at q1
      have HGR := Bx.mk hgr
      have hit := own_items ho
      have hnone := own_none (A := A5) ho
      clear hgr
      repeat' (first | fail | go_values | go_skip | go_guarded | go_step | go_upon | go_back)
      go_ret
      have hU : Upd (RfBlk g w) w (wr.setCell ⟨g, 1, none⟩ (.slice A5 m c5)) := (New.upd hN).setCell (p := ⟨g, 1, none⟩) (.inl ⟨rfl, _, _, HG.out⟩) _
      refine ⟨rfl, RfAt.store HGR.out hg0 (Nat.le_trans hs0 hN.size) HM.out hc5 hm5 hr5 (fun e => ?_) (fun a ha _ => hit a ha) HML.out h5 h6 HUP.out HLT.out, hU⟩
      rcases Nat.eq_zero_or_pos m with q | q
      · exact q
      · exact hnone q e
end Go.Proofs.Ytkcepmalahmkiaa
