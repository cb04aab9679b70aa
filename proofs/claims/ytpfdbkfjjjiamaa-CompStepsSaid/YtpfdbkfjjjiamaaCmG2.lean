/- A component read: Get: walked. -/
import Derived.Test.YtpfdbkfjjjiamaaCmG1
namespace Go.Proofs.Ytpfdbkfjjjiamaa
open Go.RowKit
/-- what Get gives back -/
def gRes (k : Nat) (R : List Bool) : Int × List Int × List Bool := cgRun (cgE k) (cgV k) (cgS k) (flds k).length 0 [0, 0, 0] R
def gE (k : Nat) (R : List Bool) : Int := if (flds k).length = 0 then 1 else (gRes k R).1
def gK (k : Nat) (R : List Bool) : Nat := if (flds k).length = 0 then 0 else cgK k (gRes k R)
def gF (k : Nat) (R : List Bool) : List Int := if (flds k).length = 0 then [0, 0, 0] else cgF (gRes k R)
def gR (k : Nat) (R : List Bool) : List Bool := if (flds k).length = 0 then R else cgR R (gRes k R)
theorem GetC_any {w : World} {g a : Nat} {v : Value} {P : List (BitVec 8)} (h : IsR w g v P a) (R : List Bool) (hR : (Bi.bitsOf P).drop a = R) (ha : a ≤ 8 * P.length) (hm : P.length ≤ 1000000) (B1 B2 k i : Nat) (hk : k < 256) (hi : i < (flds k).length)
    (hc1 : w.cell? ⟨B1, 0, none⟩ = some (.pointer (some ⟨g, 0, none⟩))) (hc2 : w.cell? ⟨B2, 0, none⟩ = some (.int .u8 k)) :
    Calls Try.prog 42 #[.int .i64 i, .pointer (some ⟨B1, 0, none⟩), .pointer (some ⟨B2, 0, none⟩)] w fun e w' => e = .returned (.tuple #[.int .i32 (cgV k i R), .int .i64 (cgE k i R)]) ∧ ∃ a', IsR w' g v P a' ∧ (cgE k i R = 0 → (Bi.bitsOf P).drop a' = cgS k i R) ∧ a' ≤ 8 * P.length ∧ Upd (fun b => b = g) w w' := by
  have CI := Bx.mk (in_any h R hR ha hm k i hk hi)
  go_enter Try.func42, Try.ntmps42
  repeat' (first | (go_at_call 43; go_loud ((with_reducible refine (CI.out).mono ?_); rintro e w2 ⟨rfl, a', hI2, hR2, ha2, hU2⟩; dsimp only)) | go_values | go_skip | go_guarded | go_step | go_upon | go_back)
  go_returns
  exact ⟨rfl, a', hI2, fun _ => hR2, ha2, hU2⟩
set_option maxRecDepth 20000 in
set_option maxHeartbeats 4000000 in
theorem cmGet_any {w : World} {g a : Nat} {v : Value} {P : List (BitVec 8)} (h : IsR w g v P a) (R : List Bool) (hR : (Bi.bitsOf P).drop a = R) (ha : a ≤ 8 * P.length) (hm : P.length ≤ 1000000) (k : Nat) (hk : k < 256) :
    Calls Try.prog 18 #[.pointer (some ⟨g, 0, none⟩), .int .u8 k] w fun e w' => e = .returned (.tuple #[compV (gK k R) (gF k R), .int .i64 (gE k R)]) ∧ ∃ a', IsR w' g v P a' ∧ (Bi.bitsOf P).drop a' = gR k R ∧ a' ≤ 8 * P.length ∧ Upd (fun b => b = g) w w' := by
  have hmf : ∀ (fn : Fn) (first cap : Array Value) (w : World), (Instr.makeFunc fn first cap).run Try.prog w = .ok (.func fn first cap) w := fun _ _ _ _ => rfl
  have hgl : g < w.heap.size := (Array.getElem?_eq_some_iff.1 h.obj).1
  have HC := Bx.mk (fun w => Count_any k w hk)
  have hAl : New w (((w.alloc (.cells #[.pointer (some ⟨g, 0, none⟩)] 32)).alloc (.cells #[.int .u8 k] 5)).alloc (.cells #[.int .u8 0, .int .i32 0, .int .i32 0, .int .i32 0] 24)) := (((Upd.refl _ w).alloc _).alloc _).alloc _
  have hX1 : (((w.alloc (.cells #[.pointer (some ⟨g, 0, none⟩)] 32)).alloc (.cells #[.int .u8 k] 5)).alloc (.cells #[.int .u8 0, .int .i32 0, .int .i32 0, .int .i32 0] 24)).cell? ⟨w.heap.size, 0, none⟩ = some (.pointer (some ⟨g, 0, none⟩)) := by
    rw [World.cell?, (((Upd.refl Nowhere _).alloc _).alloc _).blk (heap_alloc_new w (.cells #[.pointer (some ⟨g, 0, none⟩)] 32)) (fun q => q)]; rfl
  have hX2 : (((w.alloc (.cells #[.pointer (some ⟨g, 0, none⟩)] 32)).alloc (.cells #[.int .u8 k] 5)).alloc (.cells #[.int .u8 0, .int .i32 0, .int .i32 0, .int .i32 0] 24)).cell? ⟨w.heap.size + 1, 0, none⟩ = some (.int .u8 k) := by
    rw [World.cell?, ((Upd.refl Nowhere _).alloc _).blk (alloc_at (x := w.alloc (.cells #[.pointer (some ⟨g, 0, none⟩)] 32)) (by simp) (.cells #[.int .u8 k] 5)) (fun q => q)]; rfl
  have hX3 : (((w.alloc (.cells #[.pointer (some ⟨g, 0, none⟩)] 32)).alloc (.cells #[.int .u8 k] 5)).alloc (.cells #[.int .u8 0, .int .i32 0, .int .i32 0, .int .i32 0] 24)).heap[w.heap.size + 1 + 1]? = some (.cells #[.int .u8 0, .int .i32 0, .int .i32 0, .int .i32 0] 24 (0, 0)) := alloc_at (by simp) _
  have hI := h.new hAl
  have HX3 := Bx.mk hX3
  have HI := Bx.mk hI
  have HAL := Bx.mk hAl
  clear hX3 hI
  obtain ⟨B, hB⟩ : ∃ B, w.heap.size = B := ⟨_, rfl⟩
  have HSB := Bx.mk hB
  have hg1 : w.heap.size ≠ g := by omega
  have hg2 : w.heap.size + 1 ≠ g := by omega
  have hg3 : w.heap.size + 1 + 1 ≠ g := by omega
  have HG3 := Bx.mk hg3
  have HX1 := Bx.mk hX1
  have HX2 := Bx.mk hX2
  obtain ⟨y0, y1, y2, y3⟩ := four_cells (rd_of_blkG (cs := [.int .u8 0, .int .i32 0, .int .i32 0, .int .i32 0]) HX3.out)
  by_cases hn : (flds k).length = 0
  · have e1 : gE k R = 1 := if_pos hn
    have e2 : gK k R = 0 := if_pos hn
    have e3 : gF k R = [0, 0, 0] := if_pos hn
    have e4 : gR k R = R := if_pos hn
    rw [hn] at HC
    rw [e1, e2, e3, e4]
    have BRH := Bx.mk (And.intro hR ha)
    clear e1 e2 e3 e4 hR ha hm hg1 hg2 hg3 hB hgl
    go_enter Try.func18, Try.ntmps18
    repeat' (first | (go_at_call 40; go_loud ((with_reducible refine (HC.out _).mono ?_); rintro e w1 ⟨rfl, hu1⟩; have q1 := hu1.blk HX3.out (fun q => q); (obtain ⟨t0, t1, t2, t3⟩ := four_cells (rd_of_blkG (cs := [.int .u8 0, .int .i32 0, .int .i32 0, .int .i32 0]) q1)); have tf := frz_of_blkG q1; clear q1; dsimp only)) | go_values | go_skip | go_guarded | go_step | go_upon | go_back)
    have q1 := hu1.blk HX3.out (fun q => q)
    refine bodyPost_ret (compRes Try.results18 _ _ (w.heap.size + 1 + 1) _ (0, 0) rfl (set4 q1 _ _ _ _) rfl) rfl ?_
    have hX := new4' (w := w1) (B := w.heap.size + 1 + 1) (.int .u8 0) (.int .i32 0) (.int .i32 0) (.int .i32 0)
    have hI1 := HI.out.new hu1
    exact ⟨rfl, a, hI1.upd hX (fun q => HG3.out q.symm) (fun b hb q => own_obj_ne hI1.row q1 (by decide) (by rw [← show b = w.heap.size + 1 + 1 from q]; exact hb)), BRH.out.1, BRH.out.2, (New.upd (HAL.out.trans hu1)).then hX (fun b q => .inr (by have : b = w.heap.size + 1 + 1 := q; omega))⟩
  · have e1 : gE k R = (gRes k R).1 := if_neg hn
    have e2 : gK k R = cgK k (gRes k R) := if_neg hn
    have e3 : gF k R = cgF (gRes k R) := if_neg hn
    have e4 : gR k R = cgR R (gRes k R) := if_neg hn
    rw [e1, e2, e3, e4]
    have CB := Bx.mk (fun {w1 : World} (hu1 : New _ w1) => backG (HI.out.new hu1) R hR ha w.heap.size (w.heap.size + 1) k hk 0 0 0 (cgE k) (cgV k) (cgS k) (fun w' a' R' i hU hI' hR' ha' hi => GetC_any hI' R' hR' ha' hm _ _ k i hk hi (hU.cell (hu1.cell HX1.out (fun q => q)) hg1) (hU.cell (hu1.cell HX2.out (fun q => q)) hg2)))
    have hnb : ((flds k).length : Int) ≠ 0 := by omega
    have hnb2 : (((flds k).length : Int) == 0) = false := by simpa using hnb
    clear e1 e2 e3 e4 hR ha hm hg1 hg2 hg3 hB hgl hn
    change Bx (∀ {w1 : World} (hu1 : New _ w1), Calls _ _ _ w1 fun e w' => e = .returned (.tuple #[compV (cgK k (gRes k R)) (cgF (gRes k R)), .int .i64 (gRes k R).1]) ∧ ∃ a', IsR w' g v P a' ∧ (Bi.bitsOf P).drop a' = cgR R (gRes k R) ∧ a' ≤ 8 * P.length ∧ Upd (fun b => b = g) w1 w') at CB
    generalize gRes k R = G at *
    generalize (flds k).length = n at *
    go_enter Try.func18, Try.ntmps18
    repeat' (first | (first
      | (go_at_call 40; go_loud ((with_reducible refine (HC.out _).mono ?_); rintro e w1 ⟨rfl, hu1⟩; (have x1 := hu1.cell HX1.out (fun q => q)); (have x2 := hu1.cell HX2.out (fun q => q)); dsimp only))
      | (go_at_call 41; go_loud ((with_reducible refine (CB.out hu1).mono ?_); rintro e w2 ⟨rfl, a', hI2, hR2, ha2, hU2⟩; have q1 := hU2.blk (hu1.blk HX3.out (fun q => q)) HG3.out; (obtain ⟨t0, t1, t2, t3⟩ := four_cells (rd_of_blkG (cs := [.int .u8 0, .int .i32 0, .int .i32 0, .int .i32 0]) q1)); have tf := frz_of_blkG q1; have Q1 := Bx.mk q1; clear q1; unfold compV; dsimp only))) | go_values | go_skip | go_guarded | go_step | go_upon | go_back)
    refine bodyPost_ret (compRes Try.results18 _ _ (w.heap.size + 1 + 1) _ (0, 0) rfl (set4 Q1.out _ _ _ _) rfl) rfl ?_
    have hX := new4' (w := w2) (B := w.heap.size + 1 + 1) (.int .u8 (cgK k G)) (.int .i32 ((cgF G).getD 0 0)) (.int .i32 ((cgF G).getD 1 0)) (.int .i32 ((cgF G).getD 2 0))
    exact ⟨rfl, a', hI2.upd hX (fun q => HG3.out q.symm) (fun b hb q => own_obj_ne hI2.row Q1.out (by decide) (by rw [← show b = w.heap.size + 1 + 1 from q]; exact hb)), hR2, ha2, ((New.upd (HAL.out.trans hu1)).trans hU2).then hX (fun b q => .inr (by have : b = w.heap.size + 1 + 1 := q; omega))⟩
end Go.Proofs.Ytpfdbkfjjjiamaa
