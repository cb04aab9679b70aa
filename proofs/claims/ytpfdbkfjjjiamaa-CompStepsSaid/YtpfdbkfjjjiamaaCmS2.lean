/- A component read behind another one: GetStep: walked. -/
import Derived.Test.YtpfdbkfjjjiamaaCmS1
import Derived.Test.YtpfdbkfjjjiamaaCmBS
import Derived.Test.YtpfdbkfjjjiamaaCmG2
namespace Go.Proofs.Ytpfdbkfjjjiamaa
open Go.RowKit
def sRes (k : Nat) (W : List Int) (R : List Bool) : Int × List Int × List Bool := cgRun (fun i R => (mv k W i R).1) (fun i R => (mv k W i R).2.1) (fun i R => (mv k W i R).2.2) (flds k).length 0 W R
theorem GetStepC_any {w : World} {g a : Nat} {v : Value} {P : List (BitVec 8)} (h : IsR w g v P a) (R : List Bool) (hR : (Bi.bitsOf P).drop a = R) (ha : a ≤ 8 * P.length) (hm : P.length ≤ 1000000) (B1 B2 k i : Nat) (a0 b0 c0 : Int) (hk : k < 256) (hi : i < (flds k).length) (hlo : rngLo k i ≤ [a0, b0, c0].getD i 0) (hhi : [a0, b0, c0].getD i 0 ≤ rngHi k i)
    (hc1 : w.cell? ⟨B1, 0, none⟩ = some (.pointer (some ⟨g, 0, none⟩))) (hc2 : Rd w (some ⟨B2, 0, none⟩) [.int .u8 k, .int .i32 a0, .int .i32 b0, .int .i32 c0]) :
    Calls Try.prog 49 #[.int .i64 i, .pointer (some ⟨B1, 0, none⟩), .pointer (some ⟨B2, 0, none⟩)] w fun e w' => e = .returned (.tuple #[.int .i32 (mv k [a0, b0, c0] i R).2.1, .int .i64 (mv k [a0, b0, c0] i R).1]) ∧ ∃ a', IsR w' g v P a' ∧ ((mv k [a0, b0, c0] i R).1 = 0 → (Bi.bitsOf P).drop a' = (mv k [a0, b0, c0] i R).2.2) ∧ a' ≤ 8 * P.length ∧ Upd (fun b => b = g) w w' := by
  have CI := Bx.mk (moved_any h R hR ha hm k i a0 b0 c0 hk hi hlo hhi)
  obtain ⟨x0, x1, x2, x3⟩ := four_cells hc2
  generalize mv k [a0, b0, c0] i R = M at *
  clear hlo hhi hi
  go_enter Try.func49, Try.ntmps49
  repeat' (first | (go_at_call 50; (with_reducible refine (CI.out).mono ?_); rintro e w2 ⟨rfl, a', hI2, hR2, ha2, hU2⟩; dsimp only) | go_values | go_skip | go_guarded | go_step | go_upon | go_back)
  go_returns
  exact ⟨rfl, a', hI2, hR2, ha2, hU2⟩
set_option maxRecDepth 20000 in
set_option maxHeartbeats 4000000 in
theorem cmGetStep_any {w : World} {g a : Nat} {v : Value} {P : List (BitVec 8)} (h : IsR w g v P a) (R : List Bool) (hR : (Bi.bitsOf P).drop a = R) (ha : a ≤ 8 * P.length) (hm : P.length ≤ 1000000) (k : Nat) (a0 b0 c0 : Int) (hk : k < 256) (hck : chk k [a0, b0, c0] = 0) :
    Calls Try.prog 28 #[.pointer (some ⟨g, 0, none⟩), .agg #[.int .u8 k, .int .i32 a0, .int .i32 b0, .int .i32 c0]] w fun e w' => e = .returned (.tuple #[compV (cgK k (sRes k [a0, b0, c0] R)) (cgF (sRes k [a0, b0, c0] R)), .int .i64 (sRes k [a0, b0, c0] R).1]) ∧ ∃ a', IsR w' g v P a' ∧ (Bi.bitsOf P).drop a' = cgR R (sRes k [a0, b0, c0] R) ∧ a' ≤ 8 * P.length ∧ Upd (fun b => b = g) w w' := by
  have hmf : ∀ (fn : Fn) (first cap : Array Value) (w : World), (Instr.makeFunc fn first cap).run Try.prog w = .ok (.func fn first cap) w := fun _ _ _ _ => rfl
  have hgl : g < w.heap.size := (Array.getElem?_eq_some_iff.1 h.obj).1
  have HC := Bx.mk (fun w => Check_any k a0 b0 c0 w hk)
  rw [hck] at HC
  obtain ⟨_, hfd, _⟩ := chk_good k a0 b0 c0 hck
  have hAl : New w (((w.alloc (.cells #[.pointer (some ⟨g, 0, none⟩)] 32)).alloc (.cells #[.int .u8 k, .int .i32 a0, .int .i32 b0, .int .i32 c0] 24)).alloc (.cells #[.int .u8 0, .int .i32 0, .int .i32 0, .int .i32 0] 24)) := (((Upd.refl _ w).alloc _).alloc _).alloc _
  have hX1 : (((w.alloc (.cells #[.pointer (some ⟨g, 0, none⟩)] 32)).alloc (.cells #[.int .u8 k, .int .i32 a0, .int .i32 b0, .int .i32 c0] 24)).alloc (.cells #[.int .u8 0, .int .i32 0, .int .i32 0, .int .i32 0] 24)).cell? ⟨w.heap.size, 0, none⟩ = some (.pointer (some ⟨g, 0, none⟩)) := by
    rw [World.cell?, (((Upd.refl Nowhere _).alloc _).alloc _).blk (heap_alloc_new w (.cells #[.pointer (some ⟨g, 0, none⟩)] 32)) (fun q => q)]; rfl
  have hX2 : Rd (((w.alloc (.cells #[.pointer (some ⟨g, 0, none⟩)] 32)).alloc (.cells #[.int .u8 k, .int .i32 a0, .int .i32 b0, .int .i32 c0] 24)).alloc (.cells #[.int .u8 0, .int .i32 0, .int .i32 0, .int .i32 0] 24)) (some ⟨w.heap.size + 1, 0, none⟩) [.int .u8 k, .int .i32 a0, .int .i32 b0, .int .i32 c0] :=
    rd_of_blkG (((Upd.refl Nowhere _).alloc _).blk (alloc_at (x := w.alloc (.cells #[.pointer (some ⟨g, 0, none⟩)] 32)) (by simp) (.cells #[.int .u8 k, .int .i32 a0, .int .i32 b0, .int .i32 c0] 24)) (fun q => q))
  have hX3 : (((w.alloc (.cells #[.pointer (some ⟨g, 0, none⟩)] 32)).alloc (.cells #[.int .u8 k, .int .i32 a0, .int .i32 b0, .int .i32 c0] 24)).alloc (.cells #[.int .u8 0, .int .i32 0, .int .i32 0, .int .i32 0] 24)).heap[w.heap.size + 1 + 1]? = some (.cells #[.int .u8 0, .int .i32 0, .int .i32 0, .int .i32 0] 24 (0, 0)) := alloc_at (by simp) _
  have hI := h.new hAl
  have HX3 := Bx.mk hX3
  have HI := Bx.mk hI
  have HAL := Bx.mk hAl
  clear hX3 hI
  obtain ⟨B, hB⟩ : ∃ B, w.heap.size = B := ⟨_, rfl⟩
  have HSB := Bx.mk hB
  have hg1 : w.heap.size ≠ g := by omega
  have hg2 : w.heap.size + 1 ≠ g := by omega
  have hg3 : w.heap.size + 1 + 1 ≠ g := by omega
  have HG3 := Bx.mk hg3
  have HX1 := Bx.mk hX1
  have HX2 := Bx.mk hX2
  obtain ⟨y0, y1, y2, y3⟩ := four_cells (rd_of_blkG (cs := [.int .u8 0, .int .i32 0, .int .i32 0, .int .i32 0]) HX3.out)
  obtain ⟨z0, z1, z2, z3⟩ := four_cells hX2
  clear hX2
  have CB := Bx.mk (fun {w1 : World} (hu1 : New _ w1) => backS (HI.out.new hu1) R hR ha w.heap.size (w.heap.size + 1) k hk a0 b0 c0 (fun i R => (mv k [a0, b0, c0] i R).1) (fun i R => (mv k [a0, b0, c0] i R).2.1) (fun i R => (mv k [a0, b0, c0] i R).2.2) (fun w' a' R' i hU hI' hR' ha' hi => GetStepC_any hI' R' hR' ha' hm _ _ k i a0 b0 c0 hk hi (hfd i hi).1 (hfd i hi).2 (hU.cell (hu1.cell HX1.out (fun q => q)) hg1) ((HX2.out.new hu1).upd hU (fun x hx _ q => by cases hx; exact hg2 q))))
  clear hR ha hm hg1 hg2 hg3 hB hgl hfd hck
  change Bx (∀ {w1 : World} (hu1 : New _ w1), Calls _ _ _ w1 fun e w' => e = .returned (.tuple #[compV (cgK k (sRes k [a0, b0, c0] R)) (cgF (sRes k [a0, b0, c0] R)), .int .i64 (sRes k [a0, b0, c0] R).1]) ∧ ∃ a', IsR w' g v P a' ∧ (Bi.bitsOf P).drop a' = cgR R (sRes k [a0, b0, c0] R) ∧ a' ≤ 8 * P.length ∧ Upd (fun b => b = g) w1 w') at CB
  generalize sRes k [a0, b0, c0] R = G at *
  go_enter Try.func28, Try.ntmps28
  repeat' (first | (first
    | (go_at_call 36; (with_reducible refine (HC.out _).mono ?_); rintro e w1 ⟨rfl, hu1⟩; (have x1 := hu1.cell HX1.out (fun q => q)); (obtain ⟨u0, u1, u2, u3⟩ := four_cells (HX2.out.new hu1)); dsimp only)
    | (go_at_call 41; (with_reducible refine (CB.out hu1).mono ?_); rintro e w2 ⟨rfl, a', hI2, hR2, ha2, hU2⟩; have q1 := hU2.blk (hu1.blk HX3.out (fun q => q)) HG3.out; (obtain ⟨t0, t1, t2, t3⟩ := four_cells (rd_of_blkG (cs := [.int .u8 0, .int .i32 0, .int .i32 0, .int .i32 0]) q1)); have tf := frz_of_blkG q1; have Q1 := Bx.mk q1; clear q1; unfold compV; dsimp only)) | go_values | go_skip | go_guarded | go_step | go_upon | go_back)
  refine bodyPost_ret (compRes Try.results28 _ _ (w.heap.size + 1 + 1) _ (0, 0) rfl (set4 Q1.out _ _ _ _) rfl) rfl ?_
  have hX := new4' (w := w2) (B := w.heap.size + 1 + 1) (.int .u8 (cgK k G)) (.int .i32 ((cgF G).getD 0 0)) (.int .i32 ((cgF G).getD 1 0)) (.int .i32 ((cgF G).getD 2 0))
  exact ⟨rfl, a', hI2.upd hX (fun q => HG3.out q.symm) (fun b hb q => own_obj_ne hI2.row Q1.out (by decide) (by rw [← show b = w.heap.size + 1 + 1 from q]; exact hb)), hR2, ha2, ((New.upd (HAL.out.trans hu1)).trans hU2).then hX (fun b q => .inr (by have : b = w.heap.size + 1 + 1 := q; omega))⟩
end Go.Proofs.Ytpfdbkfjjjiamaa
