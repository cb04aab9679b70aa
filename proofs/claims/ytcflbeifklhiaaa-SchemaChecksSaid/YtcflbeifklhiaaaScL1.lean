/- The law of checks. -/
import Derived.Test.YtcflbeifklhiaaaSc6
namespace Go.Proofs.Ytcflbeifklhiaaa
open Go.RowKit

theorem checks_any (k : Nat) (a b c : Int) (w : World) (hk : k < 256) :
    Calls Try.prog 3 #[.agg #[.int .u8 k, .int .i32 a, .int .i32 b, .int .i32 c]] w fun e w' => e = .returned (.bool true) ∧ New w w' := by
  have hr4 := rd_new w [.int .u8 k, .int .i32 a, .int .i32 b, .int .i32 c] 24
  have hA0 : (w.alloc (.cells #[.int .u8 k, .int .i32 a, .int .i32 b, .int .i32 c] 24)).cell? ⟨w.heap.size, 0, none⟩ = some (.int .u8 k) := by rw [World.cell?, heap_alloc_new]; rfl
  have hA1 : (w.alloc (.cells #[.int .u8 k, .int .i32 a, .int .i32 b, .int .i32 c] 24)).cell? ⟨w.heap.size, 1, none⟩ = some (.int .i32 a) := by rw [World.cell?, heap_alloc_new]; rfl
  have hA2 : (w.alloc (.cells #[.int .u8 k, .int .i32 a, .int .i32 b, .int .i32 c] 24)).cell? ⟨w.heap.size, 2, none⟩ = some (.int .i32 b) := by rw [World.cell?, heap_alloc_new]; rfl
  have hA3 : (w.alloc (.cells #[.int .u8 k, .int .i32 a, .int .i32 b, .int .i32 c] 24)).cell? ⟨w.heap.size, 3, none⟩ = some (.int .i32 c) := by rw [World.cell?, heap_alloc_new]; rfl
  obtain ⟨E, hE⟩ : ∃ E, chk k [a, b, c] = E := ⟨_, rfl⟩
  have BE := Bx.mk hE
  clear hE hr4
  go_enter Try.func3, Try.ntmps3
  repeat' (first | fail | go_values | go_skip | go_guarded | go_step | go_upon | go_back)
  have hN := (Upd.refl Nowhere w).alloc (.cells #[.int .u8 k, .int .i32 a, .int .i32 b, .int .i32 c] 24)
  generalize w.alloc (.cells #[.int .u8 k, .int .i32 a, .int .i32 b, .int .i32 c] 24) = wa at *
  have C0 := fun x : After wa => x.h.cell hA0 (fun q => q)
  have C1 := fun x : After wa => x.h.cell hA1 (fun q => q)
  have C2 := fun x : After wa => x.h.cell hA2 (fun q => q)
  have C3 := fun x : After wa => x.h.cell hA3 (fun q => q)
  clear hA0 hA1 hA2 hA3
  (refine wp_region_calm (by kernel_rfl) (by kernel_rfl) ?_; (repeat (go_big_quiet_step ((first | (go_at_call 9; refine Calls.calm (awake_any _)) | (go_at_call 10; refine Calls.calm (Check_e k k a b c _ hk rfl E BE.out)) | (go_at_call 11; refine Calls.calm (refCheck_e k k a b c _ hk rfl E BE.out)))))); refine wpQuiet_nil ?_; intro wq hq)
  repeat' (first | fail | go_values | go_skip | go_guarded | go_step | go_upon | go_back)
  go_ret
  exact ⟨by simp, hN.trans hq⟩
end Go.Proofs.Ytcflbeifklhiaaa
