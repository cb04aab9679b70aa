/- RingKinds: walked. -/
import Derived.Test.YtkcepmalahmkiaaRgAwake
import Derived.Test.YtkcepmalahmkiaaRgP13
import Derived.Test.YtkcepmalahmkiaaRgS13
import Derived.Test.YtkcepmalahmkiaaRgPure2
import Derived.Deep.DeepCutAuto
import Derived.Deep.CutBlock
import Derived.Laws.StructEq
namespace Go.Proofs.Ytkcepmalahmkiaa
open Go.RowKit
def k32s (ts : List Nat) : List Value := ts.map fun (t : Nat) => .int .u32 t
theorem k32_at {w : World} {A : Option Addr} {xs : List Nat} (h : Rd w A (k32s xs)) (k : Nat) (hk : k < xs.length) :
    ∃ b off, A = some ⟨b, off, none⟩ ∧ w.cell? ⟨b, off + k, none⟩ = some (.int .u32 xs[k]) := by
  obtain ⟨b, off, h1, h2⟩ := h.at_ k (by simpa [k32s] using hk)
  exact ⟨b, off, h1, by simpa [k32s] using h2⟩
/-- pairs, as cells -/
def prs (L : List (Int × Bool)) : List Value := L.flatMap fun q => [.int .i32 q.1, .bool q.2]
theorem prs_get (L : List (Int × Bool)) (i : Nat) (h : i < L.length) : (prs L)[i * 2]? = some (.int .i32 L[i].1) ∧ (prs L)[i * 2 + 1]? = some (.bool L[i].2) := by
  induction L generalizing i with
  | nil => exact absurd h (Nat.not_lt_zero _)
  | cons q L ih =>
    cases i with
    | zero => exact ⟨rfl, rfl⟩
    | succ i =>
      obtain ⟨h1, h2⟩ := ih i (by simpa using h)
      rw [show (i + 1) * 2 = i * 2 + 2 by omega, show i * 2 + 2 + 1 = (i * 2 + 1) + 2 by omega]
      exact ⟨h1, h2⟩
theorem Rd.pr {w : World} {A : Option Addr} {L : List (Int × Bool)} (h : Rd w A (prs L)) (i : Nat) (hi : i < L.length) :
    ∃ b off, A = some ⟨b, off, none⟩ ∧ w.cell? ⟨b, off + i * 2, none⟩ = some (.int .i32 L[i].1) ∧ w.cell? ⟨b, off + i * 2 + 1, none⟩ = some (.bool L[i].2) := by
  obtain ⟨g0, g1⟩ := prs_get L i hi
  rcases h with h | ⟨b, off, h, hc⟩
  · rw [h] at g0; cases g0
  · exact ⟨b, off, h, hc _ _ g0, hc _ _ g1⟩
theorem pair_neq (w : World) (a : Int) (b : Bool) : (binOp .neq 30 (.agg #[.int .i32 a, .bool b]) (.agg #[.int .i32 a, .bool b])).run Try.prog w = .ok (.bool false) w := by
  rw [run_neq_struct]
  rw [show (10000 : Nat) = 9999 + 1 from rfl, run_equalIn_struct w 9999 30 _ _ (by kernel_rfl) (by kernel_rfl)]
  simp [Program.fieldsOf, Try.underlying30, Op.eqFields, part, isAgg, run_underlying Try.underlying21, run_underlying Try.underlying4, go_sem]
theorem PBlk_S {w0 w1 w w' : World} {g most : Nat} {xs : List (Rit (Option Addr × Nat × Nat))} (h : SAt w1 w g most xs) (k : Upd (PBlk w0 w) w w') : SAt w1 w' g most xs := by
  refine h.others k fun b cs fz q => ?_
  obtain ⟨_, cs', fz', q⟩ := q
  rcases q with q | q <;> (rw [q]; exact ⟨fun e => by injection e with e; injection e with _ e; exact absurd e (by decide), fun e => by injection e with e; injection e with _ e; exact absurd e (by decide)⟩)
theorem SBlk_P {w0 w1 w w' : World} {g most : Nat} {xs : List (Rit (Int × Bool))} (h : PAt w1 w g most xs) (k : Upd (SBlk w0 w) w w') : PAt w1 w' g most xs := by
  refine h.others k fun b cs fz q => ?_
  obtain ⟨_, cs', fz', q⟩ := q
  rcases q with q | q <;> (rw [q]; exact ⟨fun e => by injection e with e; injection e with _ e; exact absurd e (by decide), fun e => by injection e with e; injection e with _ e; exact absurd e (by decide)⟩)
theorem new_pair (w : World) (a : Int) (b : Bool) : New w (w.alloc (.cells #[.int .i32 a, .bool b] 30)) ∧ (w.alloc (.cells #[.int .i32 a, .bool b] 30)).heap[w.heap.size]? = some (.cells #[.int .i32 a, .bool b] 30 (0, 0)) := ⟨(Upd.refl _ w).alloc _, heap_alloc_new _ _⟩
end Go.Proofs.Ytkcepmalahmkiaa
