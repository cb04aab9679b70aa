/- A component read field by field, as lists of bits. -/
import Derived.Test.YtpfdbkfjjjiamaaCm1
namespace Go.Proofs.Ytpfdbkfjjjiamaa
open Go.RowKit
/-- fields from the i-th on, m of them: the error, the fields, the rest -/
def cgRun (sE sV : Nat → List Bool → Int) (sR : Nat → List Bool → List Bool) : Nat → Nat → List Int → List Bool → Int × List Int × List Bool
  | 0, _, F, R => (0, F, R)
  | m + 1, i, F, R => if sE i R = 0 then cgRun sE sV sR m (i + 1) (F.set i (sV i R)) (sR i R) else (sE i R, [0, 0, 0], R)
/-- the kind, the fields, the rest of what is given back -/
def cgK (k : Nat) (r : Int × List Int × List Bool) : Nat := if r.1 = 0 then k else 0
def cgF (r : Int × List Int × List Bool) : List Int := if r.1 = 0 then r.2.1 else [0, 0, 0]
def cgR (R : List Bool) (r : Int × List Int × List Bool) : List Bool := if r.1 = 0 then r.2.2 else R
def compV (k : Nat) (F : List Int) : Value := .agg #[.int .u8 k, .int .i32 (F.getD 0 0), .int .i32 (F.getD 1 0), .int .i32 (F.getD 2 0)]
theorem cgRun_succ (sE sV : Nat → List Bool → Int) (sR : Nat → List Bool → List Bool) (m i : Nat) (F : List Int) (R : List Bool) : cgRun sE sV sR (m + 1) i F R = if sE i R = 0 then cgRun sE sV sR m (i + 1) (F.set i (sV i R)) (sR i R) else (sE i R, [0, 0, 0], R) := rfl
theorem new4' {w : World} {B : Nat} (x y z u : Value) : Upd (fun b => b = B) w ((((w.setCell ⟨B, 0, none⟩ x).setCell ⟨B, 1, none⟩ y).setCell ⟨B, 2, none⟩ z).setCell ⟨B, 3, none⟩ u) :=
  ((((Upd.refl (fun b => b = B) w).setCell (p := ⟨B, 0, none⟩) (.inl rfl) _).setCell (p := ⟨B, 1, none⟩) (.inl rfl) _).setCell (p := ⟨B, 2, none⟩) (.inl rfl) _).setCell (p := ⟨B, 3, none⟩) (.inl rfl) _
theorem comp_cell3 {w : World} {B : Nat} {k : Nat} {a b c : Int} (h : Rd w (some ⟨B, 0, none⟩) [.int .u8 k, .int .i32 a, .int .i32 b, .int .i32 c]) (j : Nat) (hj : j < 3) : w.cell? ⟨B, 1 + j, none⟩ = some (.int .i32 ([a, b, c].getD j 0)) := by
  obtain ⟨_, c1, c2, c3⟩ := four_cells h
  have : j = 0 ∨ j = 1 ∨ j = 2 := by omega
  rcases this with rfl | rfl | rfl
  · exact c1
  · exact c2
  · exact c3
end Go.Proofs.Ytpfdbkfjjjiamaa
