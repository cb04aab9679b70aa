/- FrameTails: the row: whatever the input, the law returns true, and its arguments read as they did. -/
import Derived.Test.YtbpmjbhmcnjnoaaFrL5
import Derived.Test.YtbpmjbhmcnjnoaaRows
import Derived.WalkKit
import Derived.ProofKit
import Derived.OpenShut
import Derived.ShutString
import Derived.ChangeOld
import Derived.Below
namespace Go.Proofs.Ytbpmjbhmcnjnoaa
namespace frameTails
open Go.ChangeShapes Go.WideShapes Go.ChangeAt Go.RowKit
open Go.ChangeMaps (open_string shut_string)
set_option linter.unusedVariables false

theorem own : ownKnob Try.prog.godebug = none := by kernel_rfl
theorem laidOut : laidOutB Try.prog = true := by kernel_rfl
def IsRow (k : IntKind) (w : World) (a : Option Addr) (len cap : Nat) (zs : List Int) : Prop :=
  (a = none ∧ len = 0 ∧ cap = 0 ∧ zs = []) ∨
  ∃ x, a = some x ∧ len ≤ cap ∧ cap ≤ maxLen ∧ zs.length = cap ∧ (∀ i, i < zs.length → w.cell? (x.add i) = some (.int k (zs.getD i 0))) ∧ ∀ n ∈ zs, (Lit.int k n).wf = true

set_option maxRecDepth 100000 in
theorem lifted (os : Os) (started : os.Started) (H : Type) (enc : TypeId × Value → H) :
    ReturnsInHanded {} Try.checked os 6 .any (Rows.frameTailsSpec.pre6 enc Try.prog Try.f6 Rows.frameTailsRow.domain false) (Rows.frameTailsSpec.post enc Try.prog Try.f6 false true false false) := by
  refine returnsInHanded_of_change (C := Try.checked) own started (by kernel_rfl) Try.func6
    (ChangeSpec.witness6 (enc := enc) (C := Try.checked) false ⟨#[], #[.slice none 0 0, .agg #[.int .u8 0,.int .u8 0,.int .u8 0,.int .u8 0]], []⟩ 8 (by kernel_rfl) (by kernel_rfl) (by kernel_rfl) (by kernel_rfl)) ?_
  intro W base args ds gs before hval0 hW hcnd hsz
  have hval : ∀ (j : Nat) t v, Try.f6.params[j]? = some t → args[j]? = some v → Value.okWide Try.prog W .any base t v := hval0
  have hW' := hW
  obtain ⟨p, q, hA0, hV, rfl, hfz, hnd⟩ := hW
  have hA : DataW.TrodAll enc Try.prog W 0 (fun _ => true) true Try.f6.params.toList args.toList ds p := hA0
  rw [Try.params6] at hA hval
  obtain ⟨v0, vs0, d0, ds0, p0, q0, hargs, rfl, rfl, h0, r0⟩ := trodAll_cons hA
  obtain ⟨v1, vs1, d1, ds1, p1, q1, rfl, rfl, rfl, h1, r1⟩ := trodAll_cons r0
  obtain ⟨rfl, rfl, rfl⟩ := trodAll_nil r1
  obtain rfl : args = #[v0, v1] := by cases args; simp_all
  obtain ⟨rfl, rfl⟩ := trodVars_none hV
  have k0 := h0
  have lt0 : ∀ x ∈ p0, x.block < W.heap.size := by obtain ⟨m, hm⟩ := k0; exact DataW.trod_lt m _ _ _ hm
  have k1 := h1
  have lt1 : ∀ x ∈ p1, x.block < W.heap.size := by obtain ⟨m, hm⟩ := k1; exact DataW.trod_lt m _ _ _ hm
  obtain ⟨a0, len0, cap0, rfl⟩ := okWide_slice Try.underlying22 (hval 0 22 v0 rfl rfl)
  obtain ⟨z0, w0⟩ : ∃ zs, IsRow .u8 W a0 len0 cap0 zs := by
    obtain ⟨fuel, hf⟩ := h0
    rcases open_ints Try.underlying22 Try.underlying5 (by kernel_rfl) hf with ⟨hcs, _⟩ | ⟨x, l, c, zs, hcs, _, hl, hm, hz, _, hcell, hwz⟩
    · simp [Value.cells] at hcs
      obtain ⟨rfl, rfl, rfl⟩ := hcs
      exact ⟨[], .inl ⟨rfl, rfl, rfl, rfl⟩⟩
    · simp [Value.cells] at hcs
      obtain ⟨rfl, rfl, rfl⟩ := hcs
      exact ⟨zs, .inr ⟨_, rfl, hl, hm, by simpa using hz, hcell, hwz⟩⟩
  clear hA0 hval0
  have walked : Calls Try.prog 6 #[.slice a0 len0 cap0, v1] W fun e W' => e = .returned (.bool true) ∧ Below W.heap.size W W' := by
    obtain ⟨cs, rfl, hq4⟩ : ∃ cs, v1 = .agg cs ∧ cs.size = 4 := by
      have h := hval 1 37 v1 rfl rfl
      simp only [Value.okWide, Try.underlying37] at h
      obtain ⟨cs, e1, e2, _⟩ := h
      exact ⟨cs, e1, by rw [e2]; kernel_rfl⟩
    obtain ⟨c0, c1, c2, c3, rfl⟩ : ∃ c0 c1 c2 c3, cs = #[c0, c1, c2, c3] := by
      obtain ⟨l⟩ := cs
      rcases l with _ | ⟨c0, _ | ⟨c1, _ | ⟨c2, _ | ⟨c3, _ | ⟨c4, l⟩⟩⟩⟩⟩ <;> simp at hq4
      exact ⟨c0, c1, c2, c3, rfl⟩
    obtain ⟨fuel, hf⟩ := h1
    obtain ⟨y0, y1, y2, y3, n, -, t0, t1, t2, t3⟩ := trod_array4 Try.underlying37 (by kernel_rfl) hf
    obtain ⟨i0, e0, -, wf0⟩ := DataW.trod_int Try.underlying5 t0
    obtain ⟨i1, e1, -, wf1⟩ := DataW.trod_int Try.underlying5 t1
    obtain ⟨i2, e2, -, wf2⟩ := DataW.trod_int Try.underlying5 t2
    obtain ⟨i3, e3, -, wf3⟩ := DataW.trod_int Try.underlying5 t3
    obtain rfl : c0 = _ := by simpa using e0
    obtain rfl : c1 = _ := by simpa using e1
    obtain rfl : c2 = _ := by simpa using e2
    obtain rfl : c3 = _ := by simpa using e3
    obtain ⟨b0, rfl⟩ := bv8_of_wf wf0
    obtain ⟨b1, rfl⟩ := bv8_of_wf wf1
    obtain ⟨b2, rfl⟩ := bv8_of_wf wf2
    obtain ⟨b3, rfl⟩ := bv8_of_wf wf3
    obtain ⟨xs, hl, hc, hA1, hr⟩ := bytes_of_row w0
    exact (FrameTails_any a0 len0 cap0 b0 b1 b2 b3 xs W hl hc hA1 hr).mono fun e w' ⟨he, hu⟩ => ⟨he, hu.below⟩
  refine walked.mono fun e W' ⟨he, bel⟩ => ?_
  subst he
  exact ⟨_, rfl, _, _, _, [], _, [], hW', trodAll_mk1 (shut_bool Try.underlying4 _), (trodAll_cons_mk (Below.trod laidOut (by kernel_rfl) (of_decide_eq_true (by kernel_rfl)) k0 bel lt0) (trodAll_cons_mk (Below.trod laidOut (by kernel_rfl) (of_decide_eq_true (by kernel_rfl)) k1 bel lt1) trodAll_mk0)), rfl, bel.frame _, fun h => by cases h⟩

theorem over : Rows.frameTailsRow.holds Try.pinned (OpenSpec.ofChange Rows.frameTailsSpec) :=
  OpenClaim.holds_of_wide 6 Try.f6 rfl rfl rfl rfl rfl rfl rfl ⟨rfl, rfl, rfl, rfl, rfl⟩ rfl rfl rfl rfl rfl (by kernel_rfl) Try.func6 (by kernel_rfl)
    (of_decide_eq_true (by kernel_rfl)) (by unfold Func.isWrapper; first | (rw [if_pos (by decide +kernel)]; kernel_rfl) | (rw [if_neg (by decide +kernel)]; exact ⟨rfl, rfl⟩))
    (fun os started H enc _ => lifted os started H enc)
end frameTails
/-- THE STATEMENT -/
theorem frameTails_holds : Rows.FrameTailsSaid := frameTails.over
#print axioms frameTails_holds
end Go.Proofs.Ytbpmjbhmcnjnoaa
