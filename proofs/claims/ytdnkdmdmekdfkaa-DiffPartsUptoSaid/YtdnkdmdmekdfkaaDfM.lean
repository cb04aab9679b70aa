/- Names counted in a map. -/
import Derived.Test.YtdnkdmdmekdfkaaDf19
import Derived.Maps.OwnOps
import Derived.Maps.Views
import Derived.Maps.RangeWalk
namespace Go.Proofs.Ytdnkdmdmekdfkaa
open Go.RowKit Go.Maps
theorem keyD : Keyed Try.prog 40 := int_keyed Try.underlying40
theorem zeroD (w : World) : (zeroValue 3).run Try.prog w = .ok (.int .i64 0) w := by kernel_rfl
theorem wf_u32 {v : Nat} (h : v < 4294967296) : (Lit.int .u32 (v : Int)).wf = true := by
  have h1 : IntKind.u32.max = 4294967295 := by decide
  have h2 : IntKind.u32.min = 0 := by decide
  simp only [Lit.wf, IntKind.has, Bool.and_eq_true, decide_eq_true_eq]
  omega
theorem keyOfD {v : Nat} (h : v < 4294967296) : keyOf Try.prog 40 (.int .u32 v) = some (.int .u32 v) := keyOf_int_mk Try.underlying40 (wf_u32 h)
theorem map_upd {S : Nat → Prop} {w w' : World} {b n : Nat} {D : DataW Unit} {k : TypeId} {R : Value → Option (DataW Unit × List MemPlace)} (h : w.ownsMap Try.prog k R b n D) (hu : Upd S w w') (hn : ¬ S b) : w'.ownsMap Try.prog k R b n D := by
  obtain ⟨es, clock, ho, r⟩ := h
  exact ⟨es, clock, hu.blk ho hn, r⟩
theorem upd_grown {w w' : World} {b : Nat} (h : w.grownBy w' (some b)) : Upd (fun k => k = b) w w' := ⟨h.os, h.tape, h.output, h.size, fun k hk hn => h.block k hk (fun e => hn (Option.some.inj e))⟩
theorem litK (v : Nat) : WideAt.IsKeyLit (Lit.int .u32 (v : Int)) := trivial
/-- the map knows just these names, each once -/
structure SeenD (D : DataW Unit) (ks : List Nat) : Prop where
  m : IsMap D
  at_ : ∀ v : Nat, D.atKey (.int .u32 v) (.lit (.int .i64 0)) = .lit (.int .i64 (if v ∈ ks then 1 else 0))
  one : ∀ (l : Lit) (z : DataW Unit), Go.Maps.has D l = true → D.atKey l z = .lit (.int .i64 1)
theorem SeenD.none : SeenD (.map []) [] := ⟨⟨[], rfl⟩, (fun v => rfl), (fun l z h => by cases h)⟩
theorem SeenD.plus {D : DataW Unit} {ks : List Nat} {v : Nat} (h : SeenD D ks) : SeenD (D.put (.int .u32 v) (.lit (.int .i64 1))) (ks ++ [v]) := by
  refine ⟨IsMap.put h.m _ _, fun u => ?_, fun l z hl => ?_⟩
  · by_cases e : u = v
    · subst e
      rw [atKey_put_same h.m (litK u), if_pos (by simp)]
    · rw [atKey_put_other (fun q => e (by injection q with _ q; omega)), h.at_]
      congr 2
      by_cases hu : u ∈ ks
      · rw [if_pos hu, if_pos (List.mem_append_left _ hu)]
      · rw [if_neg hu, if_neg (fun q => (List.mem_append.1 q).elim hu (fun q => e (by simpa using q)))]
  · by_cases e : l = .int .u32 v
    · subst e; exact atKey_put_same h.m (litK v) _ _
    · rw [atKey_put_other e]
      rw [has_put_other e] at hl
      exact h.one l z hl
/-- the map lies at B -/
structure Seen (w : World) (B : Nat) (ks : List Nat) : Prop where
  ex : ∃ D, w.ownsMap Try.prog 40 (plainElem Try.prog 3) B ks.length D ∧ SeenD D ks
theorem Seen.new {w w' : World} {B : Nat} {ks : List Nat} (h : Seen w B ks) (k : New w w') : Seen w' B ks := by
  obtain ⟨D, h1, h2⟩ := h.ex
  exact ⟨D, map_upd h1 k (fun q => q), h2⟩
theorem Seen.look {w : World} {B : Nat} {ks : List Nat} (h : Seen w B ks) {v : Nat} (hv : v < 4294967296) : (Instr.lookup 55 (.map (some B)) (.int .u32 v) false).run Try.prog w = .ok (.int .i64 (if v ∈ ks then 1 else 0)) w := by
  obtain ⟨D, h1, h2⟩ := h.ex
  obtain ⟨c, hrun, hat, _⟩ := h1.lookup_int keyD Try.underlying55 Try.underlying3 (zeroD w) (keyOfD hv)
  rw [h2.at_] at hat
  simp only [DataW.lit.injEq, Lit.int.injEq, true_and] at hat
  rw [hrun, ← hat]
end Go.Proofs.Ytdnkdmdmekdfkaa
