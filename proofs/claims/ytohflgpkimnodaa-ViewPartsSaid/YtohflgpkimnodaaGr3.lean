/- Look-ups in a grid's maps. -/
import Derived.Test.YtohflgpkimnodaaGr2
namespace Go.Proofs.Ytohflgpkimnodaa
open Go.RowKit Go.Maps
theorem zeroSpot (w : World) : (zeroValue 68).run Try.prog w = .ok (.agg #[.int .i64 0, .int .i64 0]) w := by kernel_rfl
theorem zeroSet (w : World) : (zeroValue 72).run Try.prog w = .ok (.map none) w := by kernel_rfl
theorem keyId {i : Nat} (h : i < 4294967296) : keyOf Try.prog 38 (.int .u32 i) = some (idKey i) := idKey_of i h
theorem keySpot {s : Int × Int} (h : inS s) : keyOf Try.prog 68 (spotV s) = some (spotKey s) := spotKey_of s h.1 h.2
theorem eql_some (b : Nat) (w : World) : (binOp .eql 72 (.map (some b)) (.map none)).run Try.prog w = .ok (.bool false) w := by kernel_rfl
theorem eql_none (w : World) : (binOp .eql 72 (.map none) (.map none)).run Try.prog w = .ok (.bool true) w := by kernel_rfl
/-- m[k] = v inside a region that draws its order (for go_region_law) -/
theorem step_mapUpdate {H : Type} {P : Program} {w : World} {ops : Array Oper} {o : Oper} {a : Act} {K : Act → World → Prop} {Q : Exit → Act → World → Prop} {E : Prop} (hg : o.guard = none) (m x v : Operand) (t : TypeId) (hop : o.op = Op.mapUpdate t m x v)
    (k e : TypeId) (KL : Keyed P k) (ht : P.underlying t = some (.map k e)) (R : Value → Option (DataW H × List MemPlace)) (b n : Nat) (D : DataW H)
    (hm : a.eval m = .map (some b)) (hown : w.ownsMap P k R b n D) (hn : n < maxLen) (key val : Value) (kl : Lit) (hx : a.eval x = key) (hv : a.eval v = val) (hkey : keyOf P k key = some kl)
    (d : DataW H) (ps : List MemPlace) (hval : R val = some (d, ps))
    (hK : ∀ w', w'.ownsMap P k R b (n + 1) (D.put kl d) → w.mapTurned w' b → K (a.put o.dst undef) w') :
    if Region.wanted o (yielded ops a.tmps) = true then Oper.wp P o a w K Q else E := by
  rw [if_pos (by simp [Region.wanted, hg])]
  obtain ⟨w', hrun, r1, r2⟩ := hown.store KL ht hn hkey hval
  unfold Oper.wp
  simp [execOp, hop, hm, hx, hv, hrun, Result.andThen]
  exact hK w' r1 r2
section
variable {w : World} {cb hb n : Nat} {DC DH : DataW Unit}
theorem look_home (h : w.ownsMap Try.prog 38 spotElem hb n DH) {i : Nat} (hi : i < 4294967296) {s : Int × Int} (hat : ∀ z, DH.atKey (idKey i) z = spotD s) :
    (Instr.lookup 60 (.map (some hb)) (.int .u32 i) true).run Try.prog w = .ok (.tuple #[.agg #[.int .i64 s.1, .int .i64 s.2], .bool true]) w := by
  obtain ⟨v, ps, hr, hv⟩ := h.look_ok idLaw Try.underlying60 (zeroSpot w) (spotElem_mk (0, 0)) (keyId hi)
  rw [has_true_of_atKey hat] at hr
  rw [hat] at hv
  rw [hr, spotElem_inv hv]; rfl
theorem look_home0 (h : w.ownsMap Try.prog 38 spotElem hb n DH) {i : Nat} (hi : i < 4294967296) (hn : has DH (idKey i) = false) :
    (Instr.lookup 60 (.map (some hb)) (.int .u32 i) true).run Try.prog w = .ok (.tuple #[.agg #[.int .i64 0, .int .i64 0], .bool false]) w := by
  obtain ⟨v, ps, hr, hv⟩ := h.look_ok idLaw Try.underlying60 (zeroSpot w) (spotElem_mk (0, 0)) (keyId hi)
  rw [hn] at hr
  rw [atKey_of_not_has hn] at hv
  rw [hr, spotElem_inv hv]; rfl
theorem look_set (h : w.ownsMap Try.prog 68 setElem cb n DC) {s : Int × Int} (hs : inS s) {b : Nat} (hat : ∀ z, DC.atKey (spotKey s) z = .lit (.int .u64 b)) :
    (Instr.lookup 59 (.map (some cb)) (.agg #[.int .i64 s.1, .int .i64 s.2]) false).run Try.prog w = .ok (.map (some b)) w := by
  obtain ⟨v, ps, hr, hv⟩ := h.lookup spotLaw Try.underlying59 (zeroSet w) (zd := .nil) (zp := []) rfl (keySpot hs)
  rw [hat] at hv
  rw [setElem_some hv] at hr
  exact hr
theorem look_set0 (h : w.ownsMap Try.prog 68 setElem cb n DC) {s : Int × Int} (hs : inS s) (hn : has DC (spotKey s) = false) :
    (Instr.lookup 59 (.map (some cb)) (.agg #[.int .i64 s.1, .int .i64 s.2]) false).run Try.prog w = .ok (.map none) w := by
  obtain ⟨v, ps, hr, hv⟩ := h.lookup spotLaw Try.underlying59 (zeroSet w) (zd := .nil) (zp := []) rfl (keySpot hs)
  rw [atKey_of_not_has hn] at hv
  rw [setElem_nil hv] at hr
  exact hr
end
section
variable {n0 : Nat} {w : World} {g cb hb : Nat} {DC DH : DataW Unit} {B : Int × Int → Nat} {M : Nat → Option (Int × Int)}
theorem GA.noHome (h : GA n0 w g cb hb DC DH B M) {i : Nat} (hi : M i = none) : has DH (idKey i) = false := by
  cases q : has DH (idKey i) with
  | false => rfl
  | true =>
    obtain ⟨j, s, hj, e⟩ := (h.hhas _).1 q
    rw [← idKey_inj _ _ e, hi] at hj; cases hj
theorem GA.noCell (h : GA n0 w g cb hb DC DH B M) {s : Int × Int} (hs : inS s) (hk : ∀ k, M k ≠ some s) : has DC (spotKey s) = false := by
  cases q : has DC (spotKey s) with
  | false => rfl
  | true =>
    obtain ⟨j, t, hj, e⟩ := (h.chas _).1 q
    exact absurd (spotInj hs (h.dom j t hj).2 e ▸ hj) (hk j)
theorem GA.c0 (h : GA n0 w g cb hb DC DH B M) : w.cell? ⟨g, 0, none⟩ = some (.map (some cb)) := by rw [World.cell?, h.obj]; rfl
theorem GA.c1 (h : GA n0 w g cb hb DC DH B M) : w.cell? ⟨g, 1, none⟩ = some (.map (some hb)) := by rw [World.cell?, h.obj]; rfl
end
end Go.Proofs.Ytohflgpkimnodaa
