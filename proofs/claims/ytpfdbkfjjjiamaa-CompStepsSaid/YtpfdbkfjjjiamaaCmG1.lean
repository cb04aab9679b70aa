/- A component read: in, the closure of Get, Get: walked. -/
import Derived.Test.YtpfdbkfjjjiamaaCmBG
namespace Go.Proofs.Ytpfdbkfjjjiamaa
open Go.RowKit
theorem giV_bd (R : List Bool) (lo hi : Int) (hle : lo ≤ hi) (h1 : -1000000 ≤ lo) (h2 : hi ≤ 1000000) : -1000000 ≤ giV R lo hi ∧ giV R lo hi ≤ 1000000 := by
  unfold giV
  split
  · rename_i h
    have hh : ¬ hi < lo := by omega
    unfold giE at h
    rw [if_neg hh] at h
    split at h
    · rename_i h3; rw [h] at h3; exact absurd rfl h3
    · split at h
      · cases h
      · omega
  · omega
theorem rng_le (k i : Nat) (hi : i < (flds k).length) : rngLo k i ≤ rngHi k i := by
  have h := wid3 k i hi
  refine Decidable.byContradiction fun q => ?_
  have : wid (rngLo k i) (rngHi k i) = 0 := by unfold wid; rw [if_pos (by omega)]
  omega
def cgE (k i : Nat) (R : List Bool) : Int := giE R (rngLo k i) (rngHi k i)
def cgV (k i : Nat) (R : List Bool) : Int := giV R (rngLo k i) (rngHi k i)
def cgS (k i : Nat) (R : List Bool) : List Bool := giRest R (rngLo k i) (rngHi k i)
set_option maxHeartbeats 2000000 in
theorem in_any {w : World} {g a : Nat} {v : Value} {P : List (BitVec 8)} (h : IsR w g v P a) (R : List Bool) (hR : (Bi.bitsOf P).drop a = R) (ha : a ≤ 8 * P.length) (hm : P.length ≤ 1000000) (k i : Nat) (hk : k < 256) (hi : i < (flds k).length) :
    Calls Try.prog 43 #[.pointer (some ⟨g, 0, none⟩), .int .u8 k, .int .i64 i] w fun e w' => e = .returned (.tuple #[.int .i32 (cgV k i R), .int .i64 (cgE k i R)]) ∧ ∃ a', IsR w' g v P a' ∧ (Bi.bitsOf P).drop a' = cgS k i R ∧ a' ≤ 8 * P.length ∧ Upd (fun b => b = g) w w' := by
  have hb := rng_bd k i hi
  have hvb := giV_bd R (rngLo k i) (rngHi k i) (rng_le k i hi) (by omega) (by omega)
  have CR := Bx.mk (fun w => Range_any k (i : Int) w hk)
  have CI := Bx.mk (fun {w' : World} (hu : New w w') => GetIn_any (h.new hu) R hR ha hm (rngLo k i) (rngHi k i) (by omega) (by omega) (by omega) (by omega))
  unfold cgV cgE cgS
  have w1' : IntKind.i64.wrap (rngLo k i) = rngLo k i := by rw [IntKind.wrap_i64]; omega
  have w2' : IntKind.i64.wrap (rngHi k i) = rngHi k i := by rw [IntKind.wrap_i64]; omega
  have w3' : IntKind.i32.wrap (giV R (rngLo k i) (rngHi k i)) = giV R (rngLo k i) (rngHi k i) := by rw [IntKind.wrap_i32]; omega
  generalize giV R (rngLo k i) (rngHi k i) = V at *
  generalize giE R (rngLo k i) (rngHi k i) = E at *
  generalize giRest R (rngLo k i) (rngHi k i) = R' at *
  generalize rngLo k (i : Int) = lo at *
  generalize rngHi k (i : Int) = hh at *
  generalize rngE k (i : Int) = re at *
  clear hb hvb hR ha hm hk hi
  go_enter Try.func43, Try.ntmps43
  repeat' (first | (first
    | (go_at_call 57; go_loud ((with_reducible refine (CR.out _).mono ?_); rintro e w1 ⟨rfl, hu1⟩; dsimp only))
    | (go_at_call 58; go_loud ((with_reducible refine (CI.out hu1).mono ?_); rintro e w2 ⟨rfl, a', hI2, hR2, ha2, hU2⟩; dsimp only))) | go_values | go_skip | go_guarded | go_step | go_upon | go_back)
  go_returns
  exact ⟨rfl, a', hI2, hR2, ha2, (New.upd hu1).trans hU2⟩
end Go.Proofs.Ytpfdbkfjjjiamaa
