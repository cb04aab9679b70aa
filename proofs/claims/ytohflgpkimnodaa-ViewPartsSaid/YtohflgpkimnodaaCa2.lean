/- A grid's contracts, its maps hidden. -/
import Derived.Test.YtohflgpkimnodaaCa1
namespace Go.Proofs.Ytohflgpkimnodaa
open Go.RowKit Go.Maps
/-- a grid: everybody is where M says -/
def GR (n0 : Nat) (w : World) (g : Nat) (M : Nat → Option (Int × Int)) : Prop := ∃ cb hb DC DH B, GA n0 w g cb hb DC DH B M
theorem GR.new {n0 : Nat} {w w' : World} {g : Nat} {M : Nat → Option (Int × Int)} (h : GR n0 w g M) (u : New w w') : GR n0 w' g M := by
  obtain ⟨cb, hb, DC, DH, B, h⟩ := h
  exact ⟨cb, hb, DC, DH, B, h.new u⟩
theorem GR.lt {n0 : Nat} {w : World} {g : Nat} {M : Nat → Option (Int × Int)} (h : GR n0 w g M) : g < w.heap.size := by
  obtain ⟨cb, hb, DC, DH, B, h⟩ := h
  exact (Array.getElem?_eq_some_iff.1 h.obj).1
def M0 : Nat → Option (Int × Int) := fun _ => none
def putE (i : Nat) (x y : Int) : Int := if i = 0 then 1 else if inWorld x y then 0 else 5
def putM (M : Nat → Option (Int × Int)) (i : Nat) (x y : Int) : Nat → Option (Int × Int) := if i ≠ 0 ∧ inWorld x y then mset M i (some (cell x, cell y)) else M
def inI32 (x : Int) : Prop := -2147483648 ≤ x ∧ x ≤ 2147483647
section
variable {n0 K : Nat} {w : World} {g : Nat} {M : Nat → Option (Int × Int)}
theorem newG (n0 : Nat) (w : World) (hn0 : n0 ≤ w.heap.size) : Calls Try.prog 17 #[] w fun e w' => ∃ g, e = .returned (.pointer (some ⟨g, 0, none⟩)) ∧ GR n0 w' g M0 ∧ New w w' ∧ w.heap.size ≤ g :=
  (new_any n0 w hn0).mono fun e w' ⟨g, cb, hb, h1, h2, h3, h4⟩ => ⟨g, h1, ⟨cb, hb, _, _, _, h2⟩, h3, h4⟩
theorem putG (h : GR n0 w g M) (f : Few M K) (hK : K < 1000000) (i : Nat) (I : Int) (hI : (i : Int) = I) (hi : i < 4294967296) (x y : Int) (hx : inI32 x) (hy : inI32 y) (E : Int) (hE : putE i x y = E) :
    Calls Try.prog 18 #[.pointer (some ⟨g, 0, none⟩), .int .u32 I, .int .i32 x, .int .i32 y] w fun e w' => e = .returned (.int .i64 E) ∧ GUpd n0 w w' ∧ GR n0 w' g (putM M i x y) := by
  subst hI; subst hE
  obtain ⟨cb, hb, DC, DH, B, h⟩ := h
  refine (put_any h f hK i hi x y hx hy).mono ?_
  rintro e w' ⟨rfl, h2, DC', DH', B', h3⟩
  exact ⟨rfl, h2, ⟨_, _, _, _, _, h3⟩⟩
theorem boxG (h : GR n0 w g M) (f : Few M K) (hK : K < 1000000) (x0 y0 x1 y1 : Int) (bx : inI64 x0 ∧ inI64 y0 ∧ inI64 x1 ∧ inI64 y1) (xs : List Nat) (hx : xs.Pairwise (· < ·))
    (hm : ∀ i, i ∈ xs ↔ ∃ s, M i = some s ∧ max x0 (-32) ≤ s.1 ∧ s.1 ≤ min x1 31 ∧ max y0 (-32) ≤ s.2 ∧ s.2 ≤ min y1 31) (n : Nat) (hl : xs.length = n) :
    Calls Try.prog 34 #[.pointer (some ⟨g, 0, none⟩), .int .i64 x0, .int .i64 y0, .int .i64 x1, .int .i64 y1] w fun e w' => ∃ A, e = .returned (.slice A n n) ∧ Rd w' A (idv xs) ∧ (A = none → n = 0) ∧ New w w' := by
  subst hl
  obtain ⟨cb, hb, DC, DH, B, h⟩ := h
  refine (box_any h f hK x0 y0 x1 y1 _ _ _ _ rfl rfl rfl rfl bx).mono ?_
  rintro e w' ⟨A, ys, rfl, p1, p2, p3, p4, p5⟩
  have e1 : ys = xs := by
    have hp : ys.Perm xs := (List.perm_ext_iff_of_nodup (p1.imp fun {a b} q => Nat.ne_of_lt q) (hx.imp fun {a b} q => Nat.ne_of_lt q)).2 fun a => (p2 a).trans (by
      rw [hm a]
      constructor
      · rintro ⟨s, hs, q1, q2, q3, q4⟩; exact ⟨s, hs, q1, by omega, q3, q4⟩
      · rintro ⟨s, hs, q1, q2, q3, q4⟩; exact ⟨s, hs, q1, by omega, q3, q4⟩)
    exact List.Perm.eq_of_pairwise (fun a b _ _ h1 h2 => absurd (Nat.lt_trans h1 h2) (Nat.lt_irrefl _)) p1 hx hp
  subst e1
  exact ⟨A, rfl, p3, fun q => by rw [p4 q]; rfl, p5⟩
end
theorem few0 : Few M0 0 := ⟨[], by simp, fun i s h => by cases h⟩
theorem Few.mono {M : Nat → Option (Int × Int)} {K K' : Nat} (h : Few M K) (hk : K ≤ K') : Few M K' := by
  obtain ⟨L, h1, h2⟩ := h
  exact ⟨L, by omega, h2⟩
theorem Few.set {M : Nat → Option (Int × Int)} {K : Nat} (h : Few M K) (i : Nat) (x : Option (Int × Int)) : Few (mset M i x) (K + 1) := by
  obtain ⟨L, h1, h2⟩ := h
  refine ⟨i :: L, by simp; omega, fun j s hj => ?_⟩
  by_cases q : j = i
  · rw [q]; exact List.mem_cons_self ..
  · rw [mset_other _ q] at hj
    exact List.mem_cons_of_mem _ (h2 j s hj)
theorem Few.put {M : Nat → Option (Int × Int)} {K : Nat} (h : Few M K) (i : Nat) (x y : Int) : Few (putM M i x y) (K + 1) := by
  unfold putM
  split
  · exact h.set i _
  · exact h.mono (by omega)
end Go.Proofs.Ytohflgpkimnodaa
