/- Counts kept in a map, and their sum: no program in sight. -/
import Derived.Test.YtefnpkmbjabcmaaDoorNtL1
import Derived.Maps.OwnOps
import Derived.Maps.Views
import Derived.Maps.RangeWalk
namespace Go.Proofs.YtefnpkmbjabcmaaDoor
open Go.Maps

def num : DataW Unit → Int
  | .lit (.int _ n) => n
  | _ => 0
def sumOf (es : List (Lit × DataW Unit)) : Int := (es.map fun p => num p.2).sum
def total : DataW Unit → Int
  | .map es => sumOf es
  | _ => 0
theorem sumOf_cons (p : Lit × DataW Unit) (es : List (Lit × DataW Unit)) : sumOf (p :: es) = num p.2 + sumOf es := by simp [sumOf]
theorem sumOf_insert (x : Lit × DataW Unit) (es : List (Lit × DataW Unit)) : sumOf (DataW.insert x es) = num x.2 + sumOf es := by
  induction es with
  | nil => rfl
  | cons y es ih =>
    rw [DataW.insert]
    split
    · simp [sumOf]
    · rw [sumOf_cons, sumOf_cons, ih]; omega
theorem sumOf_split (q : Lit × DataW Unit → Bool) (es : List (Lit × DataW Unit)) : sumOf es = sumOf (es.filter q) + sumOf (es.filter fun p => !q p) := by
  induction es with
  | nil => rfl
  | cons y es ih =>
    rw [sumOf_cons, ih]
    cases h : q y <;> simp [List.filter_cons, h, sumOf_cons] <;> omega
theorem sameKey_eq {a b : Lit} (h : a.sameKey b = true) : a = b := by
  rcases Classical.em (a = b) with e | e
  · exact e
  · rw [sameKey_ne e] at h; cases h
/-- of the entries at a key there is one, or none -/
theorem sumOf_at (es : List (Lit × DataW Unit)) (hp : es.Pairwise fun p q => p.1 ≠ q.1) (k : Lit) : sumOf (es.filter fun p => p.1.sameKey k) = num ((DataW.map es).atKey k (.lit (.int .i64 0))) := by
  induction es with
  | nil => rfl
  | cons y es ih =>
    rw [List.pairwise_cons] at hp
    cases h : y.1.sameKey k with
    | false =>
      have e : (DataW.map (y :: es)).atKey k (.lit (.int .i64 0)) = (DataW.map es).atKey k (.lit (.int .i64 0)) := by simp [DataW.atKey, List.find?_cons, h]
      rw [List.filter_cons, h, e, ← ih hp.2]; rfl
    | true =>
      have hn : es.filter (fun p => p.1.sameKey k) = [] := by
        rw [List.filter_eq_nil_iff]
        intro p hp' hk
        exact hp.1 p hp' ((sameKey_eq h).trans (sameKey_eq hk).symm)
      rw [List.filter_cons, h, if_pos rfl, hn, sumOf_cons]
      simp [DataW.atKey, List.find?_cons, h, sumOf]
theorem total_put {D : DataW Unit} (hD : Tidy D) (k : Lit) (d : DataW Unit) : total (D.put k d) = total D - num (D.atKey k (.lit (.int .i64 0))) + num d := by
  obtain ⟨es, rfl, hp⟩ := hD
  rw [← sumOf_at es hp k]
  have e := sumOf_split (fun p => p.1.sameKey k) es
  show sumOf (DataW.insert (k, d) (es.filter fun p => !p.1.sameKey k)) = sumOf es - _ + num d
  rw [sumOf_insert]
  have e2 : num (k, d).2 = num d := rfl
  omega
/-- the sum of those that are still to come -/
def leftSum (left : Lit → Bool) (es : List (Lit × DataW Unit)) : Int := sumOf (es.filter fun p => left p.1)
theorem leftSum_all (es : List (Lit × DataW Unit)) (hk : ∀ p ∈ es, WideAt.IsKeyLit p.1) : leftSum (Maps.has (.map es)) es = sumOf es := by
  unfold leftSum
  congr 1
  rw [List.filter_eq_self]
  intro p hp
  rw [has_eq, List.any_eq_true]
  refine ⟨p, hp, ?_⟩
  have := hk p hp
  revert this
  cases p.1 <;> simp [Lit.sameKey, WideAt.IsKeyLit]
theorem leftSum_none (left : Lit → Bool) (es : List (Lit × DataW Unit)) (h : ∀ k, left k = false) : leftSum left es = 0 := by
  unfold leftSum
  rw [List.filter_eq_nil_iff.2 (fun p _ => by simp [h])]; rfl
theorem leftSum_step (left : Lit → Bool) (es : List (Lit × DataW Unit)) (hp : es.Pairwise fun p q => p.1 ≠ q.1) (k : Lit) (hl : left k = true) : leftSum left es = num ((DataW.map es).atKey k (.lit (.int .i64 0))) + leftSum (fun z => left z && !z.sameKey k) es := by
  unfold leftSum
  rw [sumOf_split (fun p => p.1.sameKey k) (es.filter fun p => left p.1), List.filter_filter, List.filter_filter, ← sumOf_at es hp k]
  congr 1
  · congr 1
    apply List.filter_congr
    intro p _
    cases h : p.1.sameKey k with
    | false => simp
    | true => rw [sameKey_eq h, hl]; rfl
  · congr 1
    apply List.filter_congr
    intro p _
    exact Bool.and_comm _ _

/-- a frame as a key -/
def kf (f : List (BitVec 8)) : Lit := .string (strOf f).data.toList
theorem kf_inj {f g : List (BitVec 8)} (h : kf f = kf g) : f = g := by
  apply strOf_inj.1
  unfold kf at h
  simp only [Lit.string.injEq] at h
  have : (strOf f).data = (strOf g).data := by simpa using congrArg List.toArray h
  cases hf : strOf f; cases hg : strOf g
  rw [hf, hg] at this
  simp_all
theorem kf_key (f : List (BitVec 8)) : WideAt.IsKeyLit (kf f) := trivial
theorem strOf_size (f : List (BitVec 8)) : (strOf f).size = f.length := by simp [strOf, ByteArray.size]
def z64 : DataW Unit := .lit (.int .i64 0)
def i64' (n : Int) : DataW Unit := .lit (.int .i64 n)
/-- how often a frame is in a bag -/
def cnt (xs : List It) (f : List (BitVec 8)) : Nat := xs.countP fun x => decide (x.fr = f)
/-- the map counts the bag's frames -/
structure Counts (D : DataW Unit) (xs : List It) : Prop where
  at_ : ∀ f, D.atKey (kf f) z64 = i64' (cnt xs f)
  sum : total D = xs.length
theorem cnt_le (xs : List It) (f : List (BitVec 8)) : cnt xs f ≤ xs.length := List.countP_le_length
theorem cnt_snoc (xs : List It) (y : It) (f : List (BitVec 8)) : cnt (xs ++ [y]) f = cnt xs f + if y.fr = f then 1 else 0 := by
  simp [cnt, List.countP_append]
theorem cnt_cut (xs : List It) (i : Nat) (hi : i < xs.length) (f : List (BitVec 8)) : cnt xs f = cnt (xs.take i ++ xs.drop (i + 1)) f + if xs[i].fr = f then 1 else 0 := by
  have e : xs = xs.take i ++ xs[i] :: xs.drop (i + 1) := by rw [← List.drop_eq_getElem_cons hi, List.take_append_drop]
  have e2 : cnt xs f = cnt (xs.take i ++ xs[i] :: xs.drop (i + 1)) f := by rw [← e]
  rw [e2]
  simp only [cnt, List.countP_append, List.countP_cons, decide_eq_true_eq]
  omega
theorem Counts.none : Counts (.map []) [] := ⟨fun f => rfl, rfl⟩
theorem Counts.plus {D : DataW Unit} {xs : List It} {y : It} (h : Counts D xs) (hD : Tidy D) : Counts (D.put (kf y.fr) (i64' (cnt xs y.fr + 1))) (xs ++ [y]) := by
  refine ⟨fun f => ?_, ?_⟩
  · rw [cnt_snoc]
    by_cases hf : y.fr = f
    · subst hf
      rw [atKey_put_same hD.isMap (kf_key _), if_pos rfl]; rfl
    · rw [atKey_put_other (fun e => hf (kf_inj e).symm), h.at_, if_neg hf]; rfl
  · rw [total_put hD, h.sum]
    have := h.at_ y.fr
    unfold z64 at this
    rw [this, List.length_append]
    simp [num, i64']; omega
theorem Counts.minus {D : DataW Unit} {xs : List It} {i : Nat} (hi : i < xs.length) (h : Counts D xs) (hD : Tidy D) : Counts (D.put (kf xs[i].fr) (i64' (cnt xs xs[i].fr - 1))) (xs.take i ++ xs.drop (i + 1)) := by
  have hc := cnt_cut xs i hi
  refine ⟨fun f => ?_, ?_⟩
  · have hcf := hc f
    by_cases hf : xs[i].fr = f
    · subst hf
      rw [if_pos rfl] at hcf
      rw [atKey_put_same hD.isMap (kf_key _)]
      congr 2; omega
    · rw [if_neg hf] at hcf
      rw [atKey_put_other (fun e => hf (kf_inj e).symm), h.at_, hcf]; rfl
  · rw [total_put hD, h.sum]
    have := h.at_ xs[i].fr
    unfold z64 at this
    rw [this, List.length_append, List.length_take, List.length_drop]
    simp [num, i64']; omega
theorem Counts.pos {D : DataW Unit} {xs : List It} {i : Nat} (hi : i < xs.length) (_h : Counts D xs) : 0 < cnt xs xs[i].fr := by
  have := cnt_cut xs i hi xs[i].fr
  rw [if_pos rfl] at this
  omega
end Go.Proofs.YtefnpkmbjabcmaaDoor
