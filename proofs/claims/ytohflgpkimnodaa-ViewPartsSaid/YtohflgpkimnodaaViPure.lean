/- Regions and their cells: plain. -/
namespace Go.Proofs.Ytohflgpkimnodaa
namespace Vi

/-- n numbers from lo on. -/
def iR (lo : Int) (n : Nat) : List Int := (List.range n).map fun (i : Nat) => lo + i
theorem iR_length (lo : Int) (n : Nat) : (iR lo n).length = n := by simp [iR]
theorem iR_add (lo : Int) (a b : Nat) : iR lo (a + b) = iR lo a ++ iR (lo + a) b := by
  simp only [iR, List.range_add, List.map_append, List.map_map]
  congr 1
  apply List.map_congr_left
  intro i _
  simp only [Function.comp_apply]
  omega
theorem iR_succ (lo : Int) (n : Nat) : iR lo (n + 1) = iR lo n ++ [lo + n] := by rw [iR_add]; simp [iR]
theorem mem_iR {x lo : Int} {n : Nat} (h : x ∈ iR lo n) : lo ≤ x ∧ x < lo + n := by
  obtain ⟨i, hi, rfl⟩ := List.mem_map.1 h
  have := List.mem_range.1 hi
  omega
/-- what the numbers between two ends are. -/
theorem filter_iR (p : Int → Bool) (lo a : Int) (n m : Nat) (h1 : lo ≤ a) (h2 : a + m ≤ lo + n) (hp : ∀ x, lo ≤ x → x < lo + n → (p x = true ↔ a ≤ x ∧ x < a + m)) : (iR lo n).filter p = iR a m := by
  obtain ⟨k, hk⟩ : ∃ k : Nat, a = lo + k := ⟨(a - lo).toNat, by omega⟩
  obtain ⟨r, hr⟩ : ∃ r : Nat, n = k + m + r := ⟨n - k - m, by omega⟩
  subst hr hk
  rw [iR_add, iR_add, List.filter_append, List.filter_append]
  have e1 : (iR lo k).filter p = [] := by
    rw [List.filter_eq_nil_iff]; intro x hx h
    have := mem_iR hx
    have := (hp x (by omega) (by omega)).1 h
    omega
  have e2 : (iR (lo + k) m).filter p = iR (lo + k) m := by
    rw [List.filter_eq_self]; intro x hx
    have := mem_iR hx
    exact (hp x (by omega) (by omega)).2 (by omega)
  have e3 : (iR (lo + ↑(k + m)) r).filter p = [] := by
    rw [List.filter_eq_nil_iff]; intro x hx h
    have := mem_iR hx
    have := (hp x (by omega) (by omega)).1 h
    omega
  rw [e1, e2, e3]; simp
/-- pairs: a column of the first number's -/
def col (x : Int) (ys : List Int) : List (Int × Int) := ys.map fun y => (x, y)
def cols (xs ys : List Int) : List (Int × Int) := xs.flatMap fun x => col x ys
theorem col_length (x : Int) (ys : List Int) : (col x ys).length = ys.length := by simp [col]
theorem cols_length (xs ys : List Int) : (cols xs ys).length = xs.length * ys.length := by
  induction xs with
  | nil => simp [cols]
  | cons x xs ih => simp only [cols, List.flatMap_cons, List.length_append, col_length, List.length_cons] at *; rw [ih, Nat.succ_mul, Nat.add_comm]
theorem cols_snoc (xs ys : List Int) (x : Int) : cols (xs ++ [x]) ys = cols xs ys ++ col x ys := by simp [cols, List.flatMap_append]
theorem col_snoc (x : Int) (ys : List Int) (y : Int) : col x (ys ++ [y]) = col x ys ++ [(x, y)] := by simp [col]

structure Reg where
  on : Bool
  cx : Int
  cy : Int
  r : Int

def ok (g : Reg) : Bool := decide (-32 ≤ g.cx ∧ g.cx ≤ 31 ∧ -32 ≤ g.cy ∧ g.cy ≤ 31 ∧ 0 ≤ g.r ∧ g.r ≤ 8)
def opened (g : Reg) : Bool := g.on && ok g
def has (g : Reg) (x y : Int) : Bool := opened g && (decide (x - g.cx ≤ g.r ∧ g.cx - x ≤ g.r) && decide (y - g.cy ≤ g.r ∧ g.cy - y ≤ g.r))
def keep (c : Int) : Int := min (max c (-32)) 31
def wide (c r : Int) : Nat := (keep (c + r) + 1 - keep (c - r)).toNat
def cells (g : Reg) : List (Int × Int) := if opened g then cols (iR (keep (g.cx - g.r)) (wide g.cx g.r)) (iR (keep (g.cy - g.r)) (wide g.cy g.r)) else []
/-- the reference's: all that fit, of all -/
def colF (g : Reg) (x : Int) (ys : List Int) : List (Int × Int) := col x (ys.filter fun y => has g x y)
def refCells (g : Reg) : List (Int × Int) := (iR (-32) 64).flatMap fun x => colF g x (iR (-32) 64)
theorem cells_ref (g : Reg) : refCells g = cells g := by
  unfold refCells cells
  by_cases h : opened g = true
  · rw [if_pos h]
    have ho : ok g = true := by unfold opened at h; simp_all
    have ho' := of_decide_eq_true ho
    have e : ∀ c : Int, -32 ≤ c → c ≤ 31 → (iR (-32) 64).filter (fun y => decide (y - c ≤ g.r ∧ c - y ≤ g.r)) = iR (keep (c - g.r)) (wide c g.r) := by
      intro c h1 h2
      apply filter_iR
      · unfold keep; omega
      · unfold wide keep; omega
      · intro x hx hx'
        rw [decide_eq_true_iff]
        unfold wide keep
        omega
    have e1 : ∀ x, colF g x (iR (-32) 64) = if decide (x - g.cx ≤ g.r ∧ g.cx - x ≤ g.r) = true then col x (iR (keep (g.cy - g.r)) (wide g.cy g.r)) else [] := by
      intro x
      unfold colF has
      rw [h]
      split
      next hx => rw [hx]; simp only [Bool.true_and]; rw [e _ (by omega) (by omega)]
      next hx => rw [Bool.not_eq_true] at hx; rw [hx]; simp [col]
    rw [show (fun x => colF g x (iR (-32) 64)) = fun x => if decide (x - g.cx ≤ g.r ∧ g.cx - x ≤ g.r) = true then col x (iR (keep (g.cy - g.r)) (wide g.cy g.r)) else [] from funext e1]
    unfold cols
    rw [← e g.cx (by omega) (by omega)]
    generalize iR (keep (g.cy - g.r)) (wide g.cy g.r) = ys
    generalize iR (-32) 64 = xs
    induction xs with
    | nil => rfl
    | cons x xs ih =>
      rw [List.flatMap_cons, List.filter_cons, ih]
      split <;> simp
  · rw [if_neg h]
    simp [colF, has, Bool.not_eq_true _ ▸ h, col]
end Vi
end Go.Proofs.Ytohflgpkimnodaa
