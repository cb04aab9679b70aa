/- The reference's delta, gone through ID by ID, is the delta; gone through kind by kind, the change is the change (plain law). -/
import Derived.Test.YtdnkdmdmekdfkaaDfP2
import Derived.Test.YtdnkdmdmekdfkaaDf3
import Derived.Test.YtdnkdmdmekdfkaaDf6
import Derived.Test.YtdnkdmdmekdfkaaDf19
namespace Go.Proofs.Ytdnkdmdmekdfkaa
open Go.RowKit
def goneS (L M : List Et) : List Nat := (L.filter fun x => (M.find? fun y => y.1 == x.1).isNone).map fun x => x.1
def comeS (L M : List Et) : List Et := M.filter fun y => (L.find? fun x => x.1 == y.1).isNone
def chgO (L : List Et) (y : Et) : Option Ch := match L.find? fun x => x.1 == y.1 with
  | none => none
  | some x => if (chgP x y).none = true then none else some (chgP x y)
def chgS (L M : List Et) : List Ch := M.filterMap (chgO L)
theorem fmap_congr {α β : Type} {f g : α → Option β} : ∀ {l : List α}, (∀ x ∈ l, f x = g x) → l.filterMap f = l.filterMap g
  | [], _ => rfl
  | x :: l, h => by rw [List.filterMap_cons, List.filterMap_cons, h x (List.mem_cons_self ..), fmap_congr fun y hy => h y (List.mem_cons_of_mem _ hy)]
theorem find_hasK (M : List Et) (i : Nat) : (M.find? fun y => y.1 == i).isNone = !hasK ik M i := by
  induction M with
  | nil => rfl
  | cons y M ih =>
    rw [List.find?_cons, hasK_cons]
    show _ = !((y.1 == i) || hasK ik M i)
    cases h : (y.1 == i)
    · simpa using ih
    · rfl
theorem chgO_cons (x : Et) (L : List Et) (y : Et) (h : x.1 ≠ y.1) : chgO (x :: L) y = chgO L y := by
  unfold chgO
  rw [List.find?_cons, show (x.1 == y.1) = false from beq_eq_false_iff_ne.2 h]
theorem chgO_hit (x : Et) (L : List Et) (y : Et) (h : x.1 = y.1) : chgO (x :: L) y = if (chgP x y).none = true then none else some (chgP x y) := by
  unfold chgO
  rw [List.find?_cons, show (x.1 == y.1) = true from beq_iff_eq.2 h]
theorem chgO_below {L : List Et} {y : Et} (h : ∀ x ∈ L, y.1 < x.1) : chgO L y = none := by
  have : (L.find? fun x => x.1 == y.1) = none := List.find?_eq_none.2 fun x hx => by have := h x hx; simp; omega
  unfold chgO; rw [this]
theorem mrg_chg : ∀ (L M : List Et), Srt ik L → Srt ik M → (mrg L M).chg = chgS L M := by
  intro L M
  induction L, M using mrg.induct with
  | case1 => intro _ _; rw [mrg]; rfl
  | case2 x a ih => intro h1 h2; rw [mrg]; exact ih h1.tail h2
  | case3 n b ih =>
    intro h1 h2; rw [mrg]
    simp only [ih h1 h2.tail]
    rfl
  | case4 x a n b hlt ih =>
    intro h1 h2
    rw [mrg, if_pos hlt]
    simp only [ih h1.tail h2]
    refine fmap_congr fun z hz => ?_
    have : x.1 < z.1 := by
      rcases List.mem_cons.1 hz with rfl | hz
      · exact hlt
      · exact Nat.lt_trans hlt (h2.head z hz)
    exact (chgO_cons x a z (by omega)).symm
  | case5 x a n b h1' h2' ih =>
    intro h1 h2
    rw [mrg, if_neg h1', if_pos h2']
    simp only [ih h1 h2.tail]
    have hb : chgO (x :: a) n = none := chgO_below fun z hz => by
      rcases List.mem_cons.1 hz with rfl | hz
      · exact h2'
      · exact Nat.lt_trans h2' (h1.head z hz)
    unfold chgS
    rw [List.filterMap_cons, hb]
  | case6 x a n b h1' h2' hz ih =>
    intro h1 h2
    rw [mrg, if_neg h1', if_neg h2']
    simp only [hz, if_true]
    have he : x.1 = n.1 := by omega
    rw [ih h1.tail h2.tail]
    unfold chgS
    rw [List.filterMap_cons, chgO_hit x a n he, if_pos hz]
    refine fmap_congr fun z hz => ?_
    have : n.1 < z.1 := h2.head z hz
    exact (chgO_cons x a z (by omega)).symm
  | case7 x a n b h1' h2' hz ih =>
    intro h1 h2
    rw [mrg, if_neg h1', if_neg h2']
    have he : x.1 = n.1 := by omega
    simp only [hz, if_false]
    simp only [Bool.false_eq_true, if_false]
    rw [ih h1.tail h2.tail]
    unfold chgS
    rw [List.filterMap_cons, chgO_hit x a n he, if_neg hz]
    refine congrArg _ (fmap_congr fun z hz => ?_)
    have : n.1 < z.1 := h2.head z hz
    exact (chgO_cons x a z (by omega)).symm
theorem mrg_S {L M : List Et} (h1 : Srt ik L) (h2 : Srt ik M) : mrg L M = ⟨goneS L M, comeS L M, chgS L M⟩ := by
  have e1 : (mrg L M).gone = goneS L M := by
    rw [mrg_gone L M h1 h2]
    unfold goneS
    exact congrArg _ (filter_same fun z _ => (find_hasK M z.1).symm)
  have e2 : (mrg L M).come = comeS L M := by
    rw [mrg_come L M h1 h2]
    exact filter_same fun z _ => (find_hasK L z.1).symm
  have e3 := mrg_chg L M h1 h2
  rw [← e1, ← e2, ← e3]
theorem goneS_take (L M : List Et) (j : Nat) (h : j < L.length) : goneS (L.take (j + 1)) M = goneS (L.take j) M ++ (if (M.find? fun y => y.1 == L[j].1).isNone = true then [L[j].1] else []) := by
  unfold goneS
  rw [List.take_succ_eq_append_getElem h, List.filter_append, List.map_append, List.filter_cons]
  split <;> rfl
theorem comeS_take (L M : List Et) (j : Nat) (h : j < M.length) : comeS L (M.take (j + 1)) = comeS L (M.take j) ++ (if (L.find? fun x => x.1 == M[j].1).isNone = true then [M[j]] else []) := by
  unfold comeS
  rw [List.take_succ_eq_append_getElem h, List.filter_append, List.filter_cons]
  split <;> rfl
theorem chgS_take (L M : List Et) (j : Nat) (h : j < M.length) : chgS L (M.take (j + 1)) = chgS L (M.take j) ++ (chgO L M[j]).toList := by
  unfold chgS
  rw [List.take_succ_eq_append_getElem h, List.filterMap_append, List.filterMap_cons]
  cases chgO L M[j] <;> rfl
/-- by kinds -/
def newK (a b : List C4) (n : Nat) : List C4 := (List.range n).filterMap fun j => if (fnd a j).isNone then fnd b j else none
def setK (a b : List C4) (n : Nat) : List C4 := (List.range n).filterMap fun j => match fnd a j, fnd b j with
  | some x, some y => if x ≠ y then some y else none
  | _, _ => none
def lostK (a b : List C4) : Nat → Nat
  | 0 => 0
  | n + 1 => lostK a b n + if (fnd a n).isSome && (fnd b n).isNone then 2 ^ n else 0
theorem newK_succ (a b : List C4) (n : Nat) : newK a b (n + 1) = newK a b n ++ (if (fnd a n).isNone then fnd b n else none).toList := by
  unfold newK
  rw [List.range_succ, List.filterMap_append, List.filterMap_cons]
  cases (if (fnd a n).isNone then fnd b n else none) <;> rfl
theorem setK_succ (a b : List C4) (n : Nat) : setK a b (n + 1) = setK a b n ++ (match fnd a n, fnd b n with | some x, some y => if x ≠ y then some y else none | _, _ => none : Option C4).toList := by
  unfold setK
  rw [List.range_succ, List.filterMap_append, List.filterMap_cons]
  cases (match fnd a n, fnd b n with | some x, some y => if x ≠ y then some y else none | _, _ => none : Option C4) <;> rfl
theorem filterMap_len {α β : Type} (f : α → Option β) (l : List α) : (l.filterMap f).length ≤ l.length := List.length_filterMap_le f l
theorem newK_len (a b : List C4) (n : Nat) : (newK a b n).length ≤ n := by
  have := filterMap_len (fun j => if (fnd a j).isNone then fnd b j else none) (List.range n)
  rwa [List.length_range] at this
theorem setK_len (a b : List C4) (n : Nat) : (setK a b n).length ≤ n := by
  have := filterMap_len (fun j => match fnd a j, fnd b j with | some x, some y => if x ≠ y then some y else none | _, _ => none : Nat → Option C4) (List.range n)
  rwa [List.length_range] at this
theorem lostK_lt (a b : List C4) (n : Nat) : lostK a b n < 2 ^ n := by
  induction n with
  | zero => exact Nat.one_pos
  | succ n ih =>
    rw [lostK, Nat.pow_succ]
    split <;> omega
theorem fnd_below {l : List C4} {k : Nat} (h : ∀ q ∈ l, k < q.k) : fnd l k = none :=
  List.find?_eq_none.2 fun q hq => by have := h q hq; simp; omega
theorem by_kinds (p : C4 → Bool) : ∀ (n lo : Nat) (l : List C4), Srt C4.k l → (∀ q ∈ l, lo ≤ q.k ∧ q.k < lo + n) → (List.range' lo n).filterMap (fun j => (fnd l j).filter p) = l.filter p
  | 0, lo, l, _, h => by
    cases l with
    | nil => rfl
    | cons q t => have := h q (List.mem_cons_self ..); omega
  | n + 1, lo, l, hs, h => by
    rw [List.range'_succ, List.filterMap_cons]
    cases l with
    | nil =>
      have := by_kinds p n (lo + 1) [] List.Pairwise.nil (fun q hq => by cases hq)
      rw [show (fnd [] lo).filter p = none from rfl]
      exact this
    | cons q t =>
      by_cases hq : q.k = lo
      · have hf : fnd (q :: t) lo = some q := by unfold fnd; rw [List.find?_cons, show (q.k == lo) = true from beq_iff_eq.2 hq]
        have ht : (List.range' (lo + 1) n).filterMap (fun j => (fnd (q :: t) j).filter p) = t.filter p := by
          rw [← by_kinds p n (lo + 1) t hs.tail (fun z hz => by have h1 := hs.head z hz; have h2 := h z (List.mem_cons_of_mem _ hz); omega)]
          refine fmap_congr fun j hj => ?_
          have hj' : lo + 1 ≤ j := (List.mem_range'_1.1 hj).1
          unfold fnd
          rw [List.find?_cons, show (q.k == j) = false from beq_eq_false_iff_ne.2 (by omega)]
        rw [hf, ht, List.filter_cons]
        rw [Option.filter_some]
        cases hp : p q <;> simp
      · have hb : ∀ z ∈ q :: t, lo + 1 ≤ z.k := fun z hz => by
          have h0 := (h q (List.mem_cons_self ..)).1
          rcases List.mem_cons.1 hz with rfl | hz
          · omega
          · have := hs.head z hz; omega
        rw [fnd_below (fun z hz => by have := hb z hz; omega), show (none : Option C4).filter p = none from rfl]
        exact by_kinds p n (lo + 1) (q :: t) hs (fun z hz => by have h1 := hb z hz; have h2 := h z hz; omega)
theorem newK_all {a b : List C4} (hb : WfC b) : newK a b 6 = newP a b := by
  have := by_kinds (fun c => (fnd a c.k).isNone) 6 0 b hb.s (fun q hq => by have := hb.k q hq; omega)
  unfold newP
  rw [← this, ← List.range_eq_range']
  refine fmap_congr fun j _ => ?_
  cases h : fnd b j with
  | none => split <;> rfl
  | some q => rw [← (fnd_mem h).2]; show _ = (if _ then _ else _); rfl
theorem setK_all {a b : List C4} (hb : WfC b) : setK a b 6 = setP a b := by
  have := by_kinds (fun c => match fnd a c.k with | some x => decide (x ≠ c) | none => false) 6 0 b hb.s (fun q hq => by have := hb.k q hq; omega)
  unfold setP
  refine Eq.trans ?_ this
  rw [← List.range_eq_range']
  refine fmap_congr fun j _ => ?_
  cases h : fnd b j with
  | none => cases fnd a j <;> rfl
  | some q =>
    have hk := (fnd_mem h).2
    subst hk
    cases h2 : fnd a q.k with
    | none => simp [Option.filter, h2]
    | some x => simp only [Option.filter, h2]; simp
theorem bits6 : ∀ v : BitVec 8, v.getLsbD 6 = false → v.getLsbD 7 = false → v.toNat = (v.getLsbD 0).toNat + 2 * (v.getLsbD 1).toNat + 4 * (v.getLsbD 2).toNat + 8 * (v.getLsbD 3).toNat + 16 * (v.getLsbD 4).toNat + 32 * (v.getLsbD 5).toNat := by decide
theorem fnd_isNone (l : List C4) (k : Nat) : (fnd l k).isNone = !hasK C4.k l k := by
  cases h : fnd l k with
  | none => rw [fnd_none_iff.1 h]; rfl
  | some q =>
    cases h2 : hasK C4.k l k with
    | true => rfl
    | false => rw [fnd_none_iff.2 h2] at h; cases h
theorem lostP_bit {a b : List C4} (ha : WfC a) (hb : WfC b) (k : Nat) (hk : k < 8) : (lostP a b).getLsbD k = ((fnd a k).isSome && (fnd b k).isNone) := by
  unfold lostP
  rw [BitVec.getLsbD_and, BitVec.getLsbD_not, mk_bitW a ha.k k hk, mk_bitW b hb.k k hk, fnd_isNone b k, ← Option.not_isNone, fnd_isNone a k]
  simp [hk]
theorem lostK_all {a b : List C4} (ha : WfC a) (hb : WfC b) : lostK a b 6 = (lostP a b).toNat := by
  have hi : ∀ k, 5 ≤ k → fnd a k = none := fun k hk => List.find?_eq_none.2 fun q hq => by have := ha.k q hq; simp; omega
  have B := lostP_bit ha hb
  rw [bits6 (lostP a b) (by rw [B 6 (by omega), hi 6 (by omega)]; rfl) (by rw [B 7 (by omega), hi 7 (by omega)]; rfl), B 0 (by omega), B 1 (by omega), B 2 (by omega), B 3 (by omega), B 4 (by omega), B 5 (by omega)]
  have e : ∀ (c : Bool) (m : Nat), (if c = true then m else 0) = m * c.toNat := fun c m => by cases c <;> simp
  simp only [lostK, e]
  omega
end Go.Proofs.Ytdnkdmdmekdfkaa
namespace Go.Proofs.Ytdnkdmdmekdfkaa
open Go.RowKit
set_option maxHeartbeats 4000000 in
theorem refFindE_any (A : Option Addr) (n c : Nat) (l : List Et) (v : Nat) (w : World) (h : EnL w A n l) (hl : l.length ≤ 1000) : Calls Try.prog 21 #[.slice A n c, .int .u32 v] w fun e w' => ((∃ j, ∃ hj : j < l.length, e = .returned (.int .i64 (j : Nat)) ∧ l.find? (fun x => x.1 == v) = some l[j]) ∨ (e = .returned (.int .i64 (-1)) ∧ l.find? (fun x => x.1 == v) = none)) ∧ New w w' := by
  have HL := Bx.mk h.len
  have hn : n ≤ 1000 := by have := HL.out; omega
  go_enter Try.func21, Try.ntmps21
  repeat' (first | fail | go_values | go_skip | go_guarded | go_step | go_upon | go_back)
  go_loopw [9] (fun i wr => ∃ (j : Nat), j ≤ n ∧ i = .int .i64 j ∧ Bx (∀ q ∈ l.take j, (q.1 == v) = false) ∧ New w wr) (fun i _ => n - (intOf i).toNat)
  case atStart => exact ⟨0, by omega, rfl, ⟨fun q hq => by simp at hq⟩, Upd.refl _ _⟩
  case round =>
    obtain ⟨j, hj, rfl, HY, hN⟩ := hrel
    by_cases hlt : j < n
    · have hjL : j < l.length := by rw [HL.out]; exact hlt
      obtain ⟨b0, off, s0, s1, s2, rfl, h0, h1, _⟩ := (h.new hN).el j hjL
      have HS := Bx.mk (List.take_succ_eq_append_getElem hjL)
      have HF := Bx.mk (find_at (p := fun q : Et => q.1 == v) l j hjL HY.out)
      generalize hqe : l[j] = q at *
      obtain ⟨i, m⟩ := q
      dsimp only at h0 h1 HF
      obtain ⟨n0, n1⟩ := e2_new wr i s0 s1 s2
      have hA := (Upd.refl Nowhere wr).alloc (.cells #[.int .u32 i, .slice s0 s1 s2] 43)
      have HQE := Bx.mk hqe
      clear hqe
      by_cases hk : i = v
      · have HE := Bx.mk (HF.out (by simp [hk]))
        subst hk
        repeat' (first | fail | go_values | go_skip | go_guarded | go_step | go_upon | go_back)
        go_returns
        exact ⟨.inl ⟨j, hjL, rfl, by rw [HQE.out]; exact HE.out⟩, hN.trans hA⟩
      · have hkb : ((i : Int) == (v : Int)) = false := by rw [beq_eq_false_iff_ne]; omega
        have hkI : ¬ (i : Int) = (v : Int) := by omega
        have HY2 := Bx.mk (show ∀ q ∈ l.take (j + 1), (q.1 == v) = false by
          intro q hq
          rw [HS.out] at hq
          rcases List.mem_append.1 hq with hq | hq
          · exact HY.out q hq
          · simp at hq; subst hq; simpa using hk)
        clear hk
        repeat' (first | fail | go_values | go_skip | go_guarded | go_step | go_upon | go_back)
        go_roundw
        case rel => exact ⟨j + 1, by omega, by go_num, HY2, hN.trans hA⟩
        case measure => simp [intOf]; omega
    · obtain rfl : j = n := by omega
      have HE := Bx.mk (show l.find? (fun x => x.1 == v) = none by have := HY.out; rw [List.take_of_length_le (by rw [HL.out]; exact Nat.le_refl _)] at this; exact List.find?_eq_none.2 fun q hq => by simp [this q hq])
      repeat' (first | fail | go_values | go_skip | go_guarded | go_step | go_upon | go_back)
      go_returns
      exact ⟨.inr ⟨rfl, HE.out⟩, hN⟩
set_option maxHeartbeats 4000000 in
theorem refFindC_any (A : Option Addr) (n c : Nat) (l : List C4) (k0 : Nat) (w : World) (h : Co w (A, n, c) l) (hl : l.length ≤ 1000) : Calls Try.prog 34 #[.slice A n c, .int .u8 k0] w fun e w' => ((∃ j, ∃ hj : j < l.length, e = .returned (.int .i64 (j : Nat)) ∧ fnd l k0 = some l[j]) ∨ (e = .returned (.int .i64 (-1)) ∧ fnd l k0 = none)) ∧ New w w' := by
  have HL := Bx.mk h.len
  dsimp only at HL
  have hx := h.rd
  dsimp only at hx
  have hn : n ≤ 1000 := by have := HL.out; omega
  go_enter Try.func34, Try.ntmps34
  repeat' (first | fail | go_values | go_skip | go_guarded | go_step | go_upon | go_back)
  go_loopw [9] (fun i wr => ∃ (j : Nat), j ≤ n ∧ i = .int .i64 j ∧ Bx (∀ q ∈ l.take j, (q.k == k0) = false) ∧ New w wr) (fun i _ => n - (intOf i).toNat)
  case atStart => exact ⟨0, by omega, rfl, ⟨fun q hq => by simp at hq⟩, Upd.refl _ _⟩
  case round =>
    obtain ⟨j, hj, rfl, HY, hN⟩ := hrel
    by_cases hlt : j < n
    · have hjL : j < l.length := by rw [HL.out]; exact hlt
      obtain ⟨b0, off, rfl, h0, h1, h2, h3⟩ := (hx.new hN).four j hjL
      have HS := Bx.mk (List.take_succ_eq_append_getElem hjL)
      have HF := Bx.mk (find_at (p := fun q : C4 => q.k == k0) l j hjL HY.out)
      generalize hqe : l[j] = q at *
      obtain ⟨k, a, b, c'⟩ := q
      simp only at h0 h1 h2 h3 HF
      obtain ⟨n0, n1, n2, n3⟩ := c4_new wr k a b c'
      have hA := (Upd.refl Nowhere wr).alloc (.cells #[.int .u8 k, .int .i32 a, .int .i32 b, .int .i32 c'] 46)
      have HQE := Bx.mk hqe
      clear hqe
      by_cases hk : k = k0
      · have HE := Bx.mk (HF.out (by simp [hk]))
        subst hk
        repeat' (first | fail | go_values | go_skip | go_guarded | go_step | go_upon | go_back)
        go_returns
        exact ⟨.inl ⟨j, hjL, rfl, by rw [HQE.out]; exact HE.out⟩, hN.trans hA⟩
      · have hkb : ((k : Int) == (k0 : Int)) = false := by rw [beq_eq_false_iff_ne]; omega
        have hkI : ¬ (k : Int) = (k0 : Int) := by omega
        have HY2 := Bx.mk (show ∀ q ∈ l.take (j + 1), (q.k == k0) = false by
          intro q hq
          rw [HS.out] at hq
          rcases List.mem_append.1 hq with hq | hq
          · exact HY.out q hq
          · simp at hq; subst hq; simpa using hk)
        clear hk
        repeat' (first | fail | go_values | go_skip | go_guarded | go_step | go_upon | go_back)
        go_roundw
        case rel => exact ⟨j + 1, by omega, by go_num, HY2, hN.trans hA⟩
        case measure => simp [intOf]; omega
    · obtain rfl : j = n := by omega
      have HE := Bx.mk (show fnd l k0 = none by have := HY.out; rw [List.take_of_length_le (by rw [HL.out]; exact Nat.le_refl _)] at this; exact List.find?_eq_none.2 fun q hq => by simp [this q hq])
      repeat' (first | fail | go_values | go_skip | go_guarded | go_step | go_upon | go_back)
      go_returns
      exact ⟨.inr ⟨rfl, HE.out⟩, hN⟩
end Go.Proofs.Ytdnkdmdmekdfkaa
namespace Go.Proofs.Ytdnkdmdmekdfkaa
open Go.RowKit
theorem getD_zE (L : List Et) (i : Nat) (h : i < L.length) : L.getD i zE = L[i] := by
  rw [List.getD_eq_getElem?_getD, List.getElem?_eq_getElem h]; rfl
theorem goneS_step (L M : List Et) (j : Nat) (h : j < L.length) : goneS (L.take (j + 1)) M = goneS (L.take j) M ++ (if (M.find? fun y => y.1 == (L.getD j zE).1).isNone = true then [(L.getD j zE).1] else []) := by
  rw [getD_zE L j h]; exact goneS_take L M j h
theorem comeS_step (L M : List Et) (j : Nat) (h : j < M.length) : comeS L (M.take (j + 1)) = comeS L (M.take j) ++ (if (L.find? fun x => x.1 == (M.getD j zE).1).isNone = true then [M.getD j zE] else []) := by
  rw [getD_zE M j h]; exact comeS_take L M j h
theorem chgS_step (L M : List Et) (j : Nat) (h : j < M.length) : chgS L (M.take (j + 1)) = chgS L (M.take j) ++ (chgO L (M.getD j zE)).toList := by
  rw [getD_zE M j h]; exact chgS_take L M j h
theorem goneS_len (L M : List Et) (j : Nat) : (goneS (L.take j) M).length ≤ j := by
  unfold goneS; rw [List.length_map]
  exact Nat.le_trans (List.length_filter_le _ _) (by rw [List.length_take]; exact Nat.min_le_left _ _)
theorem comeS_len (L M : List Et) (j : Nat) : (comeS L (M.take j)).length ≤ j := by
  unfold comeS
  exact Nat.le_trans (List.length_filter_le _ _) (by rw [List.length_take]; exact Nat.min_le_left _ _)
theorem chgS_len (L M : List Et) (j : Nat) : (chgS L (M.take j)).length ≤ j := by
  unfold chgS
  exact Nat.le_trans (List.length_filterMap_le _ _) (by rw [List.length_take]; exact Nat.min_le_left _ _)
theorem findE_none (A : Option Addr) (n c : Nat) (l : List Et) (v : Nat) (w : World) (h : EnL w A n l) (hl : l.length ≤ 1000) (hF : (l.find? fun x => x.1 == v) = none) : Calls Try.prog 21 #[.slice A n c, .int .u32 v] w fun e w' => e = .returned (.int .i64 (-1)) ∧ New w w' :=
  (refFindE_any A n c l v w h hl).mono fun e w' ⟨q, k⟩ => by
    refine ⟨?_, k⟩
    rcases q with ⟨j, hj, _, h2⟩ | ⟨h1, _⟩
    · rw [hF] at h2; cases h2
    · exact h1
theorem findE_some (A : Option Addr) (n c : Nat) (l : List Et) (v : Nat) (w : World) (h : EnL w A n l) (hl : l.length ≤ 1000) (x : Et) (hF : (l.find? fun x => x.1 == v) = some x) : Calls Try.prog 21 #[.slice A n c, .int .u32 v] w fun e w' => (∃ j : Nat, e = .returned (.int .i64 (j : Nat)) ∧ j < n ∧ l.getD j zE = x) ∧ New w w' :=
  (refFindE_any A n c l v w h hl).mono fun e w' ⟨q, k⟩ => by
    refine ⟨?_, k⟩
    rcases q with ⟨j, hj, h1, h2⟩ | ⟨_, h2⟩
    · rw [hF] at h2
      exact ⟨j, h1, by have := h.len; omega, by rw [getD_zE l j hj]; exact (Option.some.inj h2).symm⟩
    · rw [hF] at h2; cases h2
theorem findC_one {l : List C4} (hs : Srt C4.k l) (k0 : Nat) : ∃ I : Int, (∀ (A : Option Addr) (n c : Nat) (w : World), Co w (A, n, c) l → l.length ≤ 1000 → Calls Try.prog 34 #[.slice A n c, .int .u8 k0] w fun e w' => e = .returned (.int .i64 I) ∧ New w w') ∧ ((I = -1 ∧ fnd l k0 = none) ∨ ∃ J : Nat, ∃ hJ : J < l.length, I = (J : Nat) ∧ fnd l k0 = some l[J]) := by
  cases hF : fnd l k0 with
  | none =>
    refine ⟨-1, fun A n c w h hl => (refFindC_any A n c l k0 w h hl).mono fun e w' ⟨q, k⟩ => ⟨?_, k⟩, .inl ⟨rfl, rfl⟩⟩
    rcases q with ⟨j, hj, _, h2⟩ | ⟨h1, _⟩
    · rw [hF] at h2; cases h2
    · exact h1
  | some q =>
    obtain ⟨J, hJ, hq⟩ := List.getElem_of_mem (fnd_mem hF).1
    refine ⟨J, fun A n c w h hl => (refFindC_any A n c l k0 w h hl).mono fun e w' ⟨r, k⟩ => ⟨?_, k⟩, .inr ⟨J, hJ, rfl, by rw [hq]⟩⟩
    rcases r with ⟨j, hj, h1, h2⟩ | ⟨_, h2⟩
    · rw [hF] at h2
      have h3 : l[j] = l[J] := by rw [hq]; exact (Option.some.inj h2).symm
      have hP := List.pairwise_iff_getElem.1 hs
      have : j = J := by
        rcases Nat.lt_trichotomy j J with h | h | h
        · have := hP j J hj hJ h; rw [h3] at this; exact absurd this (Nat.lt_irrefl _)
        · exact h
        · have := hP J j hJ hj h; rw [h3] at this; exact absurd this (Nat.lt_irrefl _)
      rw [h1, this]
    · rw [hF] at h2; cases h2
theorem refDiff_results (tmps : Array Value) (w : World) (g : Nat) (cs : Array Value) (fr : Nat × Nat) (hp : tmps.getD 4 undef = .pointer (some ⟨g, 0, none⟩)) (hg : w.heap[g]? = some (.cells cs 26 fr)) (hs : cs.size = 3) :
    (results Try.f19 tmps).run Try.prog w = .ok (.tuple #[.agg cs, tmps.getD 5 undef]) w := by
  have hp' : tmps[4]?.getD undef = .pointer (some ⟨g, 0, none⟩) := by simpa using hp
  have hr := run_loadVar_row (P := Try.prog) w g 26 26 cs fr _ hg Try.underlying26 rfl (by rw [hs]; kernel_rfl)
  rw [results_cell_tmp Try.results19, hp]
  simp [asAddr, hr]
theorem lostK_step (a b : List C4) (k : Nat) (hk : k < 6) : lostK a b k + 2 ^ k < 256 := by
  have h1 := lostK_lt a b k
  have h2 : 2 ^ k ≤ 2 ^ 5 := Nat.pow_le_pow_right (by decide) (by omega)
  omega
end Go.Proofs.Ytdnkdmdmekdfkaa
