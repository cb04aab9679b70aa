/- Lists of entities in memory: what holds them, and how they are read. -/
import Derived.Test.YtdnkdmdmekdfkaaSc12
import Derived.Test.YtdnkdmdmekdfkaaSsE1
import Derived.Test.YtdnkdmdmekdfkaaSc7
import Derived.Test.YtdnkdmdmekdfkaaCalm
import Derived.Handy
namespace Go.Proofs.Ytdnkdmdmekdfkaa
open Go.RowKit
abbrev Sl := Option Addr × Nat × Nat
abbrev E4 := Nat × Option Addr × Nat × Nat
abbrev Et := Nat × List C4
/-- a slice of components -/
structure Co (w : World) (s : Sl) (l : List C4) : Prop where
  len : l.length = s.2.1
  nil : s.1 = none → s.2.1 = 0
  rd : Rd w s.1 (ccells l)
theorem Co.new {w w' : World} {s : Sl} {l : List C4} (h : Co w s l) (k : New w w') : Co w' s l := ⟨h.len, h.nil, h.rd.new k⟩
theorem Co.mk' {w : World} {A : Option Addr} {n c : Nat} {l : List C4} (h1 : l.length = n) (h2 : A = none → n = 0) (h3 : Rd w A (ccells l)) : Co w (A, n, c) l := ⟨h1, h2, h3⟩
theorem Co.zero (w : World) (c : Nat) : Co w (none, 0, c) [] := ⟨rfl, fun _ => rfl, .inl rfl⟩
def ec (es : List E4) : List Value := es.flatMap encE
theorem ec_length (es : List E4) : (ec es).length = es.length * 2 := by
  induction es with
  | nil => rfl
  | cons q L ih => simp only [ec, List.flatMap_cons, List.length_append, List.length_cons, encE_len] at ih ⊢; omega
theorem ec_get (es : List E4) (i : Nat) (h : i < es.length) : (ec es)[i * 2]? = some (.int .u32 es[i].1) ∧ (ec es)[i * 2 + 1]? = some (.slice es[i].2.1 es[i].2.2.1 es[i].2.2.2) := by
  induction es generalizing i with
  | nil => exact absurd h (Nat.not_lt_zero _)
  | cons q L ih =>
    cases i with
    | zero => exact ⟨rfl, rfl⟩
    | succ i =>
      have := ih i (by simpa using h)
      have e : (i + 1) * 2 = i * 2 + 2 := by omega
      rw [e]
      exact this
theorem ec_append (x y : List E4) : ec (x ++ y) = ec x ++ ec y := List.flatMap_append
theorem ec_one (es : List E4) : ∀ u ∈ ec es, u.oneCell' = true := by
  intro u hu
  simp only [ec, List.mem_flatMap] at hu
  obtain ⟨q, _, hq⟩ := hu
  simp [encE] at hq
  rcases hq with rfl | rfl <;> rfl
/-- the entities that the elements stand for -/
def Al (R : Sl → List C4 → Prop) : List E4 → List Et → Prop
  | [], [] => True
  | e :: es, x :: L => (e.1 = x.1 ∧ R e.2 x.2) ∧ Al R es L
  | _, _ => False
section
variable {R R' : Sl → List C4 → Prop}
theorem Al.len : ∀ {es : List E4} {L : List Et}, Al R es L → es.length = L.length
  | [], [], _ => rfl
  | e :: es, x :: L, h => by rw [List.length_cons, List.length_cons, Al.len h.2]
  | [], _ :: _, h => h.elim
  | _ :: _, [], h => h.elim
theorem Al.get : ∀ {es : List E4} {L : List Et}, Al R es L → ∀ (j : Nat) (hj : j < L.length) (hj' : j < es.length), es[j].1 = L[j].1 ∧ R es[j].2 L[j].2
  | [], [], _, j, hj, _ => absurd hj (Nat.not_lt_zero _)
  | e :: es, x :: L, h, j, hj, hj' => by
    cases j with
    | zero => exact h.1
    | succ j => exact Al.get h.2 j (by simpa using hj) (by simpa using hj')
  | [], _ :: _, h, _, _, _ => h.elim
  | _ :: _, [], h, _, _, _ => h.elim
theorem Al.map (f : ∀ s l, R s l → R' s l) : ∀ {es : List E4} {L : List Et}, Al R es L → Al R' es L
  | [], [], _ => trivial
  | e :: es, x :: L, h => ⟨⟨h.1.1, f _ _ h.1.2⟩, Al.map f h.2⟩
  | [], _ :: _, h => h.elim
  | _ :: _, [], h => h.elim
theorem Al.append : ∀ {es : List E4} {L : List Et} {es' : List E4} {L' : List Et}, Al R es L → Al R es' L' → Al R (es ++ es') (L ++ L')
  | [], [], _, _, _, k => k
  | e :: es, x :: L, _, _, h, k => ⟨h.1, Al.append h.2 k⟩
  | [], _ :: _, _, _, h, _ => h.elim
  | _ :: _, [], _, _, h, _ => h.elim
theorem Al.one {e : E4} {x : Et} (h1 : e.1 = x.1) (h2 : R e.2 x.2) : Al R [e] [x] := ⟨⟨h1, h2⟩, trivial⟩
theorem Al.perm {es es' : List E4} (p : es.Perm es') : ∀ {L : List Et}, Al R es L → ∃ L', L.Perm L' ∧ Al R es' L' := by
  induction p with
  | nil => intro L h; exact ⟨L, List.Perm.refl _, h⟩
  | cons x _ ih =>
    intro L h
    cases L with
    | nil => exact h.elim
    | cons y L => obtain ⟨L', p1, h1⟩ := ih h.2; exact ⟨y :: L', p1.cons _, h.1, h1⟩
  | swap x y l =>
    intro L h
    match L, h with
    | a :: b :: L, h => exact ⟨b :: a :: L, List.Perm.swap _ _ _, h.2.1, h.1, h.2.2⟩
    | [a], h => exact h.2.elim
    | [], h => exact h.elim
  | trans _ _ ih1 ih2 =>
    intro L h
    obtain ⟨L1, p1, h1⟩ := ih1 h
    obtain ⟨L2, p2, h2⟩ := ih2 h1
    exact ⟨L2, p1.trans p2, h2⟩
end
/-- a slice of entities -/
structure EnL (w : World) (A : Option Addr) (n : Nat) (L : List Et) : Prop where
  len : L.length = n
  nil : A = none → n = 0
  ex : ∃ es, Rd w A (ec es) ∧ Al (Co w) es L
theorem EnL.new {w w' : World} {A : Option Addr} {n : Nat} {L : List Et} (h : EnL w A n L) (k : New w w') : EnL w' A n L := by
  obtain ⟨es, h1, h2⟩ := h.ex
  exact ⟨h.len, h.nil, es, h1.new k, h2.map fun _ _ q => q.new k⟩
theorem EnL.zero (w : World) : EnL w none 0 [] := ⟨rfl, fun _ => rfl, [], .inl rfl, trivial⟩
theorem EnL.el {w : World} {A : Option Addr} {n : Nat} {L : List Et} (h : EnL w A n L) (j : Nat) (hj : j < L.length) : ∃ b off s0 s1 s2, A = some ⟨b, off, none⟩ ∧ w.cell? ⟨b, off + j * 2, none⟩ = some (.int .u32 L[j].1) ∧ w.cell? ⟨b, off + j * 2 + 1, none⟩ = some (.slice s0 s1 s2) ∧ Co w (s0, s1, s2) L[j].2 := by
  obtain ⟨es, h1, h2⟩ := h.ex
  have hj' : j < es.length := by rw [h2.len]; exact hj
  obtain ⟨g0, g1⟩ := ec_get es j hj'
  obtain ⟨k0, k1⟩ := h2.get j hj hj'
  rcases h1 with h1 | ⟨b, off, hA, hc⟩
  · rw [h1] at g0; cases g0
  · refine ⟨b, off, es[j].2.1, es[j].2.2.1, es[j].2.2.2, hA, ?_, ?_, k1⟩
    · rw [← k0]; exact hc _ _ g0
    · have := hc _ _ g1; rwa [← Nat.add_assoc] at this
/-- values in the ranges of their types; no list is long -/
structure SmE (x : Et) : Prop where
  id : x.1 < 4294967296
  len : x.2.length ≤ 1000
  k : ∀ q ∈ x.2, q.k < 256
def Sm (L : List Et) : Prop := ∀ x ∈ L, SmE x
theorem e2_new (w : World) (i : Int) (a : Option Addr) (n c : Nat) : (w.alloc (.cells #[.int .u32 i, .slice a n c] 43)).cell? ⟨w.heap.size, 0, none⟩ = some (.int .u32 i) ∧ (w.alloc (.cells #[.int .u32 i, .slice a n c] 43)).cell? ⟨w.heap.size, 1, none⟩ = some (.slice a n c) := by
  simp only [World.cell?, heap_alloc_new]; exact ⟨rfl, rfl⟩
/-- what a form's check says -/
def oneE (x : Et) : Int := if x.1 / 1024 < 1 ∨ 4194303 < x.1 / 1024 then 4 else lsE (-1) x.2
def secr (l : List C4) : Bool := l.any fun q => !told q.k
def frm : Nat → List Et → Int
  | _, [] => 0
  | last, x :: r => if x.1 ≤ last then 4 else if oneE x ≠ 0 then oneE x else if secr x.2 = true then 4 else frm x.1 r
end Go.Proofs.Ytdnkdmdmekdfkaa
namespace Go.Proofs.Ytdnkdmdmekdfkaa
open Go.RowKit
theorem Gen_any (i : Nat) (g : Nat) (hg : i / 1024 = g) (w : World) (hi : i < 4294967296) : Calls Try.prog 63 #[.int .u32 i] w fun e w' => e = .returned (.int .i64 g) ∧ New w w' := by
  subst hg
  go_enter Try.func63, Try.ntmps63
  repeat' (first | fail | go_values | go_skip | go_guarded | go_step | go_upon | go_back)
  go_returns
  exact ⟨by rw [Int.natCast_ediv]; rfl, Upd.refl _ _⟩
theorem refGen_any (i : Nat) (g : Nat) (hg : i / 1024 = g) (w : World) (hi : i < 4294967296) : Calls Try.prog 39 #[.int .u32 i] w fun e w' => e = .returned (.int .i64 g) ∧ New w w' := by
  subst hg
  go_enter Try.func39, Try.ntmps39
  repeat' (first | fail | go_values | go_skip | go_guarded | go_step | go_upon | go_back)
  go_returns
  exact ⟨by rw [Int.natCast_ediv]; rfl, Upd.refl _ _⟩
set_option maxHeartbeats 1000000 in
theorem one_any (i : Nat) (l : List C4) (a : Option Addr) (n c : Nat) (w : World) (hx : SmE (i, l)) (h : Co w (a, n, c) l) : Calls Try.prog 45 #[.agg #[.int .u32 i, .slice a n c]] w fun e w' => e = .returned (.int .i64 (oneE (i, l))) ∧ New w w' := by
  obtain ⟨hi, hl, hk⟩ := hx
  obtain ⟨h1, h2, h3⟩ := h
  dsimp only at h1 h2 h3 hi hl hk
  have hU := (Upd.refl Nowhere w).alloc (.cells #[.int .u32 i, .slice a n c] 43)
  obtain ⟨c0, c1⟩ := e2_new w i a n c
  have HR := Bx.mk (h3.new hU)
  have HL := Bx.mk (fun w' (k : New (w.alloc (.cells #[.int .u32 i, .slice a n c] 43)) w') => List_any a n c l w' h1 (by omega) (HR.out.new k) hk)
  obtain ⟨g, hg⟩ : ∃ g, i / 1024 = g := ⟨_, rfl⟩
  have HG := Bx.mk (fun w => Gen_any i g hg w hi)
  have HE := Bx.mk (show oneE (i, l) = if g < 1 ∨ 4194303 < g then 4 else lsE (-1) l by rw [← hg]; rfl)
  have hgb : g < 4194304 := by omega
  clear h1 h2 h3 hk hg
  go_enter Try.func45, Try.ntmps45
  by_cases q : g < 1
  · have q1 : (g : Int) < 1 := by omega
    have HE' := Bx.mk (show oneE (i, l) = 4 by rw [HE.out, if_pos (.inl q)])
    repeat' (first | (go_at_call 63; (with_reducible refine (HG.out _).mono ?_); rintro e w2 ⟨rfl, hu2⟩; dsimp only) | go_values | go_skip | go_guarded | go_step | go_upon | go_back)
    go_returns
    exact ⟨by rw [HE'.out]; rfl, hU.trans hu2⟩
  · have q1 : ¬ (g : Int) < 1 := by omega
    have q2 : ¬ (g : Int) > 4194303 := by omega
    have q3 : ¬ (4194303 : Int) < g := by omega
    have HE' := Bx.mk (show oneE (i, l) = lsE (-1) l by rw [HE.out, if_neg (by omega)])
    repeat' (first | (first
      | (go_at_call 63; (with_reducible refine (HG.out _).mono ?_); rintro e w2 ⟨rfl, hu2⟩; have c1' := hu2.cell c1 (fun q => q); dsimp only)
      | (go_at_call 64; (with_reducible refine (HL.out _ hu2).mono ?_); rintro e w3 ⟨rfl, hu3⟩; dsimp only)) | go_values | go_skip | go_guarded | go_step | go_upon | go_back)
    go_returns
    exact ⟨by rw [HE'.out]; rfl, (hU.trans hu2).trans hu3⟩
set_option maxHeartbeats 1000000 in
theorem secret_any (k : Nat) (a b c : Int) (w : World) (hk : k < 256) : Calls Try.prog 47 #[.agg #[.int .u8 k, .int .i32 a, .int .i32 b, .int .i32 c]] w fun e w' => e = .returned (.bool (!told k)) ∧ New w w' := by
  have hU := (Upd.refl Nowhere w).alloc (.cells #[.int .u8 k, .int .i32 a, .int .i32 b, .int .i32 c] 46)
  obtain ⟨c0, c1, c2, c3⟩ := c4_new w k a b c
  have HT := Bx.mk (fun w => Told_any k w hk)
  generalize told k = T at *
  go_enter Try.func47, Try.ntmps47
  repeat' (first | (go_at_call 66; (with_reducible refine (HT.out _).mono ?_); rintro e w2 ⟨rfl, hu2⟩; dsimp only) | go_values | go_skip | go_guarded | go_step | go_upon | go_back)
  go_returns
  exact ⟨rfl, hU.trans hu2⟩
theorem secr_take (l : List C4) (j : Nat) (h : j < l.length) : secr (l.take (j + 1)) = (secr (l.take j) || !told l[j].k) := by
  rw [secr, List.take_succ_eq_append_getElem h, List.any_append]; simp [secr]
set_option maxHeartbeats 4000000 in
theorem idxSecret_any (s : Sl) (l : List C4) (w : World) (h : Co w s l) (hl : l.length ≤ 1000) (hk : ∀ q ∈ l, q.k < 256) : Calls Try.prog 65 #[.slice s.1 s.2.1 s.2.2, .func (.func 47) #[] #[]] w fun e w' => (∃ F : Int, e = .returned (.int .i64 F) ∧ decide (0 ≤ F) = secr l) ∧ New w w' := by
  obtain ⟨A, n, c⟩ := s
  dsimp only
  obtain ⟨h1, h2, hx⟩ := h
  dsimp only at h1 h2 hx
  have HL := Bx.mk h1
  clear h1 h2
  have hn : n ≤ 1000 := by have := HL.out; omega
  go_enter Try.func65, Try.ntmps65
  repeat' (first | fail | go_values | go_skip | go_guarded | go_step | go_upon | go_back)
  go_loopw [8] (fun i wr => ∃ (j : Nat), j ≤ n ∧ i = .int .i64 j ∧ Bx (secr (l.take j) = false) ∧ New w wr) (fun i _ => n - (intOf i).toNat)
  case atStart => exact ⟨0, by omega, rfl, ⟨rfl⟩, Upd.refl _ _⟩
  case round =>
    obtain ⟨j, hj, rfl, HY, hN⟩ := hrel
    by_cases hlt : j < n
    · have hjL : j < l.length := by rw [HL.out]; exact hlt
      obtain ⟨b0, off, rfl, h0, h1, h2, h3⟩ := (hx.new hN).four j hjL
      have HS := Bx.mk (secr_take l j hjL)
      have HT := Bx.mk (show (!told l[j].k) = true → secr l = true from fun h => List.any_eq_true.2 ⟨l[j], List.getElem_mem hjL, h⟩)
      have hq := hk l[j] (List.getElem_mem hjL)
      generalize l[j] = q at *
      obtain ⟨k, a, b, c'⟩ := q
      simp only at h0 h1 h2 h3 HS HT hq
      have HC := Bx.mk (fun w => secret_any k a b c' w hq)
      cases hT : told k with
      | false =>
        rw [hT] at HC HT
        have HE := Bx.mk (HT.out rfl)
        repeat' (first | (go_at_call 47; (with_reducible refine (HC.out _).mono ?_); rintro e w2 ⟨rfl, hu2⟩; dsimp only) | go_values | go_skip | go_guarded | go_step | go_upon | go_back)
        go_returns
        exact ⟨⟨_, rfl, by rw [HE.out]; exact decide_eq_true (by omega)⟩, hN.trans hu2⟩
      | true =>
        rw [hT] at HC HS
        have HY2 := Bx.mk (show secr (l.take (j + 1)) = false by rw [HS.out, HY.out]; rfl)
        repeat' (first | (go_at_call 47; (with_reducible refine (HC.out _).mono ?_); rintro e w2 ⟨rfl, hu2⟩; dsimp only) | go_values | go_skip | go_guarded | go_step | go_upon | go_back)
        go_roundw
        case rel => exact ⟨j + 1, by omega, by go_num, HY2, hN.trans hu2⟩
        case measure => simp [intOf]; omega
    · obtain rfl : j = n := by omega
      have HE := Bx.mk (show secr l = false by have := HY.out; rwa [List.take_of_length_le (by rw [HL.out]; exact Nat.le_refl _)] at this)
      repeat' (first | fail | go_values | go_skip | go_guarded | go_step | go_upon | go_back)
      go_returns
      exact ⟨⟨-1, rfl, by rw [HE.out]; rfl⟩, hN⟩
theorem anySecret_any (A : Option Addr) (n c : Nat) (l : List C4) (w : World) (h : Co w (A, n, c) l) (hl : l.length ≤ 1000) (hk : ∀ q ∈ l, q.k < 256) : Calls Try.prog 46 #[.slice A n c, .func (.func 47) #[] #[]] w fun e w' => e = .returned (.bool (secr l)) ∧ New w w' := by
  have HI := Bx.mk (idxSecret_any (A, n, c) l w h hl hk)
  go_enter Try.func46, Try.ntmps46
  repeat' (first | (go_at_call 65; (with_reducible refine (HI.out).mono ?_); rintro e w2 ⟨⟨F, rfl, hF⟩, hu2⟩; dsimp only) | go_values | go_skip | go_guarded | go_step | go_upon | go_back)
  go_returns
  refine ⟨?_, hu2⟩
  rw [← hF]
  exact congrArg (fun z => Ending.returned (Value.bool z)) (by first | rfl | (rw [Bool.eq_iff_iff]; simp))
set_option maxHeartbeats 4000000 in
theorem Form_any (A : Option Addr) (n c : Nat) (L : List Et) (w : World) (h : EnL w A n L) (hn : n ≤ 1000) (hs : Sm L) : Calls Try.prog 24 #[.slice A n c] w fun e w' => e = .returned (.int .i64 (frm 0 L)) ∧ New w w' := by
  have HL := Bx.mk h.len
  go_enter Try.func24, Try.ntmps24
  repeat' (first | fail | go_values | go_skip | go_guarded | go_step | go_upon | go_back)
  go_loopw [3, 9] (fun la i wr => ∃ (j last : Nat), j ≤ n ∧ i = .int .i64 j ∧ la = .int .u32 last ∧ Bx (frm 0 L = frm last (L.drop j)) ∧ New w wr) (fun _ i _ => n - (intOf i).toNat)
  case atStart => exact ⟨0, 0, by omega, rfl, rfl, ⟨rfl⟩, Upd.refl _ _⟩
  case round =>
    obtain ⟨j, last, hj, rfl, rfl, HJ, hN⟩ := hrel
    by_cases hlt : j < n
    · have hjL : j < L.length := by rw [HL.out]; exact hlt
      obtain ⟨b0, off, s0, s1, s2, rfl, h0, h1, hco⟩ := (h.new hN).el j hjL
      have HD := Bx.mk (show L.drop j = L[j] :: L.drop (j + 1) from List.drop_eq_getElem_cons hjL)
      have hq := hs L[j] (List.getElem_mem hjL)
      generalize L[j] = x at *
      obtain ⟨i, l⟩ := x
      dsimp only at h0 h1 hco
      have HS := Bx.mk (show frm 0 L = if i ≤ last then 4 else if oneE (i, l) ≠ 0 then oneE (i, l) else if secr l = true then 4 else frm i (L.drop (j + 1)) by rw [HJ.out, HD.out]; rfl)
      obtain ⟨n0, n1⟩ := e2_new wr i s0 s1 s2
      have hA := (Upd.refl Nowhere wr).alloc (.cells #[.int .u32 i, .slice s0 s1 s2] 43)
      have hNa := hN.alloc (.cells #[.int .u32 i, .slice s0 s1 s2] 43)
      have HC := Bx.mk (fun w' (k : New wr w') => one_any i l s0 s1 s2 w' hq (hco.new k))
      have HD2 := Bx.mk (fun w' (k : New wr w') => anySecret_any s0 s1 s2 l w' (hco.new k) hq.len hq.k)
      generalize oneE (i, l) = E at *
      generalize secr l = Z at *
      by_cases q1 : i ≤ last
      · have q1I : (i : Int) ≤ (last : Int) := by omega
        have HE := Bx.mk (show frm 0 L = 4 by rw [HS.out, if_pos q1])
        repeat' (first | fail | go_values | go_skip | go_guarded | go_step | go_upon | go_back)
        go_returns
        exact ⟨by rw [HE.out]; rfl, hNa⟩
      · have q1I : ¬ (i : Int) ≤ (last : Int) := by omega
        by_cases q2 : E = 0
        · subst q2
          cases Z with
          | true =>
            have HE := Bx.mk (show frm 0 L = 4 by rw [HS.out, if_neg q1, if_neg (by simp), if_pos rfl])
            repeat' (first | (first
              | (go_at_call 45; (with_reducible refine (HC.out _ hA).mono ?_); rintro e w2 ⟨rfl, hu2⟩; have m1 := hu2.cell n1 (fun q => q); dsimp only)
              | (go_at_call 46; (with_reducible refine (HD2.out _ (hA.trans hu2)).mono ?_); rintro e w3 ⟨rfl, hu3⟩; dsimp only)) | go_values | go_skip | go_guarded | go_step | go_upon | go_back)
            go_returns
            exact ⟨by rw [HE.out]; rfl, (hNa.trans hu2).trans hu3⟩
          | false =>
            have HE := Bx.mk (show frm 0 L = frm i (L.drop (j + 1)) by rw [HS.out, if_neg q1, if_neg (by simp), if_neg (by simp)])
            repeat' (first | (first
              | (go_at_call 45; (with_reducible refine (HC.out _ hA).mono ?_); rintro e w2 ⟨rfl, hu2⟩; have m1 := hu2.cell n1 (fun q => q); dsimp only)
              | (go_at_call 46; (with_reducible refine (HD2.out _ (hA.trans hu2)).mono ?_); rintro e w3 ⟨rfl, hu3⟩; dsimp only)) | go_values | go_skip | go_guarded | go_step | go_upon | go_back)
            go_roundw
            case rel => exact ⟨j + 1, i, by omega, by go_num, rfl, HE, (hNa.trans hu2).trans hu3⟩
            case measure => simp [intOf]; omega
        · have HE := Bx.mk (show frm 0 L = E by rw [HS.out, if_neg q1, if_pos q2])
          repeat' (first | (go_at_call 45; (with_reducible refine (HC.out _ hA).mono ?_); rintro e w2 ⟨rfl, hu2⟩; have m1 := hu2.cell n1 (fun q => q); dsimp only) | go_values | go_skip | go_guarded | go_step | go_upon | go_back)
          go_returns
          exact ⟨by rw [HE.out]; rfl, hNa.trans hu2⟩
    · obtain rfl : j = n := by omega
      have HE := Bx.mk (show frm 0 L = 0 by rw [HJ.out, List.drop_of_length_le (by rw [HL.out]; exact Nat.le_refl _)]; rfl)
      repeat' (first | fail | go_values | go_skip | go_guarded | go_step | go_upon | go_back)
      go_returns
      exact ⟨by rw [HE.out]; rfl, hN⟩
end Go.Proofs.Ytdnkdmdmekdfkaa
