/- Equal lists: walks (printed by dfp.py). -/
import Derived.Test.YtdnkdmdmekdfkaaDf5
import Derived.Test.YtdnkdmdmekdfkaaDf6
namespace Go.Proofs.Ytdnkdmdmekdfkaa
open Go.RowKit
theorem take_succ_eq {α : Type} (L M : List α) (j : Nat) (h1 : j < L.length) (h2 : j < M.length) (h : L.take j = M.take j) : L.take (j + 1) = M.take (j + 1) ↔ L[j] = M[j] := by
  rw [List.take_succ_eq_append_getElem h1, List.take_succ_eq_append_getElem h2, h]
  exact ⟨fun h => by have := List.append_cancel_left h; simpa using this, fun h => by rw [h]⟩
theorem ne_of_at {α : Type} (L M : List α) (j : Nat) (h1 : j < L.length) (h2 : j < M.length) (h : L[j] ≠ M[j]) : L ≠ M := by
  rintro rfl; exact h rfl
theorem eq_of_take {α : Type} (L M : List α) (n : Nat) (h1 : L.length = n) (h2 : M.length = n) (h : L.take n = M.take n) : L = M := by
  rwa [List.take_of_length_le (by omega), List.take_of_length_le (by omega)] at h
/-- a slice of IDs -/
structure Go_ (w : World) (s : Sl) (l : List Nat) : Prop where
  len : l.length = s.2.1
  nil : s.1 = none → s.2.1 = 0
  rd : Rd w s.1 (u32s l)
theorem Go_.new {w w' : World} {s : Sl} {l : List Nat} (h : Go_ w s l) (k : New w w') : Go_ w' s l := ⟨h.len, h.nil, h.rd.new k⟩
theorem Go_.at_ {w : World} {A : Option Addr} {n c : Nat} {l : List Nat} (h : Go_ w (A, n, c) l) (j : Nat) (hj : j < l.length) : ∃ b off, A = some ⟨b, off, none⟩ ∧ w.cell? ⟨b, off + j, none⟩ = some (.int .u32 l[j]) := by
  have g := u32s_get l j hj
  rcases h.rd with h1 | ⟨b, off, hA, hc⟩
  · rw [h1] at g; cases g
  · exact ⟨b, off, hA, hc _ _ g⟩
set_option maxHeartbeats 4000000 in
theorem EqC_any (A : Option Addr) (n c : Nat) (L : List C4) (B : Option Addr) (m d : Nat) (M : List C4) (w : World) (hx : Co w (A, n, c) L) (hy : Co w (B, m, d) M) (hn : L.length ≤ 1000) :
    Calls Try.prog 59 #[.slice A n c, .slice B m d] w fun e w' => e = .returned (.bool (decide (L = M))) ∧ New w w' := by
  have HL := Bx.mk hx.len
  have HM := Bx.mk hy.len
  dsimp only at HL HM
  have hn2 : n ≤ 1000 := by have := HL.out; omega
  by_cases hnm : n = m
  · have hnmI : (n : Int) = (m : Int) := by omega
    subst hnm
    go_enter Try.func59, Try.ntmps59
    repeat' (first | fail | go_values | go_skip | go_guarded | go_step | go_upon | go_back)
    go_loopw [13] (fun i wr => ∃ (j : Nat), j ≤ n ∧ i = .int .i64 j ∧ Bx (L.take j = M.take j) ∧ New w wr) (fun i _ => n - (intOf i).toNat)
    case atStart => exact ⟨0, by omega, rfl, ⟨rfl⟩, Upd.refl _ _⟩
    case round =>
      obtain ⟨j, hj, rfl, HT, hN⟩ := hrel
      by_cases hlt : j < n
      · have hjL : j < L.length := by rw [HL.out]; exact hlt
        have hjM : j < M.length := by rw [HM.out]; exact hlt
        obtain ⟨b0, o0, rfl, h0, h1, h2, h3⟩ := (hx.rd.new hN).four j hjL
        obtain ⟨b1, o1, rfl, g0, g1, g2, g3⟩ := (hy.rd.new hN).four j hjM
        have HS := Bx.mk (take_succ_eq L M j hjL hjM HT.out)
        have HNE := Bx.mk (ne_of_at L M j hjL hjM)
        generalize L[j] = q at *
        generalize M[j] = r at *
        obtain ⟨k, a, b, c'⟩ := q
        obtain ⟨k2, a2, b2, c2⟩ := r
        have hce := fun w => comp_ne w ⟨k, a, b, c'⟩ ⟨k2, a2, b2, c2⟩
        dsimp only at h0 h1 h2 h3 g0 g1 g2 g3 hce
        have hjn : (j : Int) < (n : Int) := by omega
        by_cases hq : (⟨k, a, b, c'⟩ : C4) = ⟨k2, a2, b2, c2⟩
        · have HT2 := Bx.mk (HS.out.2 hq)
          rw [decide_eq_false (fun h => h hq)] at hce
          clear hq HS HNE
          repeat' (first | fail | go_values | go_skip | go_guarded | go_step | go_upon | go_back)
          go_quiet (fail)
          repeat' (first | fail | go_values | go_skip | go_guarded | go_step | go_upon | go_back)
          go_roundw
          case rel => exact ⟨j + 1, by omega, by go_num, HT2, hN.drewN _⟩
          case measure => simp [intOf]; omega
        · have HF := Bx.mk (HNE.out hq)
          rw [decide_eq_true hq] at hce
          clear hq HS HNE
          repeat' (first | fail | go_values | go_skip | go_guarded | go_step | go_upon | go_back)
          go_quiet (fail)
          repeat' (first | fail | go_values | go_skip | go_guarded | go_step | go_upon | go_back)
          go_returns
          exact ⟨by rw [decide_eq_false HF.out]; rfl, hN.drewN _⟩
      · obtain rfl : j = n := by omega
        have HE := Bx.mk (eq_of_take L M j HL.out HM.out HT.out)
        repeat' (first | fail | go_values | go_skip | go_guarded | go_step | go_upon | go_back)
        go_returns
        exact ⟨by rw [decide_eq_true HE.out]; rfl, hN⟩
  · have hnmI : ¬ (n : Int) = (m : Int) := by omega
    have HF := Bx.mk (show L ≠ M by rintro rfl; exact hnm (HL.out.symm.trans HM.out))
    go_enter Try.func59, Try.ntmps59
    repeat' (first | fail | go_values | go_skip | go_guarded | go_step | go_upon | go_back)
    go_returns
    exact ⟨by rw [decide_eq_false HF.out]; rfl, Upd.refl _ _⟩
set_option maxHeartbeats 4000000 in
theorem SameC_any (A : Option Addr) (n c : Nat) (L : List C4) (B : Option Addr) (m d : Nat) (M : List C4) (w : World) (hx : Co w (A, n, c) L) (hy : Co w (B, m, d) M) (hn : L.length ≤ 1000) :
    Calls Try.prog 38 #[.slice A n c, .slice B m d] w fun e w' => e = .returned (.bool (decide (L = M))) ∧ New w w' := by
  have HL := Bx.mk hx.len
  have HM := Bx.mk hy.len
  dsimp only at HL HM
  have hn2 : n ≤ 1000 := by have := HL.out; omega
  by_cases hnm : n = m
  · have hnmI : (n : Int) = (m : Int) := by omega
    subst hnm
    go_enter Try.func38, Try.ntmps38
    repeat' (first | fail | go_values | go_skip | go_guarded | go_step | go_upon | go_back)
    go_loopw [13] (fun i wr => ∃ (j : Nat), j ≤ n ∧ i = .int .i64 j ∧ Bx (L.take j = M.take j) ∧ New w wr) (fun i _ => n - (intOf i).toNat)
    case atStart => exact ⟨0, by omega, rfl, ⟨rfl⟩, Upd.refl _ _⟩
    case round =>
      obtain ⟨j, hj, rfl, HT, hN⟩ := hrel
      by_cases hlt : j < n
      · have hjL : j < L.length := by rw [HL.out]; exact hlt
        have hjM : j < M.length := by rw [HM.out]; exact hlt
        obtain ⟨b0, o0, rfl, h0, h1, h2, h3⟩ := (hx.rd.new hN).four j hjL
        obtain ⟨b1, o1, rfl, g0, g1, g2, g3⟩ := (hy.rd.new hN).four j hjM
        have HS := Bx.mk (take_succ_eq L M j hjL hjM HT.out)
        have HNE := Bx.mk (ne_of_at L M j hjL hjM)
        generalize L[j] = q at *
        generalize M[j] = r at *
        obtain ⟨k, a, b, c'⟩ := q
        obtain ⟨k2, a2, b2, c2⟩ := r
        have hce := fun w => comp_ne w ⟨k, a, b, c'⟩ ⟨k2, a2, b2, c2⟩
        dsimp only at h0 h1 h2 h3 g0 g1 g2 g3 hce
        have hjn : (j : Int) < (n : Int) := by omega
        by_cases hq : (⟨k, a, b, c'⟩ : C4) = ⟨k2, a2, b2, c2⟩
        · have HT2 := Bx.mk (HS.out.2 hq)
          rw [decide_eq_false (fun h => h hq)] at hce
          clear hq HS HNE
          repeat' (first | fail | go_values | go_skip | go_guarded | go_step | go_upon | go_back)
          go_quiet (fail)
          repeat' (first | fail | go_values | go_skip | go_guarded | go_step | go_upon | go_back)
          go_roundw
          case rel => exact ⟨j + 1, by omega, by go_num, HT2, hN.drewN _⟩
          case measure => simp [intOf]; omega
        · have HF := Bx.mk (HNE.out hq)
          rw [decide_eq_true hq] at hce
          clear hq HS HNE
          repeat' (first | fail | go_values | go_skip | go_guarded | go_step | go_upon | go_back)
          go_quiet (fail)
          repeat' (first | fail | go_values | go_skip | go_guarded | go_step | go_upon | go_back)
          go_returns
          exact ⟨by rw [decide_eq_false HF.out]; rfl, hN.drewN _⟩
      · obtain rfl : j = n := by omega
        have HE := Bx.mk (eq_of_take L M j HL.out HM.out HT.out)
        repeat' (first | fail | go_values | go_skip | go_guarded | go_step | go_upon | go_back)
        go_returns
        exact ⟨by rw [decide_eq_true HE.out]; rfl, hN⟩
  · have hnmI : ¬ (n : Int) = (m : Int) := by omega
    have HF := Bx.mk (show L ≠ M by rintro rfl; exact hnm (HL.out.symm.trans HM.out))
    go_enter Try.func38, Try.ntmps38
    repeat' (first | fail | go_values | go_skip | go_guarded | go_step | go_upon | go_back)
    go_returns
    exact ⟨by rw [decide_eq_false HF.out]; rfl, Upd.refl _ _⟩
set_option maxHeartbeats 4000000 in
theorem EqI_any (A : Option Addr) (n c : Nat) (L : List Nat) (B : Option Addr) (m d : Nat) (M : List Nat) (w : World) (hx : Go_ w (A, n, c) L) (hy : Go_ w (B, m, d) M) (hn : L.length ≤ 1000) :
    Calls Try.prog 55 #[.slice A n c, .slice B m d] w fun e w' => e = .returned (.bool (decide (L = M))) ∧ New w w' := by
  have HL := Bx.mk hx.len
  have HM := Bx.mk hy.len
  dsimp only at HL HM
  have hn2 : n ≤ 1000 := by have := HL.out; omega
  by_cases hnm : n = m
  · have hnmI : (n : Int) = (m : Int) := by omega
    subst hnm
    go_enter Try.func55, Try.ntmps55
    repeat' (first | fail | go_values | go_skip | go_guarded | go_step | go_upon | go_back)
    go_loopw [13] (fun i wr => ∃ (j : Nat), j ≤ n ∧ i = .int .i64 j ∧ Bx (L.take j = M.take j) ∧ New w wr) (fun i _ => n - (intOf i).toNat)
    case atStart => exact ⟨0, by omega, rfl, ⟨rfl⟩, Upd.refl _ _⟩
    case round =>
      obtain ⟨j, hj, rfl, HT, hN⟩ := hrel
      by_cases hlt : j < n
      · have hjL : j < L.length := by rw [HL.out]; exact hlt
        have hjM : j < M.length := by rw [HM.out]; exact hlt
        obtain ⟨b0, o0, rfl, h0⟩ := (hx.new hN).at_ j hjL
        obtain ⟨b1, o1, rfl, g0⟩ := (hy.new hN).at_ j hjM
        have HS := Bx.mk (take_succ_eq L M j hjL hjM HT.out)
        have HNE := Bx.mk (ne_of_at L M j hjL hjM)
        generalize L[j] = q at *
        generalize M[j] = r at *
        have hjn : (j : Int) < (n : Int) := by omega
        by_cases hq : q = r
        · have HT2 := Bx.mk (HS.out.2 hq)
          have hqI : (q : Int) = (r : Int) := by omega
          have hqb : ((q : Int) != (r : Int)) = false := by rw [bne_eq_false_iff_eq]; omega
          clear hq HS HNE
          repeat' (first | fail | go_values | go_skip | go_guarded | go_step | go_upon | go_back)
          go_quiet (fail)
          repeat' (first | fail | go_values | go_skip | go_guarded | go_step | go_upon | go_back)
          go_roundw
          case rel => exact ⟨j + 1, by omega, by go_num, HT2, hN.drewN _⟩
          case measure => simp [intOf]; omega
        · have HF := Bx.mk (HNE.out hq)
          have hqI : ¬ (q : Int) = (r : Int) := by omega
          have hqb : ((q : Int) != (r : Int)) = true := by rw [bne_iff_ne]; omega
          clear hq HS HNE
          repeat' (first | fail | go_values | go_skip | go_guarded | go_step | go_upon | go_back)
          go_quiet (fail)
          repeat' (first | fail | go_values | go_skip | go_guarded | go_step | go_upon | go_back)
          go_returns
          exact ⟨by rw [decide_eq_false HF.out]; rfl, hN.drewN _⟩
      · obtain rfl : j = n := by omega
        have HE := Bx.mk (eq_of_take L M j HL.out HM.out HT.out)
        repeat' (first | fail | go_values | go_skip | go_guarded | go_step | go_upon | go_back)
        go_returns
        exact ⟨by rw [decide_eq_true HE.out]; rfl, hN⟩
  · have hnmI : ¬ (n : Int) = (m : Int) := by omega
    have HF := Bx.mk (show L ≠ M by rintro rfl; exact hnm (HL.out.symm.trans HM.out))
    go_enter Try.func55, Try.ntmps55
    repeat' (first | fail | go_values | go_skip | go_guarded | go_step | go_upon | go_back)
    go_returns
    exact ⟨by rw [decide_eq_false HF.out]; rfl, Upd.refl _ _⟩
set_option maxHeartbeats 4000000 in
theorem SameI_any (A : Option Addr) (n c : Nat) (L : List Nat) (B : Option Addr) (m d : Nat) (M : List Nat) (w : World) (hx : Go_ w (A, n, c) L) (hy : Go_ w (B, m, d) M) (hn : L.length ≤ 1000) :
    Calls Try.prog 37 #[.slice A n c, .slice B m d] w fun e w' => e = .returned (.bool (decide (L = M))) ∧ New w w' := by
  have HL := Bx.mk hx.len
  have HM := Bx.mk hy.len
  dsimp only at HL HM
  have hn2 : n ≤ 1000 := by have := HL.out; omega
  by_cases hnm : n = m
  · have hnmI : (n : Int) = (m : Int) := by omega
    subst hnm
    go_enter Try.func37, Try.ntmps37
    repeat' (first | fail | go_values | go_skip | go_guarded | go_step | go_upon | go_back)
    go_loopw [13] (fun i wr => ∃ (j : Nat), j ≤ n ∧ i = .int .i64 j ∧ Bx (L.take j = M.take j) ∧ New w wr) (fun i _ => n - (intOf i).toNat)
    case atStart => exact ⟨0, by omega, rfl, ⟨rfl⟩, Upd.refl _ _⟩
    case round =>
      obtain ⟨j, hj, rfl, HT, hN⟩ := hrel
      by_cases hlt : j < n
      · have hjL : j < L.length := by rw [HL.out]; exact hlt
        have hjM : j < M.length := by rw [HM.out]; exact hlt
        obtain ⟨b0, o0, rfl, h0⟩ := (hx.new hN).at_ j hjL
        obtain ⟨b1, o1, rfl, g0⟩ := (hy.new hN).at_ j hjM
        have HS := Bx.mk (take_succ_eq L M j hjL hjM HT.out)
        have HNE := Bx.mk (ne_of_at L M j hjL hjM)
        generalize L[j] = q at *
        generalize M[j] = r at *
        have hjn : (j : Int) < (n : Int) := by omega
        by_cases hq : q = r
        · have HT2 := Bx.mk (HS.out.2 hq)
          have hqI : (q : Int) = (r : Int) := by omega
          have hqb : ((q : Int) != (r : Int)) = false := by rw [bne_eq_false_iff_eq]; omega
          clear hq HS HNE
          repeat' (first | fail | go_values | go_skip | go_guarded | go_step | go_upon | go_back)
          go_quiet (fail)
          repeat' (first | fail | go_values | go_skip | go_guarded | go_step | go_upon | go_back)
          go_roundw
          case rel => exact ⟨j + 1, by omega, by go_num, HT2, hN.drewN _⟩
          case measure => simp [intOf]; omega
        · have HF := Bx.mk (HNE.out hq)
          have hqI : ¬ (q : Int) = (r : Int) := by omega
          have hqb : ((q : Int) != (r : Int)) = true := by rw [bne_iff_ne]; omega
          clear hq HS HNE
          repeat' (first | fail | go_values | go_skip | go_guarded | go_step | go_upon | go_back)
          go_quiet (fail)
          repeat' (first | fail | go_values | go_skip | go_guarded | go_step | go_upon | go_back)
          go_returns
          exact ⟨by rw [decide_eq_false HF.out]; rfl, hN.drewN _⟩
      · obtain rfl : j = n := by omega
        have HE := Bx.mk (eq_of_take L M j HL.out HM.out HT.out)
        repeat' (first | fail | go_values | go_skip | go_guarded | go_step | go_upon | go_back)
        go_returns
        exact ⟨by rw [decide_eq_true HE.out]; rfl, hN⟩
  · have hnmI : ¬ (n : Int) = (m : Int) := by omega
    have HF := Bx.mk (show L ≠ M by rintro rfl; exact hnm (HL.out.symm.trans HM.out))
    go_enter Try.func37, Try.ntmps37
    repeat' (first | fail | go_values | go_skip | go_guarded | go_step | go_upon | go_back)
    go_returns
    exact ⟨by rw [decide_eq_false HF.out]; rfl, Upd.refl _ _⟩
set_option maxHeartbeats 4000000 in
theorem SameLam_any (i : Nat) (A : Option Addr) (n c : Nat) (L : List C4) (j : Nat) (B : Option Addr) (m d : Nat) (M : List C4) (w : World) (hx : Co w (A, n, c) L) (hy : Co w (B, m, d) M) (hn : L.length ≤ 1000) :
    Calls Try.prog 73 #[.agg #[.int .u32 i, .slice A n c], .agg #[.int .u32 j, .slice B m d]] w fun e w' => e = .returned (.bool (decide (((i, L) : Et) = (j, M)))) ∧ New w w' := by
  have U0 := ((Upd.refl Nowhere w).alloc (.cells #[.int .u32 i, .slice A n c] 43))
  obtain ⟨b0, b1⟩ := e2_new w i A n c
  have U1 := (Upd.refl Nowhere (w.alloc (.cells #[.int .u32 i, .slice A n c] 43))).alloc (.cells #[.int .u32 j, .slice B m d] 43)
  obtain ⟨d0, d1⟩ := e2_new (w.alloc (.cells #[.int .u32 i, .slice A n c] 43)) j B m d
  rw [show (w.alloc (.cells #[.int .u32 i, .slice A n c] 43)).heap.size = w.heap.size + 1 by simp] at d0 d1
  have c0 := U1.cell b0 (fun q => q)
  have c1 := U1.cell b1 (fun q => q)
  have HC := Bx.mk (EqC_any A n c L B m d M _ (hx.new (U0.trans U1)) (hy.new (U0.trans U1)) hn)
  have hU := U0.trans U1
  clear b0 b1 U0 U1 hx hy
  by_cases hij : i = j
  · subst hij
    have HE := Bx.mk (show decide (((i, L) : Et) = (i, M)) = decide (L = M) by simp)
    generalize decide (L = M) = D at *
    go_enter Try.func73, Try.ntmps73
    repeat' (first | (go_at_call 59; (with_reducible refine (HC.out).mono ?_); rintro e2 w2 ⟨rfl, hu2⟩; dsimp only) | go_values | go_skip | go_guarded | go_step | go_upon | go_back)
    go_returns
    exact ⟨by rw [HE.out]; rfl, hU.trans hu2⟩
  · have hijI : ¬ (i : Int) = (j : Int) := by omega
    have hijb : ((i : Int) == (j : Int)) = false := by rw [beq_eq_false_iff_ne]; omega
    have HE := Bx.mk (show decide (((i, L) : Et) = (j, M)) = false from decide_eq_false (fun h => hij (congrArg Prod.fst h)))
    clear hij
    go_enter Try.func73, Try.ntmps73
    repeat' (first | fail | go_values | go_skip | go_guarded | go_step | go_upon | go_back)
    go_returns
    exact ⟨by rw [HE.out]; rfl, hU⟩
set_option maxHeartbeats 4000000 in
theorem SameEnt_any (i : Nat) (A : Option Addr) (n c : Nat) (L : List C4) (j : Nat) (B : Option Addr) (m d : Nat) (M : List C4) (w : World) (hx : Co w (A, n, c) L) (hy : Co w (B, m, d) M) (hn : L.length ≤ 1000) :
    Calls Try.prog 22 #[.agg #[.int .u32 i, .slice A n c], .agg #[.int .u32 j, .slice B m d]] w fun e w' => e = .returned (.bool (decide (((i, L) : Et) = (j, M)))) ∧ New w w' := by
  have U0 := ((Upd.refl Nowhere w).alloc (.cells #[.int .u32 i, .slice A n c] 43))
  obtain ⟨b0, b1⟩ := e2_new w i A n c
  have U1 := (Upd.refl Nowhere (w.alloc (.cells #[.int .u32 i, .slice A n c] 43))).alloc (.cells #[.int .u32 j, .slice B m d] 43)
  obtain ⟨d0, d1⟩ := e2_new (w.alloc (.cells #[.int .u32 i, .slice A n c] 43)) j B m d
  rw [show (w.alloc (.cells #[.int .u32 i, .slice A n c] 43)).heap.size = w.heap.size + 1 by simp] at d0 d1
  have c0 := U1.cell b0 (fun q => q)
  have c1 := U1.cell b1 (fun q => q)
  have HC := Bx.mk (SameC_any A n c L B m d M _ (hx.new (U0.trans U1)) (hy.new (U0.trans U1)) hn)
  have hU := U0.trans U1
  clear b0 b1 U0 U1 hx hy
  by_cases hij : i = j
  · subst hij
    have HE := Bx.mk (show decide (((i, L) : Et) = (i, M)) = decide (L = M) by simp)
    generalize decide (L = M) = D at *
    go_enter Try.func22, Try.ntmps22
    repeat' (first | (go_at_call 38; (with_reducible refine (HC.out).mono ?_); rintro e2 w2 ⟨rfl, hu2⟩; dsimp only) | go_values | go_skip | go_guarded | go_step | go_upon | go_back)
    go_returns
    exact ⟨by rw [HE.out]; rfl, hU.trans hu2⟩
  · have hijI : ¬ (i : Int) = (j : Int) := by omega
    have hijb : ((i : Int) == (j : Int)) = false := by rw [beq_eq_false_iff_ne]; omega
    have HE := Bx.mk (show decide (((i, L) : Et) = (j, M)) = false from decide_eq_false (fun h => hij (congrArg Prod.fst h)))
    clear hij
    go_enter Try.func22, Try.ntmps22
    repeat' (first | fail | go_values | go_skip | go_guarded | go_step | go_upon | go_back)
    go_returns
    exact ⟨by rw [HE.out]; rfl, hU⟩
end Go.Proofs.Ytdnkdmdmekdfkaa
namespace Go.Proofs.Ytdnkdmdmekdfkaa
open Go.RowKit
/-- a slice of changes -/
structure ChL (w : World) (A : Option Addr) (n : Nat) (L : List Ch) : Prop where
  len : L.length = n
  nil : A = none → n = 0
  ex : ∃ hs, Rd w A (hc hs) ∧ Ah (Co w) hs L
theorem ChL.new {w w' : World} {A : Option Addr} {n : Nat} {L : List Ch} (h : ChL w A n L) (k : New w w') : ChL w' A n L := by
  obtain ⟨es, h1, h2⟩ := h.ex
  exact ⟨h.len, h.nil, es, h1.new k, h2.map fun _ _ q => q.new k⟩
theorem ChL.el {w : World} {A : Option Addr} {n : Nat} {L : List Ch} (h : ChL w A n L) (j : Nat) (hj : j < L.length) : ∃ b off s0 s1 s2 t0 t1 t2, A = some ⟨b, off, none⟩ ∧ w.cell? ⟨b, off + j * 4, none⟩ = some (.int .u32 L[j].id) ∧ w.cell? ⟨b, off + j * 4 + 1, none⟩ = some (.int .u8 L[j].lost.toNat) ∧ w.cell? ⟨b, off + j * 4 + 2, none⟩ = some (.slice s0 s1 s2) ∧ w.cell? ⟨b, off + j * 4 + 3, none⟩ = some (.slice t0 t1 t2) ∧ Co w (s0, s1, s2) L[j].nw ∧ Co w (t0, t1, t2) L[j].st := by
  obtain ⟨es, h1, h2⟩ := h.ex
  have hj' : j < es.length := by rw [h2.len]; exact hj
  obtain ⟨k0, k1, k2, k3⟩ := h2.get j hj hj'
  have g0 := hc_get es j hj' 0 (by omega)
  have g1 := hc_get es j hj' 1 (by omega)
  have g2 := hc_get es j hj' 2 (by omega)
  have g3 := hc_get es j hj' 3 (by omega)
  rcases h1 with h1 | ⟨b, off, hA, hcl⟩
  · rw [h1] at g0; cases g0
  · refine ⟨b, off, es[j].2.2.1.1, es[j].2.2.1.2.1, es[j].2.2.1.2.2, es[j].2.2.2.1, es[j].2.2.2.2.1, es[j].2.2.2.2.2, hA, ?_, ?_, ?_, ?_, k2, k3⟩
    · rw [← k0]; exact hcl _ _ g0
    · rw [← k1]; have := hcl _ _ g1; rwa [← Nat.add_assoc] at this
    · have := hcl _ _ g2; rwa [← Nat.add_assoc] at this
    · have := hcl _ _ g3; rwa [← Nat.add_assoc] at this
theorem ChL.zero (w : World) : ChL w none 0 [] := ⟨rfl, fun _ => rfl, [], .inl rfl, trivial⟩
set_option maxHeartbeats 4000000 in
theorem EqE_any (A : Option Addr) (n c : Nat) (L : List Et) (B : Option Addr) (m d : Nat) (M : List Et) (w : World) (hx : EnL w A n L) (hy : EnL w B m M) (hn : L.length ≤ 1000) (hs : ∀ x ∈ L, x.2.length ≤ 1000) :
    Calls Try.prog 72 #[.slice A n c, .slice B m d, .func (.func 73) #[] #[]] w fun e w' => e = .returned (.bool (decide (L = M))) ∧ New w w' := by
  have HL := Bx.mk hx.len
  have HM := Bx.mk hy.len
  have hn2 : n ≤ 1000 := by have := HL.out; omega
  by_cases hnm : n = m
  · have hnmI : (n : Int) = (m : Int) := by omega
    subst hnm
    go_enter Try.func72, Try.ntmps72
    repeat' (first | fail | go_values | go_skip | go_guarded | go_step | go_upon | go_back)
    go_loopw [17] (fun i wr => ∃ (j : Nat), j ≤ n ∧ i = .int .i64 j ∧ Bx (L.take j = M.take j) ∧ New w wr) (fun i _ => n - (intOf i).toNat)
    case atStart => exact ⟨0, by omega, rfl, ⟨rfl⟩, Upd.refl _ _⟩
    case round =>
      obtain ⟨j, hj, rfl, HT, hN⟩ := hrel
      by_cases hlt : j < n
      · have hjL : j < L.length := by rw [HL.out]; exact hlt
        have hjM : j < M.length := by rw [HM.out]; exact hlt
        obtain ⟨b0, o0, s0, s1, s2, rfl, h0, h1, hc0⟩ := (hx.new hN).el j hjL
        obtain ⟨b1, o1, t0, t1, t2, rfl, g0, g1, hc1⟩ := (hy.new hN).el j hjM
        have HS := Bx.mk (take_succ_eq L M j hjL hjM HT.out)
        have HNE := Bx.mk (ne_of_at L M j hjL hjM)
        have hlq := hs L[j] (List.getElem_mem hjL)
        generalize L[j] = q at *
        generalize M[j] = r at *
        obtain ⟨i1, l1⟩ := q
        obtain ⟨i2, l2⟩ := r
        dsimp only at h0 h1 g0 g1 hc0 hc1 hlq
        have hjn : (j : Int) < (n : Int) := by omega
        have U0 := ((Upd.refl Nowhere wr).alloc (.cells #[.int .u32 i1, .slice s0 s1 s2] 43))
        obtain ⟨x0, x1⟩ := e2_new wr i1 s0 s1 s2
        have U1 := (Upd.refl Nowhere (wr.alloc (.cells #[.int .u32 i1, .slice s0 s1 s2] 43))).alloc (.cells #[.int .u32 i2, .slice t0 t1 t2] 43)
        obtain ⟨d0, d1⟩ := e2_new (wr.alloc (.cells #[.int .u32 i1, .slice s0 s1 s2] 43)) i2 t0 t1 t2
        rw [show (wr.alloc (.cells #[.int .u32 i1, .slice s0 s1 s2] 43)).heap.size = wr.heap.size + 1 by simp] at d0 d1
        have y0 := U1.cell x0 (fun q => q)
        have y1 := U1.cell x1 (fun q => q)
        have g0' := U0.cell g0 (fun q => q)
        have g1' := U0.cell g1 (fun q => q)
        have HC := Bx.mk (SameLam_any i1 s0 s1 s2 l1 i2 t0 t1 t2 l2 _ (hc0.new (U0.trans U1)) (hc1.new (U0.trans U1)) hlq)
        have hU := hN.trans (U0.trans U1)
        clear U0 U1 hc0 hc1
        by_cases hq : ((i1, l1) : Et) = (i2, l2)
        · have HT2 := Bx.mk (HS.out.2 hq)
          rw [decide_eq_true hq] at HC
          clear hq HS HNE
          repeat' (first | (go_at_call 73; (with_reducible refine (HC.out).mono ?_); rintro e2 w2 ⟨rfl, hu2⟩; dsimp only) | go_values | go_skip | go_guarded | go_step | go_upon | go_back)
          go_roundw
          case rel => exact ⟨j + 1, by omega, by go_num, HT2, hU.trans hu2⟩
          case measure => simp [intOf]; omega
        · have HF := Bx.mk (HNE.out hq)
          rw [decide_eq_false hq] at HC
          clear hq HS HNE
          repeat' (first | (go_at_call 73; (with_reducible refine (HC.out).mono ?_); rintro e2 w2 ⟨rfl, hu2⟩; dsimp only) | go_values | go_skip | go_guarded | go_step | go_upon | go_back)
          go_returns
          exact ⟨by rw [decide_eq_false HF.out]; rfl, hU.trans hu2⟩
      · obtain rfl : j = n := by omega
        have HE := Bx.mk (eq_of_take L M j HL.out HM.out HT.out)
        repeat' (first | fail | go_values | go_skip | go_guarded | go_step | go_upon | go_back)
        go_returns
        exact ⟨by rw [decide_eq_true HE.out]; rfl, hN⟩
  · have hnmI : ¬ (n : Int) = (m : Int) := by omega
    have HF := Bx.mk (show L ≠ M by rintro rfl; exact hnm (HL.out.symm.trans HM.out))
    go_enter Try.func72, Try.ntmps72
    repeat' (first | fail | go_values | go_skip | go_guarded | go_step | go_upon | go_back)
    go_returns
    exact ⟨by rw [decide_eq_false HF.out]; rfl, Upd.refl _ _⟩
theorem SnapSame_any (A : Option Addr) (n c : Nat) (L : List Et) (B : Option Addr) (m d : Nat) (M : List Et) (w : World) (hx : EnL w A n L) (hy : EnL w B m M) (hn : L.length ≤ 1000) (hs : ∀ x ∈ L, x.2.length ≤ 1000) :
    Calls Try.prog 56 #[.slice A n c, .slice B m d] w fun e w' => e = .returned (.bool (decide (L = M))) ∧ New w w' := by
  have C := Bx.mk (EqE_any A n c L B m d M w hx hy hn hs)
  go_enter Try.func56, Try.ntmps56
  repeat' (first | (go_at_call 72; (with_reducible refine (C.out).mono ?_); rintro e2 w2 ⟨rfl, hu2⟩; dsimp only) | go_values | go_skip | go_guarded | go_step | go_upon | go_back)
  go_returns
  exact ⟨rfl, hu2⟩
set_option maxHeartbeats 4000000 in
theorem SameEnts_any (A : Option Addr) (n c : Nat) (L : List Et) (B : Option Addr) (m d : Nat) (M : List Et) (w : World) (hx : EnL w A n L) (hy : EnL w B m M) (hn : L.length ≤ 100000) (hs : ∀ x ∈ L, x.2.length ≤ 1000) :
    Calls Try.prog 15 #[.slice A n c, .slice B m d] w fun e w' => e = .returned (.bool (decide (L = M))) ∧ New w w' := by
  have HL := Bx.mk hx.len
  have HM := Bx.mk hy.len
  have hn2 : n ≤ 100000 := by have := HL.out; omega
  by_cases hnm : n = m
  · have hnmI : (n : Int) = (m : Int) := by omega
    subst hnm
    go_enter Try.func15, Try.ntmps15
    repeat' (first | fail | go_values | go_skip | go_guarded | go_step | go_upon | go_back)
    go_loopw [13] (fun i wr => ∃ (j : Nat), j ≤ n ∧ i = .int .i64 j ∧ Bx (L.take j = M.take j) ∧ New w wr) (fun i _ => n - (intOf i).toNat)
    case atStart => exact ⟨0, by omega, rfl, ⟨rfl⟩, Upd.refl _ _⟩
    case round =>
      obtain ⟨j, hj, rfl, HT, hN⟩ := hrel
      by_cases hlt : j < n
      · have hjL : j < L.length := by rw [HL.out]; exact hlt
        have hjM : j < M.length := by rw [HM.out]; exact hlt
        obtain ⟨b0, o0, s0, s1, s2, rfl, h0, h1, hc0⟩ := (hx.new hN).el j hjL
        obtain ⟨b1, o1, t0, t1, t2, rfl, g0, g1, hc1⟩ := (hy.new hN).el j hjM
        have HS := Bx.mk (take_succ_eq L M j hjL hjM HT.out)
        have HNE := Bx.mk (ne_of_at L M j hjL hjM)
        have hlq := hs L[j] (List.getElem_mem hjL)
        generalize L[j] = q at *
        generalize M[j] = r at *
        obtain ⟨i1, l1⟩ := q
        obtain ⟨i2, l2⟩ := r
        dsimp only at h0 h1 g0 g1 hc0 hc1 hlq
        have hjn : (j : Int) < (n : Int) := by omega
        have h0' : ∀ x : After wr, x.to.cell? ⟨b0, o0 + j * 2, none⟩ = some (.int .u32 i1) := fun x => x.h.cell h0 (fun q => q)
        have h1' : ∀ x : After wr, x.to.cell? ⟨b0, o0 + j * 2 + 1, none⟩ = some (.slice s0 s1 s2) := fun x => x.h.cell h1 (fun q => q)
        have g0' : ∀ x : After wr, x.to.cell? ⟨b1, o1 + j * 2, none⟩ = some (.int .u32 i2) := fun x => x.h.cell g0 (fun q => q)
        have g1' : ∀ x : After wr, x.to.cell? ⟨b1, o1 + j * 2 + 1, none⟩ = some (.slice t0 t1 t2) := fun x => x.h.cell g1 (fun q => q)
        have HC := Bx.mk (fun (x : After wr) => SameEnt_any i1 s0 s1 s2 l1 i2 t0 t1 t2 l2 x.to (hc0.new x.h) (hc1.new x.h) hlq)
        clear hc0 hc1 h0 h1 g0 g1
        by_cases hq : ((i1, l1) : Et) = (i2, l2)
        · have HT2 := Bx.mk (HS.out.2 hq)
          rw [decide_eq_true hq] at HC
          clear hq HS HNE
          repeat' (first | fail | go_values | go_skip | go_guarded | go_step | go_upon | go_back)
          (refine wp_region_calm (by kernel_rfl) (by kernel_rfl) ?_; (repeat (go_big_quiet_step ((go_at_call 22; refine Calls.calm (HC.out _))))); refine wpQuiet_nil ?_; intro wq hq)
          clear h0' h1' g0' g1'
          repeat' (first | fail | go_values | go_skip | go_guarded | go_step | go_upon | go_back)
          go_roundw
          case rel => exact ⟨j + 1, by omega, by go_num, HT2, hN.trans hq⟩
          case measure => simp [intOf]; omega
        · have HF := Bx.mk (HNE.out hq)
          rw [decide_eq_false hq] at HC
          clear hq HS HNE
          repeat' (first | fail | go_values | go_skip | go_guarded | go_step | go_upon | go_back)
          (refine wp_region_calm (by kernel_rfl) (by kernel_rfl) ?_; (repeat (go_big_quiet_step ((go_at_call 22; refine Calls.calm (HC.out _))))); refine wpQuiet_nil ?_; intro wq hq)
          clear h0' h1' g0' g1'
          repeat' (first | fail | go_values | go_skip | go_guarded | go_step | go_upon | go_back)
          go_returns
          exact ⟨by rw [decide_eq_false HF.out]; rfl, hN.trans hq⟩
      · obtain rfl : j = n := by omega
        have HE := Bx.mk (eq_of_take L M j HL.out HM.out HT.out)
        repeat' (first | fail | go_values | go_skip | go_guarded | go_step | go_upon | go_back)
        go_returns
        exact ⟨by rw [decide_eq_true HE.out]; rfl, hN⟩
  · have hnmI : ¬ (n : Int) = (m : Int) := by omega
    have HF := Bx.mk (show L ≠ M by rintro rfl; exact hnm (HL.out.symm.trans HM.out))
    go_enter Try.func15, Try.ntmps15
    repeat' (first | fail | go_values | go_skip | go_guarded | go_step | go_upon | go_back)
    go_returns
    exact ⟨by rw [decide_eq_false HF.out]; rfl, Upd.refl _ _⟩
end Go.Proofs.Ytdnkdmdmekdfkaa
namespace Go.Proofs.Ytdnkdmdmekdfkaa
open Go.RowKit
instance : DecidableEq Ch := fun x y => decidable_of_iff (x.id = y.id ∧ x.lost = y.lost ∧ x.nw = y.nw ∧ x.st = y.st) (by cases x; cases y; simp)
set_option maxRecDepth 4000 in
set_option maxHeartbeats 8000000 in
theorem sameLam_any (x : Ch) (s0 : Option Addr) (s1 s2 : Nat) (t0 : Option Addr) (t1 t2 : Nat) (y : Ch) (u0 : Option Addr) (u1 u2 : Nat) (v0 : Option Addr) (v1 v2 : Nat) (w : World) (hs : Co w (s0, s1, s2) x.nw) (ht : Co w (t0, t1, t2) x.st) (hu : Co w (u0, u1, u2) y.nw) (hv : Co w (v0, v1, v2) y.st) (hn1 : x.nw.length ≤ 1000) (hn2 : x.st.length ≤ 1000) :
    Calls Try.prog 58 #[.agg #[.int .u32 x.id, .int .u8 x.lost.toNat, .slice s0 s1 s2, .slice t0 t1 t2], .agg #[.int .u32 y.id, .int .u8 y.lost.toNat, .slice u0 u1 u2, .slice v0 v1 v2]] w fun e w' => e = .returned (.bool (decide (x = y))) ∧ New w w' := by
  obtain ⟨i, p, N1, S1⟩ := x
  obtain ⟨j, q, N2, S2⟩ := y
  dsimp only at hs ht hu hv hn1 hn2 ⊢
  have hc1 := heap_alloc_new w (.cells #[.int .u32 i, .int .u8 p.toNat, .slice s0 s1 s2, .slice t0 t1 t2] 57)
  have U0 := (Upd.refl Nowhere w).alloc (.cells #[.int .u32 i, .int .u8 p.toNat, .slice s0 s1 s2, .slice t0 t1 t2] 57)
  have hc2 := heap_alloc_new (w.alloc (.cells #[.int .u32 i, .int .u8 p.toNat, .slice s0 s1 s2, .slice t0 t1 t2] 57)) (.cells #[.int .u32 j, .int .u8 q.toNat, .slice u0 u1 u2, .slice v0 v1 v2] 57)
  have U1 := (Upd.refl Nowhere (w.alloc (.cells #[.int .u32 i, .int .u8 p.toNat, .slice s0 s1 s2, .slice t0 t1 t2] 57))).alloc (.cells #[.int .u32 j, .int .u8 q.toNat, .slice u0 u1 u2, .slice v0 v1 v2] 57)
  rw [show (w.alloc (.cells #[.int .u32 i, .int .u8 p.toNat, .slice s0 s1 s2, .slice t0 t1 t2] 57)).heap.size = w.heap.size + 1 by simp] at hc2
  have hc1' := U1.blk hc1 (fun q => q)
  have hU := U0.trans U1
  have HE := Bx.mk (show decide ((⟨i, p, N1, S1⟩ : Ch) = ⟨j, q, N2, S2⟩) = (decide (i = j) && (decide (p.toNat = q.toNat) && (decide (N1 = N2) && decide (S1 = S2)))) by
    rw [Bool.eq_iff_iff]
    simp only [decide_eq_true_eq, Bool.and_eq_true, Ch.mk.injEq, BitVec.toNat_inj])
  clear U0 U1 hc1
  go_enter Try.func58, Try.ntmps58
  go_upto_region 1 with (fail)
  generalize (w.alloc (.cells #[.int .u32 i, .int .u8 p.toNat, .slice s0 s1 s2, .slice t0 t1 t2] 57)).alloc (.cells #[.int .u32 j, .int .u8 q.toNat, .slice u0 u1 u2, .slice v0 v1 v2] 57) = w1 at *
  generalize w.heap.size + 1 = B1 at *
  generalize hB0 : w.heap.size = B0 at *
  have HC1 := Bx.mk (fun w2 (k : New w1 w2) => EqC_any s0 s1 s2 N1 u0 u1 u2 N2 w2 (hs.new (hU.trans k)) (hu.new (hU.trans k)) hn1)
  have HC2 := Bx.mk (fun w2 (k : New w1 w2) => EqC_any t0 t1 t2 S1 v0 v1 v2 S2 w2 (ht.new (hU.trans k)) (hv.new (hU.trans k)) hn2)
  have hN0 : New w1 w1 := Upd.refl _ _
  have HH1 := Bx.mk hc1'
  have HH2 := Bx.mk hc2
  obtain ⟨a0, a1, a2, a3, _⟩ := o4_at hc1'
  obtain ⟨b0, b1, b2, b3, _⟩ := o4_at hc2
  have HB0 := Bx.mk hB0
  clear hc1' hc2 hB0
  generalize p.toNat = P at *
  generalize q.toNat = R at *
  generalize decide (S1 = S2) = D2 at *
  generalize decide (N1 = N2) = D1 at *
  by_cases hij : i = j
  · rw [decide_eq_true hij, Bool.true_and] at HE
    have hijb : ((i : Int) == (j : Int)) = true := by rw [beq_iff_eq]; omega
    by_cases hpr : P = R
    · rw [decide_eq_true hpr, Bool.true_and] at HE
      have hprb : ((P : Int) == (R : Int)) = true := by rw [beq_iff_eq]; omega
      clear hij hpr
      cases D1 with
      | false =>
        rw [Bool.false_and] at HE
        repeat' (first | (go_at_call 59; (with_reducible refine (HC1.out _ hN0).mono ?_); rintro e2 w2 ⟨rfl, hu2⟩; dsimp only) | go_values | go_skip | go_guarded | go_step | go_upon | go_back)
        go_returns
        exact ⟨by rw [HE.out]; rfl, hU.trans hu2⟩
      | true =>
        rw [Bool.true_and] at HE
        repeat' (first | (first
          | (have _m := hu2; (go_at_call 59; (with_reducible refine (HC2.out _ hu2).mono ?_); rintro e3 w3 ⟨rfl, hu3⟩; dsimp only))
          | (go_at_call 59; (with_reducible refine (HC1.out _ hN0).mono ?_); rintro e2 w2 ⟨rfl, hu2⟩; obtain ⟨_, _, _, a3', _⟩ := o4_at (hu2.blk HH1.out (fun q => q)); obtain ⟨_, _, _, b3', _⟩ := o4_at (hu2.blk HH2.out (fun q => q)); dsimp only)) | go_values | go_skip | go_guarded | go_step | go_upon | go_back)
        go_returns
        exact ⟨by rw [HE.out]; rfl, (hU.trans hu2).trans hu3⟩
    · rw [decide_eq_false hpr, Bool.false_and] at HE
      have hprb : ((P : Int) == (R : Int)) = false := by rw [beq_eq_false_iff_ne]; omega
      clear hij hpr
      repeat' (first | fail | go_values | go_skip | go_guarded | go_step | go_upon | go_back)
      go_returns
      exact ⟨by rw [HE.out]; rfl, hU⟩
  · rw [decide_eq_false hij, Bool.false_and] at HE
    have hijb : ((i : Int) == (j : Int)) = false := by rw [beq_eq_false_iff_ne]; omega
    clear hij
    repeat' (first | fail | go_values | go_skip | go_guarded | go_step | go_upon | go_back)
    go_returns
    exact ⟨by rw [HE.out]; rfl, hU⟩
def SmC (L : List Ch) : Prop := ∀ x ∈ L, x.nw.length ≤ 1000 ∧ x.st.length ≤ 1000
set_option maxRecDepth 4000 in
set_option maxHeartbeats 4000000 in
theorem EqH_any (A : Option Addr) (n c : Nat) (L : List Ch) (B : Option Addr) (m d : Nat) (M : List Ch) (w : World) (hx : ChL w A n L) (hy : ChL w B m M) (hn : L.length ≤ 1000) (hs : SmC L) :
    Calls Try.prog 57 #[.slice A n c, .slice B m d, .func (.func 58) #[] #[]] w fun e w' => e = .returned (.bool (decide (L = M))) ∧ New w w' := by
  have HL := Bx.mk hx.len
  have HM := Bx.mk hy.len
  have hn2 : n ≤ 1000 := by have := HL.out; omega
  by_cases hnm : n = m
  · have hnmI : (n : Int) = (m : Int) := by omega
    subst hnm
    go_enter Try.func57, Try.ntmps57
    repeat' (first | fail | go_values | go_skip | go_guarded | go_step | go_upon | go_back)
    go_loopw [17] (fun i wr => ∃ (j : Nat), j ≤ n ∧ i = .int .i64 j ∧ Bx (L.take j = M.take j) ∧ New w wr) (fun i _ => n - (intOf i).toNat)
    case atStart => exact ⟨0, by omega, rfl, ⟨rfl⟩, Upd.refl _ _⟩
    case round =>
      obtain ⟨j, hj, rfl, HT, hN⟩ := hrel
      by_cases hlt : j < n
      · have hjL : j < L.length := by rw [HL.out]; exact hlt
        have hjM : j < M.length := by rw [HM.out]; exact hlt
        obtain ⟨b0, o0, s0, s1, s2, t0, t1, t2, rfl, h0, h1, h2, h3, hc0, hc1⟩ := (hx.new hN).el j hjL
        obtain ⟨b1, o1, u0, u1, u2, v0, v1, v2, rfl, g0, g1, g2, g3, hc2, hc3⟩ := (hy.new hN).el j hjM
        have HS := Bx.mk (take_succ_eq L M j hjL hjM HT.out)
        have HNE := Bx.mk (ne_of_at L M j hjL hjM)
        have hlq := hs L[j] (List.getElem_mem hjL)
        generalize L[j] = q at *
        generalize M[j] = r at *
        have hjn : (j : Int) < (n : Int) := by omega
        have HL0 := fun (W : World) (k : New wr W) => sameLam_any q s0 s1 s2 t0 t1 t2 r u0 u1 u2 v0 v1 v2 W (hc0.new k) (hc1.new k) (hc2.new k) (hc3.new k) hlq.1 hlq.2
        by_cases hq : q = r
        · have HT2 := Bx.mk (HS.out.2 hq)
          have HC := Bx.mk HL0
          rw [decide_eq_true hq] at HC
          clear hq HS HNE HL0 hc0 hc1 hc2 hc3
          obtain ⟨i1, p1, _, _⟩ := q
          obtain ⟨i2, p2, _, _⟩ := r
          dsimp only at h0 h1 h2 h3 g0 g1 g2 g3 HC
          generalize p1.toNat = P at *
          generalize p2.toNat = R at *
          have U0 := (Upd.refl Nowhere wr).alloc (.cells #[.int .u32 i1, .int .u8 P, .slice s0 s1 s2, .slice t0 t1 t2] 57)
          have x0 := heap_alloc_new wr (.cells #[.int .u32 i1, .int .u8 P, .slice s0 s1 s2, .slice t0 t1 t2] 57)
          have U1 := (Upd.refl Nowhere (wr.alloc (.cells #[.int .u32 i1, .int .u8 P, .slice s0 s1 s2, .slice t0 t1 t2] 57))).alloc (.cells #[.int .u32 i2, .int .u8 R, .slice u0 u1 u2, .slice v0 v1 v2] 57)
          have x1 := heap_alloc_new (wr.alloc (.cells #[.int .u32 i1, .int .u8 P, .slice s0 s1 s2, .slice t0 t1 t2] 57)) (.cells #[.int .u32 i2, .int .u8 R, .slice u0 u1 u2, .slice v0 v1 v2] 57)
          rw [show (wr.alloc (.cells #[.int .u32 i1, .int .u8 P, .slice s0 s1 s2, .slice t0 t1 t2] 57)).heap.size = wr.heap.size + 1 by simp] at x1
          obtain ⟨k0, k1, k2, k3, _⟩ := o4_at (U1.blk x0 (fun q => q))
          obtain ⟨l0, l1, l2, l3, _⟩ := o4_at x1
          have g0' := U0.cell g0 (fun q => q)
          have g1' := U0.cell g1 (fun q => q)
          have g2' := U0.cell g2 (fun q => q)
          have g3' := U0.cell g3 (fun q => q)
          have hU := U0.trans U1
          have hU2 := hN.trans hU
          clear x0 x1 U0 U1
          repeat' (first | (go_at_call 58; (with_reducible refine (HC.out _ hU).mono ?_); rintro e2 w2 ⟨rfl, hu2⟩; dsimp only) | go_values | go_skip | go_guarded | go_step | go_upon | go_back)
          go_roundw
          case rel => exact ⟨j + 1, by omega, by go_num, HT2, hU2.trans hu2⟩
          case measure => simp [intOf]; omega
        · have HF := Bx.mk (HNE.out hq)
          have HC := Bx.mk HL0
          rw [decide_eq_false hq] at HC
          clear hq HS HNE HL0 hc0 hc1 hc2 hc3
          obtain ⟨i1, p1, _, _⟩ := q
          obtain ⟨i2, p2, _, _⟩ := r
          dsimp only at h0 h1 h2 h3 g0 g1 g2 g3 HC
          generalize p1.toNat = P at *
          generalize p2.toNat = R at *
          have U0 := (Upd.refl Nowhere wr).alloc (.cells #[.int .u32 i1, .int .u8 P, .slice s0 s1 s2, .slice t0 t1 t2] 57)
          have x0 := heap_alloc_new wr (.cells #[.int .u32 i1, .int .u8 P, .slice s0 s1 s2, .slice t0 t1 t2] 57)
          have U1 := (Upd.refl Nowhere (wr.alloc (.cells #[.int .u32 i1, .int .u8 P, .slice s0 s1 s2, .slice t0 t1 t2] 57))).alloc (.cells #[.int .u32 i2, .int .u8 R, .slice u0 u1 u2, .slice v0 v1 v2] 57)
          have x1 := heap_alloc_new (wr.alloc (.cells #[.int .u32 i1, .int .u8 P, .slice s0 s1 s2, .slice t0 t1 t2] 57)) (.cells #[.int .u32 i2, .int .u8 R, .slice u0 u1 u2, .slice v0 v1 v2] 57)
          rw [show (wr.alloc (.cells #[.int .u32 i1, .int .u8 P, .slice s0 s1 s2, .slice t0 t1 t2] 57)).heap.size = wr.heap.size + 1 by simp] at x1
          obtain ⟨k0, k1, k2, k3, _⟩ := o4_at (U1.blk x0 (fun q => q))
          obtain ⟨l0, l1, l2, l3, _⟩ := o4_at x1
          have g0' := U0.cell g0 (fun q => q)
          have g1' := U0.cell g1 (fun q => q)
          have g2' := U0.cell g2 (fun q => q)
          have g3' := U0.cell g3 (fun q => q)
          have hU := U0.trans U1
          have hU2 := hN.trans hU
          clear x0 x1 U0 U1
          repeat' (first | (go_at_call 58; (with_reducible refine (HC.out _ hU).mono ?_); rintro e2 w2 ⟨rfl, hu2⟩; dsimp only) | go_values | go_skip | go_guarded | go_step | go_upon | go_back)
          go_returns
          exact ⟨by rw [decide_eq_false HF.out]; rfl, hU2.trans hu2⟩
      · obtain rfl : j = n := by omega
        have HE := Bx.mk (eq_of_take L M j HL.out HM.out HT.out)
        repeat' (first | fail | go_values | go_skip | go_guarded | go_step | go_upon | go_back)
        go_returns
        exact ⟨by rw [decide_eq_true HE.out]; rfl, hN⟩
  · have hnmI : ¬ (n : Int) = (m : Int) := by omega
    have HF := Bx.mk (show L ≠ M by rintro rfl; exact hnm (HL.out.symm.trans HM.out))
    go_enter Try.func57, Try.ntmps57
    repeat' (first | fail | go_values | go_skip | go_guarded | go_step | go_upon | go_back)
    go_returns
    exact ⟨by rw [decide_eq_false HF.out]; rfl, Upd.refl _ _⟩
end Go.Proofs.Ytdnkdmdmekdfkaa
namespace Go.Proofs.Ytdnkdmdmekdfkaa
open Go.RowKit
structure DlR (w : World) (g0 : Option Addr) (g1 g2 : Nat) (c0 : Option Addr) (c1 : Nat) (h0 : Option Addr) (h1 : Nat) (D : Dl) : Prop where
  gone : Go_ w (g0, g1, g2) D.gone
  come : EnL w c0 c1 D.come
  chg : ChL w h0 h1 D.chg
theorem DlR.new {w w' : World} {g0 c0 h0 : Option Addr} {g1 g2 c1 h1 : Nat} {D : Dl} (d : DlR w g0 g1 g2 c0 c1 h0 h1 D) (k : New w w') : DlR w' g0 g1 g2 c0 c1 h0 h1 D := ⟨d.gone.new k, d.come.new k, d.chg.new k⟩
structure SmD (D : Dl) : Prop where
  g : D.gone.length ≤ 1000
  c : D.come.length ≤ 1000
  h : D.chg.length ≤ 1000
  cs : Sm D.come
  hs : SmC D.chg
instance : DecidableEq Dl := fun x y => decidable_of_iff (x.gone = y.gone ∧ x.come = y.come ∧ x.chg = y.chg) (by cases x; cases y; simp)
theorem dl_eq (D E : Dl) : decide (D = E) = (decide (D.gone = E.gone) && (decide (D.come = E.come) && decide (D.chg = E.chg))) := by
  rw [Bool.eq_iff_iff]
  simp only [decide_eq_true_eq, Bool.and_eq_true]
  cases D; cases E; simp
theorem DlN.r {base : Nat} {w : World} {g c h : Value} {D : Dl} (d : DlN base w g c h D) : ∃ g0 g2 c0 c2 h0 h2, g = .slice g0 D.gone.length g2 ∧ c = .slice c0 D.come.length c2 ∧ h = .slice h0 D.chg.length h2 ∧ DlR w g0 D.gone.length g2 c0 D.come.length h0 D.chg.length D := by
  obtain ⟨d1, d2, d3⟩ := d
  obtain ⟨c0, c2, rfl, e2⟩ := d2.enl
  unfold GoN at d1
  obtain ⟨g0, g2, rfl, _, _, r1, _⟩ := own_rd d1
  obtain ⟨hs, ho, ha⟩ := d3.ex
  obtain ⟨h0, h2, rfl, _, _, r3, _⟩ := own_rd ho
  refine ⟨g0, g2, c0, c2, h0, h2, rfl, rfl, rfl, ⟨rfl, fun hA => ?_, r1⟩, e2, rfl, fun hA => ?_, hs, r3, ha.map fun _ _ q => q.co⟩
  · dsimp only at hA ⊢
    by_cases hz : 0 < D.gone.length
    · exact own_none d1 hz hA
    · omega
  · by_cases hz : 0 < D.chg.length
    · exact own_none ho hz hA
    · omega
set_option maxRecDepth 4000 in
set_option maxHeartbeats 8000000 in
theorem same_any (g0 : Option Addr) (g1 g2 : Nat) (c0 : Option Addr) (c1 c2 : Nat) (h0 : Option Addr) (h1 h2 : Nat) (D : Dl) (k0 : Option Addr) (k1 k2 : Nat) (l0 : Option Addr) (l1 l2 : Nat) (m0 : Option Addr) (m1 m2 : Nat) (E : Dl) (w : World) (hx : DlR w g0 g1 g2 c0 c1 h0 h1 D) (hy : DlR w k0 k1 k2 l0 l1 m0 m1 E) (hs : SmD D) :
    Calls Try.prog 32 #[.agg #[.slice g0 g1 g2, .slice c0 c1 c2, .slice h0 h1 h2], .agg #[.slice k0 k1 k2, .slice l0 l1 l2, .slice m0 m1 m2]] w fun e w' => e = .returned (.bool (decide (D = E))) ∧ New w w' := by
  have hc1 := heap_alloc_new w (.cells #[.slice g0 g1 g2, .slice c0 c1 c2, .slice h0 h1 h2] 26)
  have U0 := (Upd.refl Nowhere w).alloc (.cells #[.slice g0 g1 g2, .slice c0 c1 c2, .slice h0 h1 h2] 26)
  have hc2 := heap_alloc_new (w.alloc (.cells #[.slice g0 g1 g2, .slice c0 c1 c2, .slice h0 h1 h2] 26)) (.cells #[.slice k0 k1 k2, .slice l0 l1 l2, .slice m0 m1 m2] 26)
  have U1 := (Upd.refl Nowhere (w.alloc (.cells #[.slice g0 g1 g2, .slice c0 c1 c2, .slice h0 h1 h2] 26))).alloc (.cells #[.slice k0 k1 k2, .slice l0 l1 l2, .slice m0 m1 m2] 26)
  rw [show (w.alloc (.cells #[.slice g0 g1 g2, .slice c0 c1 c2, .slice h0 h1 h2] 26)).heap.size = w.heap.size + 1 by simp] at hc2
  have hc1' := U1.blk hc1 (fun q => q)
  have hU := U0.trans U1
  have HE := Bx.mk (dl_eq D E)
  clear U0 U1 hc1
  go_enter Try.func32, Try.ntmps32
  go_upto_region 1 with (fail)
  generalize (w.alloc (.cells #[.slice g0 g1 g2, .slice c0 c1 c2, .slice h0 h1 h2] 26)).alloc (.cells #[.slice k0 k1 k2, .slice l0 l1 l2, .slice m0 m1 m2] 26) = w1 at *
  generalize w.heap.size + 1 = B1 at *
  generalize hB0 : w.heap.size = B0 at *
  have HC1 := Bx.mk (fun w2 (k : New w1 w2) => EqI_any g0 g1 g2 D.gone k0 k1 k2 E.gone w2 (hx.gone.new (hU.trans k)) (hy.gone.new (hU.trans k)) hs.g)
  have HC2 := Bx.mk (fun w2 (k : New w1 w2) => SnapSame_any c0 c1 c2 D.come l0 l1 l2 E.come w2 (hx.come.new (hU.trans k)) (hy.come.new (hU.trans k)) hs.c (fun x hx => (hs.cs x hx).len))
  have HC3 := Bx.mk (fun w2 (k : New w1 w2) => EqH_any h0 h1 h2 D.chg m0 m1 m2 E.chg w2 (hx.chg.new (hU.trans k)) (hy.chg.new (hU.trans k)) hs.h hs.hs)
  have hN0 : New w1 w1 := Upd.refl _ _
  have HH1 := Bx.mk hc1'
  have HH2 := Bx.mk hc2
  obtain ⟨a0, a1, a2, _⟩ := o3_at hc1'
  obtain ⟨b0, b1, b2, _⟩ := o3_at hc2
  have HB0 := Bx.mk hB0
  clear hc1' hc2 hB0
  generalize decide (D.gone = E.gone) = D1 at *
  generalize decide (D.come = E.come) = D2 at *
  generalize decide (D.chg = E.chg) = D3 at *
  cases D1 with
  | false =>
    rw [Bool.false_and] at HE
    repeat' (first | (go_at_call 55; (with_reducible refine (HC1.out _ hN0).mono ?_); rintro e2 w2 ⟨rfl, hu2⟩; dsimp only) | go_values | go_skip | go_guarded | go_step | go_upon | go_back)
    go_returns
    exact ⟨by rw [HE.out]; rfl, hU.trans hu2⟩
  | true =>
    rw [Bool.true_and] at HE
    cases D2 with
    | false =>
      rw [Bool.false_and] at HE
      repeat' (first | (first
        | (go_at_call 55; (with_reducible refine (HC1.out _ hN0).mono ?_); rintro e2 w2 ⟨rfl, hu2⟩; obtain ⟨_, a1', a2', _⟩ := o3_at (hu2.blk HH1.out (fun q => q)); obtain ⟨_, b1', b2', _⟩ := o3_at (hu2.blk HH2.out (fun q => q)); dsimp only)
        | (go_at_call 56; (with_reducible refine (HC2.out _ hu2).mono ?_); rintro e3 w3 ⟨rfl, hu3⟩; dsimp only)) | go_values | go_skip | go_guarded | go_step | go_upon | go_back)
      go_returns
      exact ⟨by rw [HE.out]; rfl, (hU.trans hu2).trans hu3⟩
    | true =>
      rw [Bool.true_and] at HE
      repeat' (first | (first
        | (go_at_call 55; (with_reducible refine (HC1.out _ hN0).mono ?_); rintro e2 w2 ⟨rfl, hu2⟩; obtain ⟨_, a1', a2', _⟩ := o3_at (hu2.blk HH1.out (fun q => q)); obtain ⟨_, b1', b2', _⟩ := o3_at (hu2.blk HH2.out (fun q => q)); dsimp only)
        | (go_at_call 56; (with_reducible refine (HC2.out _ hu2).mono ?_); rintro e3 w3 ⟨rfl, hu3⟩; have hu3' := hu2.trans hu3; obtain ⟨_, _, a2'', _⟩ := o3_at (hu3'.blk HH1.out (fun q => q)); obtain ⟨_, _, b2'', _⟩ := o3_at (hu3'.blk HH2.out (fun q => q)); dsimp only)
        | (go_at_call 57; (with_reducible refine (HC3.out _ hu3').mono ?_); rintro e4 w4 ⟨rfl, hu4⟩; dsimp only)) | go_values | go_skip | go_guarded | go_step | go_upon | go_back)
      go_returns
      exact ⟨by rw [HE.out]; rfl, (hU.trans hu3').trans hu4⟩
set_option maxRecDepth 4000 in
set_option maxHeartbeats 8000000 in
theorem Empty_any (g0 : Option Addr) (g1 g2 : Nat) (c0 : Option Addr) (c1 c2 : Nat) (h0 : Option Addr) (h1 h2 : Nat) (w : World) :
    Calls Try.prog 20 #[.agg #[.slice g0 g1 g2, .slice c0 c1 c2, .slice h0 h1 h2]] w fun e w' => e = .returned (.bool (decide (g1 = 0 ∧ c1 = 0 ∧ h1 = 0))) ∧ New w w' := by
  have hU := (Upd.refl Nowhere w).alloc (.cells #[.slice g0 g1 g2, .slice c0 c1 c2, .slice h0 h1 h2] 26)
  obtain ⟨z0, z1, z2, zf⟩ := o3_at (heap_alloc_new w (.cells #[.slice g0 g1 g2, .slice c0 c1 c2, .slice h0 h1 h2] 26))
  by_cases e1 : g1 = 0
  · have d1 : ((g1 : Int) == 0) = true := by simp [e1]
    have D1 := Bx.mk e1
    by_cases e2 : c1 = 0
    · have d2 : ((c1 : Int) == 0) = true := by simp [e2]
      have D2 := Bx.mk e2
      clear e1 e2
      go_enter Try.func20, Try.ntmps20
      repeat' (first | fail | go_values | go_skip | go_guarded | go_step | go_upon | go_back)
      go_returns
      refine ⟨?_, hU⟩
      exact congrArg (fun z => Ending.returned (Value.bool z)) (Bool.eq_iff_iff.2 (by simp only [decide_eq_true_eq, beq_iff_eq]; have := D1.out; have := D2.out; omega))
    · have d2 : ((c1 : Int) == 0) = false := by simp [e2]
      have D2 := Bx.mk e2
      clear e1 e2
      go_enter Try.func20, Try.ntmps20
      repeat' (first | fail | go_values | go_skip | go_guarded | go_step | go_upon | go_back)
      go_returns
      refine ⟨?_, hU⟩
      rw [decide_eq_false (fun h => D2.out h.2.1)]; rfl
  · have d1 : ((g1 : Int) == 0) = false := by simp [e1]
    have D1 := Bx.mk e1
    clear e1
    go_enter Try.func20, Try.ntmps20
    repeat' (first | fail | go_values | go_skip | go_guarded | go_step | go_upon | go_back)
    go_returns
    refine ⟨?_, hU⟩
    rw [decide_eq_false (fun h => D1.out h.1)]; rfl
end Go.Proofs.Ytdnkdmdmekdfkaa
