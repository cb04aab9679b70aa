/- Lists of components. -/
import Derived.Test.YtdnkdmdmekdfkaaSc6
import Derived.Deep.QuietTactic
namespace Go.Proofs.Ytdnkdmdmekdfkaa
open Go.RowKit

structure C4 where
  k : Nat
  a : Int
  b : Int
  c : Int
def C4.e (q : C4) : Int := chk q.k [q.a, q.b, q.c]
def ccells (L : List C4) : List Value := L.flatMap fun q => [.int .u8 q.k, .int .i32 q.a, .int .i32 q.b, .int .i32 q.c]
theorem ccells_length (L : List C4) : (ccells L).length = L.length * 4 := by
  induction L with
  | nil => rfl
  | cons q L ih => simp only [ccells, List.flatMap_cons, List.length_append, List.length_cons, List.length_nil] at ih ⊢; omega
theorem ccells_get (L : List C4) (i : Nat) (h : i < L.length) : (ccells L)[i * 4]? = some (.int .u8 L[i].k) ∧ (ccells L)[i * 4 + 1]? = some (.int .i32 L[i].a) ∧ (ccells L)[i * 4 + 2]? = some (.int .i32 L[i].b) ∧ (ccells L)[i * 4 + 3]? = some (.int .i32 L[i].c) := by
  induction L generalizing i with
  | nil => exact absurd h (Nat.not_lt_zero _)
  | cons q L ih =>
    cases i with
    | zero => exact ⟨rfl, rfl, rfl, rfl⟩
    | succ i =>
      obtain ⟨h1, h2, h3, h4⟩ := ih i (by simpa using h)
      rw [show (i + 1) * 4 = i * 4 + 4 by omega, show i * 4 + 4 + 1 = (i * 4 + 1) + 4 by omega, show i * 4 + 4 + 2 = (i * 4 + 2) + 4 by omega, show i * 4 + 4 + 3 = (i * 4 + 3) + 4 by omega]
      exact ⟨h1, h2, h3, h4⟩
theorem Rd.four {w : World} {A : Option Addr} {L : List C4} (h : Rd w A (ccells L)) (i : Nat) (hi : i < L.length) : ∃ b off, A = some ⟨b, off, none⟩ ∧ w.cell? ⟨b, off + i * 4, none⟩ = some (.int .u8 L[i].k) ∧ w.cell? ⟨b, off + i * 4 + 1, none⟩ = some (.int .i32 L[i].a) ∧ w.cell? ⟨b, off + i * 4 + 2, none⟩ = some (.int .i32 L[i].b) ∧ w.cell? ⟨b, off + i * 4 + 3, none⟩ = some (.int .i32 L[i].c) := by
  obtain ⟨g0, g1, g2, g3⟩ := ccells_get L i hi
  rcases h with h | ⟨b, off, h, hc⟩
  · rw [h] at g0; cases g0
  · exact ⟨b, off, h, hc _ _ g0, hc _ _ g1, hc _ _ g2, hc _ _ g3⟩
theorem c4_new (w : World) (k : Nat) (a b c : Int) : (w.alloc (.cells #[.int .u8 k, .int .i32 a, .int .i32 b, .int .i32 c] 46)).cell? ⟨w.heap.size, 0, none⟩ = some (.int .u8 k) ∧ (w.alloc (.cells #[.int .u8 k, .int .i32 a, .int .i32 b, .int .i32 c] 46)).cell? ⟨w.heap.size, 1, none⟩ = some (.int .i32 a) ∧
    (w.alloc (.cells #[.int .u8 k, .int .i32 a, .int .i32 b, .int .i32 c] 46)).cell? ⟨w.heap.size, 2, none⟩ = some (.int .i32 b) ∧ (w.alloc (.cells #[.int .u8 k, .int .i32 a, .int .i32 b, .int .i32 c] 46)).cell? ⟨w.heap.size, 3, none⟩ = some (.int .i32 c) := by
  simp only [World.cell?, heap_alloc_new]; exact ⟨rfl, rfl, rfl, rfl⟩

/-- are they one entity's? -/
def lsE : Int → List C4 → Int
  | _, [] => 0
  | last, q :: L => if q.e ≠ 0 then q.e else if (q.k : Int) ≤ last then 4 else lsE q.k L
def lastAt (L : List C4) : Nat → Int
  | 0 => -1
  | j + 1 => ((L[j]?).map fun q => (q.k : Int)).getD (-1)

set_option maxHeartbeats 4000000 in
theorem refList_any (A : Option Addr) (n c : Nat) (L : List C4) (w : World) (hl : L.length = n) (hn : n ≤ 1000) (hx : Rd w A (ccells L)) (hk : ∀ q ∈ L, q.k < 256) :
    Calls Try.prog 40 #[.slice A n c] w fun e w' => e = .returned (.int .i64 (lsE (-1) L)) ∧ New w w' := by
  have HL := Bx.mk hl
  clear hl
  go_enter Try.func40, Try.ntmps40
  repeat' (first | fail | go_values | go_skip | go_guarded | go_step | go_upon | go_back)
  go_loopw [3, 9] (fun l i wr => ∃ (j : Nat) (last : Int), j ≤ n ∧ i = .int .i64 j ∧ l = .int .i64 last ∧ Bx (lsE (-1) L = lsE last (L.drop j)) ∧ New w wr) (fun _ i _ => n - (intOf i).toNat)
  case atStart => exact ⟨0, -1, by omega, rfl, rfl, ⟨rfl⟩, Upd.refl _ _⟩
  case round =>
    obtain ⟨j, last, hj, rfl, rfl, HJ, hN⟩ := hrel
    by_cases hlt : j < n
    · have hjL : j < L.length := by rw [HL.out]; exact hlt
      obtain ⟨b0, off, rfl, h0, h1, h2, h3⟩ := (hx.new hN).four j hjL
      have HD := Bx.mk (show L.drop j = L[j] :: L.drop (j + 1) from List.drop_eq_getElem_cons hjL)
      have hk256 := hk L[j] (List.getElem_mem hjL)
      generalize L[j] = q at *
      obtain ⟨k, a, b, c'⟩ := q
      simp only at h0 h1 h2 h3 hk256
      have HS := Bx.mk (show lsE (-1) L = if chk k [a, b, c'] ≠ 0 then chk k [a, b, c'] else if (k : Int) ≤ last then 4 else lsE k (L.drop (j + 1)) by rw [HJ.out, HD.out]; rfl)
      obtain ⟨n0, n1, n2, n3⟩ := c4_new wr k a b c'
      have hNa := hN.alloc (.cells #[.int .u8 k, .int .i32 a, .int .i32 b, .int .i32 c'] 46)
      have HC := Bx.mk (fun w => refCheck_any k a b c' w hk256)
      generalize chk k [a, b, c'] = E at *
      by_cases hE : E = 0
      · subst hE
        by_cases hkl : (k : Int) ≤ last
        · have HE := Bx.mk (show lsE (-1) L = 4 by rw [HS.out, if_neg (by simp), if_pos hkl])
          repeat' (first | (go_at_call 61; (with_reducible refine (HC.out _).mono ?_); rintro e w2 ⟨rfl, hu2⟩; have m0 := hu2.cell n0 (fun q => q); dsimp only) | go_values | go_skip | go_guarded | go_step | go_upon | go_back)
          go_ret
          exact ⟨by rw [HE.out]; rfl, hNa.trans hu2⟩
        · repeat' (first | (go_at_call 61; (with_reducible refine (HC.out _).mono ?_); rintro e w2 ⟨rfl, hu2⟩; have m0 := hu2.cell n0 (fun q => q); dsimp only) | go_values | go_skip | go_guarded | go_step | go_upon | go_back)
          go_roundw
          case rel => exact ⟨j + 1, k, by omega, by go_num, rfl, ⟨by rw [HS.out, if_neg (by simp), if_neg hkl]⟩, hNa.trans hu2⟩
          case measure => simp [intOf]; omega
      · have HE := Bx.mk (show lsE (-1) L = E by rw [HS.out, if_pos hE])
        repeat' (first | (go_at_call 61; (with_reducible refine (HC.out _).mono ?_); rintro e w2 ⟨rfl, hu2⟩; dsimp only) | go_values | go_skip | go_guarded | go_step | go_upon | go_back)
        go_ret
        exact ⟨by rw [HE.out]; rfl, hNa.trans hu2⟩
    · obtain rfl : j = n := by omega
      have HE := Bx.mk (show lsE (-1) L = 0 by rw [HJ.out, List.drop_of_length_le (by rw [HL.out]; exact Nat.le_refl _)]; rfl)
      repeat' (first | fail | go_values | go_skip | go_guarded | go_step | go_upon | go_back)
      go_ret
      exact ⟨by rw [HE.out]; rfl, hN⟩

set_option maxHeartbeats 4000000 in
theorem List_any (A : Option Addr) (n c : Nat) (L : List C4) (w : World) (hl : L.length = n) (hn : n ≤ 1000) (hx : Rd w A (ccells L)) (hk : ∀ q ∈ L, q.k < 256) :
    Calls Try.prog 64 #[.slice A n c] w fun e w' => e = .returned (.int .i64 (lsE (-1) L)) ∧ New w w' := by
  have HL := Bx.mk hl
  clear hl
  go_enter Try.func64, Try.ntmps64
  repeat' (first | fail | go_values | go_skip | go_guarded | go_step | go_upon | go_back)
  go_loopw [8] (fun i wr => ∃ (j : Nat), j ≤ n ∧ i = .int .i64 j ∧ Bx (lsE (-1) L = lsE (lastAt L j) (L.drop j)) ∧ New w wr) (fun i _ => n - (intOf i).toNat)
  case atStart => exact ⟨0, by omega, rfl, ⟨rfl⟩, Upd.refl _ _⟩
  case round =>
    obtain ⟨j, hj, rfl, HJ, hN⟩ := hrel
    by_cases hlt : j < n
    · have hjL : j < L.length := by rw [HL.out]; exact hlt
      obtain ⟨b0, off, rfl, h0, h1, h2, h3⟩ := (hx.new hN).four j hjL
      have HD := Bx.mk (show L.drop j = L[j] :: L.drop (j + 1) from List.drop_eq_getElem_cons hjL)
      have hk256 := hk L[j] (List.getElem_mem hjL)
      have HA1 := Bx.mk (show lastAt L (j + 1) = (L[j].k : Int) by rw [lastAt, List.getElem?_eq_getElem hjL]; rfl)
      have HPrev : 0 < j → ∃ p : Nat, lastAt L j = (p : Int) ∧ wr.cell? ⟨b0, off + (j - 1) * 4, none⟩ = some (.int .u8 p) := by
        intro h
        obtain ⟨i, rfl⟩ : ∃ i, j = i + 1 := ⟨j - 1, by omega⟩
        obtain ⟨b1, o1, e1, g0, _⟩ := (hx.new hN).four i (by omega)
        simp only [Option.some.injEq, Addr.mk.injEq, and_true] at e1
        obtain ⟨rfl, rfl⟩ := e1
        exact ⟨L[i].k, by rw [lastAt, List.getElem?_eq_getElem (by omega)]; rfl, by simpa using g0⟩
      have BPrev := Bx.mk HPrev
      clear HPrev
      generalize L[j] = q at *
      obtain ⟨k, a, b, c'⟩ := q
      simp only at h0 h1 h2 h3 hk256 HA1
      have HS := Bx.mk (show lsE (-1) L = if chk k [a, b, c'] ≠ 0 then chk k [a, b, c'] else if (k : Int) ≤ lastAt L j then 4 else lsE k (L.drop (j + 1)) by rw [HJ.out, HD.out]; rfl)
      obtain ⟨n0, n1, n2, n3⟩ := c4_new wr k a b c'
      have hNa := hN.alloc (.cells #[.int .u8 k, .int .i32 a, .int .i32 b, .int .i32 c'] 46)
      have hAl := (Upd.refl Nowhere wr).alloc (.cells #[.int .u8 k, .int .i32 a, .int .i32 b, .int .i32 c'] 46)
      have HC := Bx.mk (fun w => Check_any k a b c' w hk256)
      generalize chk k [a, b, c'] = E at *
      by_cases hE : E = 0
      · subst hE
        by_cases hj0 : j = 0
        · have hd0 : decide ((0 : Int) < (j : Int)) = false := decide_eq_false (by omega)
          have hd1 : decide (0 < j) = false := decide_eq_false (by omega)
          have hla : lastAt L j = -1 := by rw [hj0]; rfl
          have HE := Bx.mk (show lsE (-1) L = lsE (lastAt L (j + 1)) (L.drop (j + 1)) by rw [HS.out, if_neg (by simp), hla, if_neg (by omega), HA1.out])
          clear hla hj0
          repeat' (first | (go_at_call 76; (with_reducible refine (HC.out _).mono ?_); rintro e w2 ⟨rfl, hu2⟩; have m0 := hu2.cell n0 (fun q => q); dsimp only) | go_values | go_skip | go_guarded | go_step | go_upon | go_back)
          go_quiet (fail)
          repeat' (first | fail | go_values | go_skip | go_guarded | go_step | go_upon | go_back)
          go_roundw
          case rel => exact ⟨j + 1, by omega, by go_num, HE, (hNa.trans hu2).drewN _⟩
          case measure => simp [intOf]; omega
        · obtain ⟨p, hp, hcp⟩ := BPrev.out (by omega)
          have hj0' : decide ((0 : Int) < (j : Int)) = true := decide_eq_true (by omega)
          have hj1' : decide (0 < j) = true := decide_eq_true (by omega)
          have hw1 : IntKind.i64.wrap ((j : Int) - 1) = ((j - 1 : Nat) : Int) := by rw [IntKind.wrap_i64]; omega
          have hjn : ((j - 1 : Nat) : Int) < (n : Int) := by omega
          have hcp1 := hAl.cell hcp (fun q => q)
          rw [hp] at HS
          generalize j - 1 = j1 at *
          by_cases hkl : (k : Int) ≤ (p : Int)
          · have HE := Bx.mk (show lsE (-1) L = 4 by rw [HS.out, if_neg (by simp), if_pos hkl])
            repeat' (first | (go_at_call 76; (with_reducible refine (HC.out _).mono ?_); rintro e w2 ⟨rfl, hu2⟩; have m0 := hu2.cell n0 (fun q => q); have mp := hu2.cell hcp1 (fun q => q); dsimp only) | go_values | go_skip | go_guarded | go_step | go_upon | go_back)
            go_quiet (fail)
            repeat' (first | fail | go_values | go_skip | go_guarded | go_step | go_upon | go_back)
            go_ret
            exact ⟨by rw [HE.out]; rfl, (hNa.trans hu2).drewN _⟩
          · repeat' (first | (go_at_call 76; (with_reducible refine (HC.out _).mono ?_); rintro e w2 ⟨rfl, hu2⟩; have m0 := hu2.cell n0 (fun q => q); have mp := hu2.cell hcp1 (fun q => q); dsimp only) | go_values | go_skip | go_guarded | go_step | go_upon | go_back)
            go_quiet (fail)
            repeat' (first | fail | go_values | go_skip | go_guarded | go_step | go_upon | go_back)
            go_roundw
            case rel => exact ⟨j + 1, by omega, by go_num, ⟨by rw [HS.out, if_neg (by simp), if_neg hkl, HA1.out]⟩, (hNa.trans hu2).drewN _⟩
            case measure => simp [intOf]; omega
      · have HE := Bx.mk (show lsE (-1) L = E by rw [HS.out, if_pos hE])
        repeat' (first | (go_at_call 76; (with_reducible refine (HC.out _).mono ?_); rintro e w2 ⟨rfl, hu2⟩; dsimp only) | go_values | go_skip | go_guarded | go_step | go_upon | go_back)
        go_ret
        exact ⟨by rw [HE.out]; rfl, hNa.trans hu2⟩
    · obtain rfl : j = n := by omega
      have HE := Bx.mk (show lsE (-1) L = 0 by rw [HJ.out, List.drop_of_length_le (by rw [HL.out]; exact Nat.le_refl _)]; rfl)
      repeat' (first | fail | go_values | go_skip | go_guarded | go_step | go_upon | go_back)
      go_ret
      exact ⟨by rw [HE.out]; rfl, hN⟩
end Go.Proofs.Ytdnkdmdmekdfkaa
