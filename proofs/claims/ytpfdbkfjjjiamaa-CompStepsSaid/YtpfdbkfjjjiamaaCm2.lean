/- Components as parts: more, whole, size. -/
import Derived.Test.YtpfdbkfjjjiamaaCm1
namespace Go.Proofs.Ytpfdbkfjjjiamaa
open Go.RowKit

theorem infoP : (Try.prog.info? 93).map (fun i => (i.zero, i.size, i.bytes)) = some (some (.agg #[.int .u64 0, .int .i64 0]), 2, 16) := by kernel_rfl
/-- the cells of parts -/
def pcells (L : List (Nat × Nat)) : List Value := L.flatMap fun q => [.int .u64 q.1, .int .i64 q.2]
def psize (L : List (Nat × Nat)) : Nat := (L.map Prod.snd).sum
theorem pcells_append (L M : List (Nat × Nat)) : pcells (L ++ M) = pcells L ++ pcells M := by simp [pcells]
theorem psize_append (L M : List (Nat × Nat)) : psize (L ++ M) = psize L + psize M := by simp [psize]
theorem pcells_length (L : List (Nat × Nat)) : (pcells L).length = 2 * L.length := by
  induction L with
  | nil => rfl
  | cons q L ih => simp only [pcells, List.flatMap_cons, List.length_append, List.length_cons, List.length_nil] at ih ⊢; omega
theorem pcells_get (L : List (Nat × Nat)) (i : Nat) (h : i < L.length) : (pcells L)[i * 2]? = some (.int .u64 L[i].1) ∧ (pcells L)[i * 2 + 1]? = some (.int .i64 L[i].2) := by
  induction L generalizing i with
  | nil => exact absurd h (Nat.not_lt_zero _)
  | cons q L ih =>
    cases i with
    | zero => exact ⟨rfl, rfl⟩
    | succ i =>
      obtain ⟨h1, h2⟩ := ih i (by simpa using h)
      rw [show (i + 1) * 2 = i * 2 + 2 by omega, show i * 2 + 2 + 1 = (i * 2 + 1) + 2 by omega]
      exact ⟨h1, h2⟩
theorem pcells_one (L : List (Nat × Nat)) : ∀ u ∈ pcells L, u.oneCell' = true := by
  intro u hu
  simp only [pcells, List.mem_flatMap] at hu
  obtain ⟨q, _, hq⟩ := hu
  simp at hq
  rcases hq with rfl | rfl <;> rfl
theorem Rd.two {w : World} {A : Option Addr} {L : List (Nat × Nat)} (h : Rd w A (pcells L)) (i : Nat) (hi : i < L.length) :
    ∃ b off, A = some ⟨b, off, none⟩ ∧ w.cell? ⟨b, off + i * 2, none⟩ = some (.int .u64 L[i].1) ∧ w.cell? ⟨b, off + i * 2 + 1, none⟩ = some (.int .i64 L[i].2) := by
  obtain ⟨g0, g1⟩ := pcells_get L i hi
  rcases h with h | ⟨b, off, h, hc⟩
  · rw [h] at g0; cases g0
  · exact ⟨b, off, h, hc _ _ g0, hc _ _ g1⟩

def wholeTo (k : Nat) (F : List Int) (j : Nat) : List (Nat × Nat) := (List.range j).map (fldP k F)
theorem wholeTo_succ (k : Nat) (F : List Int) (j : Nat) : wholeTo k F (j + 1) = wholeTo k F j ++ [fldP k F j] := by simp [wholeTo, List.range_succ]
theorem wholeTo_length (k : Nat) (F : List Int) (j : Nat) : (wholeTo k F j).length = j := by simp [wholeTo]

set_option maxRecDepth 4000 in
set_option maxHeartbeats 1000000 in
theorem more_any (k k' : Nat) (a b c a' b' c' : Int) (i : Nat) (w : World) (hi : i < 3) (h1 : -1000000 ≤ [a, b, c].getD i 0) (h2 : [a, b, c].getD i 0 ≤ 1000000) (h3 : -1000000 ≤ [a', b', c'].getD i 0) (h4 : [a', b', c'].getD i 0 ≤ 1000000) :
    Calls Try.prog 52 #[.agg #[.int .u8 k, .int .i32 a, .int .i32 b, .int .i32 c], .agg #[.int .u8 k', .int .i32 a', .int .i32 b', .int .i32 c'], .int .i64 i] w fun e w' => e = .returned (.int .u64 (dz [a, b, c] [a', b', c'] i)) ∧ New w w' := by
  have HB := comp_new w k a b c i hi
  have hN0 : New w (w.alloc (.cells #[.int .u8 k, .int .i32 a, .int .i32 b, .int .i32 c] 24)) := (Upd.refl _ w).alloc _
  have hNN : New (w.alloc (.cells #[.int .u8 k, .int .i32 a, .int .i32 b, .int .i32 c] 24)) ((w.alloc (.cells #[.int .u8 k, .int .i32 a, .int .i32 b, .int .i32 c] 24)).alloc (.cells #[.int .u8 k', .int .i32 a', .int .i32 b', .int .i32 c'] 24)) := (Upd.refl _ _).alloc _
  have HB2 := hNN.cell HB (fun q => q)
  have HC0 := comp_new (w.alloc (.cells #[.int .u8 k, .int .i32 a, .int .i32 b, .int .i32 c] 24)) k' a' b' c' i hi
  rw [show (w.alloc (.cells #[.int .u8 k, .int .i32 a, .int .i32 b, .int .i32 c] 24)).heap.size = w.heap.size + 1 by simp] at HC0
  have HD := Bx.mk (dz_eq [a, b, c] [a', b', c'] i)
  have w1' : IntKind.i64.wrap ([a, b, c].getD i 0) = [a, b, c].getD i 0 := by rw [IntKind.wrap_i64]; omega
  have w2' : IntKind.i64.wrap ([a', b', c'].getD i 0) = [a', b', c'].getD i 0 := by rw [IntKind.wrap_i64]; omega
  have e1 : IntKind.i64.wrap ([a', b', c'].getD i 0 - [a, b, c].getD i 0) = [a', b', c'].getD i 0 - [a, b, c].getD i 0 := by rw [IntKind.wrap_i64]; omega
  have BZ := Bx.mk (fun w => Zig_any' ([a', b', c'].getD i 0 - [a, b, c].getD i 0) w (by omega) (by omega))
  generalize [a, b, c].getD i 0 = f at *
  generalize [a', b', c'].getD i 0 = f' at *
  have hi3 : (i : Int) < 3 := by omega
  clear hi HB
  rw [HD.out]
  go_enter Try.func52, Try.ntmps52
  repeat' (first | fail | go_values | go_skip | go_guarded | go_step | go_upon | go_back)
  have hNz : New w ((w.alloc (.cells #[.int .u8 k, .int .i32 a, .int .i32 b, .int .i32 c] 24)).alloc (.cells #[.int .u8 k', .int .i32 a', .int .i32 b', .int .i32 c'] 24)) := ((Upd.refl _ _).alloc _).alloc _
  generalize (w.alloc (.cells #[.int .u8 k, .int .i32 a, .int .i32 b, .int .i32 c] 24)).alloc (.cells #[.int .u8 k', .int .i32 a', .int .i32 b', .int .i32 c'] 24) = wz at *
  refine wp_region_still_lit (by kernel_rfl) (by kernel_rfl) ?_
  repeat still_step
  still_call (BZ.out _)
  repeat still_step
  refine wpStill_nil ?_
  change Exit.then _ _ _ _ wz.drew
  repeat' (first | fail | go_values | go_skip | go_guarded | go_step | go_upon | go_back)
  go_ret
  exact ⟨rfl, hNz.drew⟩

set_option maxRecDepth 4000 in
set_option maxHeartbeats 1000000 in
theorem size_any (A : Option Addr) (n c : Nat) (L : List (Nat × Nat)) (w : World) (hl : L.length = n) (hn : n ≤ 100) (hx : Rd w A (pcells L)) (hb : ∀ q ∈ L, q.2 ≤ 64) :
    Calls Try.prog 34 #[.slice A n c] w fun e w' => e = .returned (.int .i64 (psize L)) ∧ New w w' := by
  have HL := Bx.mk hl
  have HB := Bx.mk hb
  have hle : ∀ j, j ≤ n → psize (L.take j) ≤ 64 * j := by
    intro j
    induction j with
    | zero => intro _; simp [psize]
    | succ j ih =>
      intro hj
      have hjl : j < L.length := by omega
      have h1 := hb L[j] (List.getElem_mem hjl)
      have h2 := ih (by omega)
      rw [List.take_succ_eq_append_getElem hjl, psize_append]
      simp only [psize, List.map_cons, List.map_nil, List.sum_cons, List.sum_nil] at h2 ⊢
      omega
  have HE := Bx.mk hle
  clear hl hb hle
  go_enter Try.func34, Try.ntmps34
  repeat' (first | fail | go_values | go_skip | go_guarded | go_step | go_upon | go_back)
  go_loopw [3, 8] (fun s i wr => ∃ (j z : Nat), j ≤ n ∧ i = .int .i64 j ∧ s = .int .i64 z ∧ Bx (z = psize (L.take j)) ∧ New w wr) (fun _ i _ => n - (intOf i).toNat)
  case atStart => exact ⟨0, 0, by omega, rfl, rfl, ⟨rfl⟩, Upd.refl _ _⟩
  case round =>
    obtain ⟨j, z, hj, rfl, rfl, HZ, hN⟩ := hrel
    by_cases hlt : j < n
    · have hjl : j < L.length := by rw [HL.out]; exact hlt
      obtain ⟨b0, off, rfl, hc0, hc1⟩ := (hx.new hN).two j hjl
      have HS := Bx.mk (show psize (L.take (j + 1)) = psize (L.take j) + L[j].2 by rw [List.take_succ_eq_append_getElem hjl, psize_append]; simp [psize])
      have hz : z ≤ 6400 := by rw [HZ.out]; have := HE.out j (by omega); omega
      have hq := HB.out L[j] (List.getElem_mem hjl)
      generalize L[j] = q at *
      obtain ⟨x, d⟩ := q
      simp only at hc0 hc1 HS hq
      repeat' (first | fail | go_values | go_skip | go_guarded | go_step | go_upon | go_back)
      go_roundw
      case rel => exact ⟨j + 1, z + d, by omega, by go_num, by go_num, ⟨by rw [HS.out, HZ.out]⟩, hN.alloc _⟩
      case measure => simp [intOf]; omega
    · obtain rfl : j = n := by omega
      have HE := Bx.mk (show z = psize L by rw [HZ.out, List.take_of_length_le (by rw [HL.out]; exact Nat.le_refl _)])
      repeat' (first | fail | go_values | go_skip | go_guarded | go_step | go_upon | go_back)
      go_ret
      exact ⟨by rw [← HE.out]; rfl, hN⟩
end Go.Proofs.Ytpfdbkfjjjiamaa
