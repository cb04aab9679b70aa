/- The law of writing. -/
import Derived.Test.YtfhkonjklhaknaaBiRow
namespace Go.Proofs.Ytfhkonjklhaknaa
open Go.RowKit

theorem refPut_e (v : Value) (L : List Bool) (nl x : Nat) (n : Int) (w : World) (hx : x < 18446744073709551616) (hn1 : -9223372036854775808 ≤ n) (hn2 : n ≤ 9223372036854775807) (hl : L.length = nl) (hL : nl ≤ 1048576) (ho : w.ownsRow 0 4 1 v nl (bools L))
    (E : Int) (hE : Bi.putErr L x n = E) (M : List Bool) (hM : Bi.putRes L x n = M) :
    Calls Try.prog 11 #[v, .int .u64 x, .int .i64 n] w fun e w' => ∃ v', e = .returned (.tuple #[v', .int .i64 E]) ∧ w'.ownsRow 0 4 1 v' M.length (bools M) ∧ New w w' := by
  subst hE; subst hM; exact refPut_any v L nl x n w hx hn1 hn2 hl hL ho
theorem own_obj_ne {w : World} {base e size n g T : Nat} {v : Value} {xs : List Value} {cs : Array Value} {fz : Nat × Nat} (h : w.ownsRow base e size v n xs) (hg : w.heap[g]? = some (.cells cs T fz)) (hne : e ≠ T) : ¬ v.ownBlock = some g := by
  intro hb
  obtain ⟨hl, ⟨rfl, _⟩ | ⟨g3, cap, cur, rfl, _, hh, r⟩⟩ := h
  · cases hb
  · simp only [Value.ownBlock, Option.some.injEq] at hb
    subst hb
    rw [hg] at hh
    injection hh with hh
    injection hh with _ hh
    exact hne hh.symm
theorem res_le (L : List Bool) (x : Nat) (n : Int) : (Bi.putRes L x n).length ≤ L.length + 64 := by
  unfold Bi.putRes
  split
  · rename_i h
    unfold Bi.putErr at h
    split at h
    · cases h
    · rw [List.length_append, Bi.numBits_length]; omega
  · omega
/-- a row of bools lies apart from a writer -/
theorem Wrote.row {wa wb : World} {base g : Nat} {v v' u : Value} {L : List Bool} {b2 n : Nat} {xs : List Value} (hU : Wrote base g v v' wa wb) (hW : IsW wa base g v L) (h : wa.ownsRow b2 4 1 u n xs) : wb.ownsRow b2 4 1 u n xs := by
  refine own_upd h hU.upd ?_
  rintro b hb (q | q)
  · exact own_obj_ne h hW.obj (by decide) (q ▸ hb)
  · exact own_apart h hW.row (by decide) b hb q

set_option maxHeartbeats 4000000 in
theorem writes_any (A : Option Addr) (n c : Nat) (Ls : List (Nat × Int)) (w : World) (hl : Ls.length = n) (hx : Rd w A (numCells Ls)) (hb : ∀ q ∈ Ls, q.1 < 18446744073709551616 ∧ -9223372036854775808 ≤ q.2 ∧ q.2 ≤ 9223372036854775807) :
    Calls Try.prog 3 #[.slice A n c] w fun e w' => e = .returned (.bool true) ∧ New w w' := by
  have HL := Bx.mk hl
  clear hl
  go_enter Try.func3, Try.ntmps3
  repeat' (first | (first | (go_at_call 9; go_loud ((with_reducible refine (awake_any _).mono ?_); rintro e w1 ⟨rfl, hu1⟩; dsimp only)) | (go_at_call 10; go_loud ((with_reducible refine (New_any _).mono ?_); rintro e w2 ⟨rfl, hu2, hW2, -⟩; dsimp only))) | go_values | go_skip | go_guarded | go_step | go_upon | go_back)
  have hg := hu1.size
  have hN2 := hu1.trans hu2
  generalize w1.heap.size = g at *
  go_loopw [4, 14] (fun x i wr => ∃ (k : Nat) (vx v : Value) (X : List Bool) (nx : Nat), k ≤ n ∧ i = .int .i64 k ∧ x = vx ∧ X.length = nx ∧ nx ≤ 64 * k ∧ wr.ownsRow 0 4 1 vx nx (bools X) ∧ IsW wr 0 g v X ∧ New w wr ∧ ∀ b, v.ownBlock = some b → w.heap.size ≤ b) (fun _ i _ => n - (intOf i).toNat)
  case atStart => exact ⟨0, _, _, [], 0, by omega, rfl, rfl, rfl, by omega, World.ownsRow_nil _ _ _ _, hW2 0, hN2, fun b hb => by cases hb⟩
  case round =>
    obtain ⟨k, vx, v, X, nx, hk, rfl, rfl, hX, hnx, hox, hW, hN, hv⟩ := hrel
    by_cases hlt : k < n
    · have hkL : k < Ls.length := by rw [HL.out]; exact hlt
      obtain ⟨g0, g1⟩ := numCells_get Ls k hkL
      have hub := hb Ls[k] (List.getElem_mem hkL)
      generalize Ls[k] = q at g0 g1 hub
      obtain ⟨V, N⟩ := q
      obtain ⟨b0, off, rfl, hc0⟩ : ∃ b off, A = some ⟨b, off, none⟩ ∧ wr.cell? ⟨b, off + 2 * k, none⟩ = some (.int .u64 V) := by
        rcases (hx.new hN) with h | ⟨b, off, h, hc⟩
        · rw [h] at g0; cases g0
        · exact ⟨b, off, h, hc _ _ g0⟩
      have hc1 : wr.cell? ⟨b0, off + (2 * k + 1), none⟩ = some (.int .i64 N) := by
        rcases (hx.new hN) with h | ⟨b, o2, h, hc⟩
        · rw [h] at g1; cases g1
        · simp only [Option.some.injEq, Addr.mk.injEq, and_true] at h
          obtain ⟨rfl, rfl⟩ := h
          exact hc _ _ g1
      clear g0 g1
      rw [show off + 2 * k = off + k * 2 by omega] at hc0
      rw [show off + (2 * k + 1) = off + k * 2 + 1 by omega] at hc1
      by_cases h60 : 60 ≤ k
      · go_wp2
        go_ret
        exact ⟨rfl, hN.alloc _⟩
      · have hNa := hN.alloc (.cells #[.int .u64 V, .int .i64 N] 29)
        have hoxa := hox.alloc (.cells #[.int .u64 V, .int .i64 N] 29)
        have hWa := hW.new ((Upd.refl _ wr).alloc (.cells #[.int .u64 V, .int .i64 N] 29))
        have hA0 : (wr.alloc (.cells #[.int .u64 V, .int .i64 N] 29)).cell? ⟨wr.heap.size, 0, none⟩ = some (.int .u64 V) := by rw [World.cell?, heap_alloc_new]; rfl
        have hA1 : (wr.alloc (.cells #[.int .u64 V, .int .i64 N] 29)).cell? ⟨wr.heap.size, 1, none⟩ = some (.int .i64 N) := by rw [World.cell?, heap_alloc_new]; rfl
        have hle := res_le X V N
        rw [hX] at hle
        obtain ⟨E, hE⟩ : ∃ E, Bi.putErr X V N = E := ⟨_, rfl⟩
        obtain ⟨Y, hY⟩ : ∃ Y, Bi.putRes X V N = Y := ⟨_, rfl⟩
        rw [hY] at hle
        have BE := Bx.mk hE
        have BY := Bx.mk hY
        have BX := Bx.mk hX
        have BU := Bx.mk hub
        have hnx2 : nx ≤ 3840 := by omega
        clear hE hY hX hub
        repeat' (first | (first
          | (go_at_call 11; go_loud ((with_reducible refine (refPut_e _ X nx V N _ BU.out.1 BU.out.2.1 BU.out.2.2 BX.out (by omega) hoxa E BE.out Y BY.out).mono ?_); rintro e w3 ⟨vy, rfl, hoy, hu3⟩; have hW3 := hWa.new hu3; have hB0 := hu3.cell hA0 (fun q => q); have hB1 := hu3.cell hA1 (fun q => q); dsimp only))
          | (go_at_call 12; go_loud ((with_reducible refine (Put_e hW3 (Nat.zero_le _) (by have := BX.out; omega) V BU.out.1 V N rfl BU.out.2.1 BU.out.2.2 E BE.out Y BY.out).mono ?_); rintro e w4 ⟨rfl, v4, hW4, hU4⟩; have hoy4 := hU4.row hW3 hoy; (obtain ⟨Ay, cy, rfl, hcy, _, hry, _⟩ := own_rd hoy4); dsimp only))
          | (go_at_call 13; go_loud ((with_reducible refine (Len_e hW4 _ rfl).mono ?_); rintro e w5 ⟨rfl, rfl⟩; dsimp only))
          | (go_at_call 15; go_loud ((with_reducible refine (Bytes_e hW4 (by omega) _ rfl _ rfl).mono ?_); rintro e w6 ⟨v6, rfl, ho6, hu6⟩; (obtain ⟨A6, c6, rfl, _, _, hr6, _⟩ := own_rd ho6); have hry6 := hry.new hu6; have hW6 := hW4.new hu6; have hoy6 := own_new hoy4 hu6; dsimp only))
          | (go_at_call 16; go_loud ((with_reducible refine (refBytes_any Ay cy _ Y _ rfl (by omega) hry6).mono ?_); rintro e w7 ⟨v7, rfl, ho7, hu7⟩; (obtain ⟨A7, c7, rfl, _, _, hr7, _⟩ := own_rd ho7); have hr67 := hr6.new hu7; dsimp only))
          | (go_at_call 14; go_loud ((with_reducible refine (Same_e _ _ _ _ _ _ _ _ _ (Bi.pack_length Y) (Bi.pack_length Y) hr67 hr7 true (decide_eq_true rfl)).mono ?_); rintro e w8 ⟨rfl, rfl⟩; dsimp only))) | go_values | go_skip | go_guarded | go_step | go_upon | go_back)
        go_roundw
        case rel =>
          obtain ⟨n4, b4⟩ := hU4.fresh (hNa.trans hu3) hg hv
          exact ⟨k + 1, _, v4, Y, _, by omega, by go_num, rfl, rfl, by omega, own_new hoy6 hu7, hW6.new hu7, (n4.trans hu6).trans hu7, b4⟩
        case measure => simp [intOf]; omega
    · obtain rfl : k = n := by omega
      go_wp2
      go_ret
      exact ⟨rfl, hN⟩
end Go.Proofs.Ytfhkonjklhaknaa
