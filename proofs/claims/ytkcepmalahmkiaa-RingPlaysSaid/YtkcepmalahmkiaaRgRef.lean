/- The reference of rings: walked. -/
import Derived.Test.YtkcepmalahmkiaaRgPure2
import Derived.Test.YtkcepmalahmkiaaOwn
import Derived.Handy
import Derived.Deep.DeepCutAuto
import Derived.Deep.CutBlock
namespace Go.Proofs.Ytkcepmalahmkiaa
open Go.RowKit
/-- things, as the reference's cells -/
def rfc (xs : List (Rit Int)) : List Value := rcells (fun x : Int => [.int .i64 x]) xs
theorem rfc_len (xs : List (Rit Int)) : (rfc xs).length = xs.length * 2 := rcells_length _ 1 (fun _ => rfl) xs
theorem rfc_append (xs ys : List (Rit Int)) : rfc (xs ++ ys) = rfc xs ++ rfc ys := rcells_append _ xs ys
theorem rfc_one (xs : List (Rit Int)) : ∀ u ∈ rfc xs, u.oneCell' = true := rcells_one _ 1 (fun _ => rfl) (fun x u hu => by obtain rfl := List.mem_singleton.1 hu; rfl) xs
theorem rfc_at {w : World} {A : Option Addr} {xs : List (Rit Int)} (hr : Rd w A (rfc xs)) (i : Nat) (hi : i < xs.length) :
    ∃ b off, A = some ⟨b, off, none⟩ ∧ w.cell? ⟨b, off + i * 2, none⟩ = some (.int .u32 xs[i].tick) ∧ w.cell? ⟨b, off + i * 2 + 1, none⟩ = some (.int .i64 xs[i].v) := by
  have e0 := rcells_at (fun x : Int => [.int .i64 x]) 1 (fun _ => rfl) xs i hi 0 (by omega)
  have e1 := rcells_at (fun x : Int => [.int .i64 x]) 1 (fun _ => rfl) xs i hi 1 (by omega)
  rcases hr with h | ⟨b, off, h, hc⟩
  · rw [show rcells (fun x : Int => [Value.int .i64 x]) xs = [] from h] at e0; cases e0
  · exact ⟨b, off, h, hc _ _ e0, hc _ _ e1⟩
theorem infoRf : (Try.prog.info? 111).map (fun i => (i.zero, i.size, i.bytes)) = some (some (.agg #[.int .u32 0, .int .i64 0]), 2, 16) := by kernel_rfl
/-- the reference's ring at block g: its list is read at A, and lies in blocks made since w0 -/
structure RfAt (w0 w : World) (g most : Nat) (xs : List (Rit Int)) : Prop where
  ex : ∃ A c, w.heap[g]? = some (.cells #[.int .i64 most, .slice A xs.length c] 77 (0, 0)) ∧ xs.length ≤ c ∧ c ≤ maxLen ∧ Rd w A (rfc xs) ∧ (A = none → xs.length = 0) ∧ (∀ a, A = some a → xs ≠ [] → ∃ cs fz, w.heap[a.block]? = some (.cells cs 111 fz))
  size : w0.heap.size ≤ w.heap.size
  ge : w0.heap.size ≤ g
  len : xs.length ≤ most
  most1 : 1 ≤ most
  most64 : most ≤ 64
  up : Rising xs
  lt : ∀ x ∈ xs, x.tick < 4294967296
section
variable {w0 w w' : World} {g most : Nat} {xs : List (Rit Int)}
theorem RfAt.upd {S : Nat → Prop} (h : RfAt w0 w g most xs) (k : Upd S w w') (h1 : ∀ b cs fz, S b → w.heap[b]? ≠ some (.cells cs 77 fz) ∧ w.heap[b]? ≠ some (.cells cs 111 fz)) : RfAt w0 w' g most xs := by
  obtain ⟨⟨A, c, hg, hc, hm, hr, hn, ht⟩, h2, h3, h4, h5, h6, h7, h8⟩ := h
  refine ⟨⟨A, c, k.blk hg (fun q => (h1 _ _ _ q).1 hg), hc, hm, ?_, hn, fun a ha hx => ?_⟩, Nat.le_trans h2 k.size, h3, h4, h5, h6, h7, h8⟩
  · refine hr.upd k fun a ha hne q => ?_
    obtain ⟨cs, fz, e⟩ := ht a ha (fun e => hne (by rw [e]; rfl))
    exact (h1 _ _ _ q).2 e
  · obtain ⟨cs, fz, e⟩ := ht a ha hx
    exact ⟨cs, fz, k.blk e (fun q => (h1 _ _ _ q).2 e)⟩
theorem RfAt.next (h : RfAt w0 w g most xs) (k : New w w') : RfAt w0 w' g most xs := h.upd k fun _ _ _ q => q.elim
end
theorem RfNil_New (n : Int) (w : World) (h1 : n < 1 ∨ n > 64) : Calls Try.prog 24 #[.int .i64 n] w fun e w' => e = .returned (.tuple #[.pointer none, .int .i64 1]) ∧ w' = w := by
  by_cases h : n < 1
  · clear h1
    go_enter Try.func24, Try.ntmps24
    go_wp2
    go_returns
    exact ⟨rfl, rfl⟩
  · have hg : 64 < n := by omega
    clear h1
    go_enter Try.func24, Try.ntmps24
    go_wp2
    go_returns
    exact ⟨rfl, rfl⟩
theorem RfAt.of_new (m : Nat) (w : World) (h1 : 1 ≤ m) (h2 : m ≤ 64) : Calls Try.prog 24 #[.int .i64 m] w fun e w' => e = .returned (.tuple #[.pointer (some ⟨w.heap.size, 0, none⟩), .int .i64 0]) ∧ New w w' ∧ RfAt w w' w.heap.size m [] := by
  have e1 : ¬ (m : Int) < 1 := by omega
  have e2 : ¬ (64 : Int) < (m : Int) := by omega
  go_enter Try.func24, Try.ntmps24
  go_wp2
  go_returns
  have hN : New w (w.alloc (.cells #[.int .i64 m, .slice none 0 0] 77)) := (Upd.refl _ _).alloc _
  exact ⟨rfl, hN, ⟨none, 0, heap_alloc_new _ _, Nat.le_refl _, Nat.zero_le _, .inl rfl, fun _ => rfl, fun a h => by cases h⟩, hN.size, Nat.le_refl _, Nat.zero_le _, h1, h2, List.Pairwise.nil, fun x h => by cases h⟩
end Go.Proofs.Ytkcepmalahmkiaa
