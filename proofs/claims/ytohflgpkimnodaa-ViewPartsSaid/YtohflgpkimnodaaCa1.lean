/- pinnaceref07.Same; the document's examples of cells: walked. -/
import Derived.Test.YtohflgpkimnodaaGr7
namespace Go.Proofs.Ytohflgpkimnodaa
open Go.RowKit Go.Maps
theorem idv_at {w : World} {A : Option Addr} {xs : List Nat} (h : Rd w A (idv xs)) (k : Nat) (hk : k < xs.length) : ∃ b off, A = some ⟨b, off, none⟩ ∧ w.cell? ⟨b, off + k, none⟩ = some (.int .u32 (xs.getD k 0 : Nat)) := by
  obtain ⟨b, off, e, hc⟩ := h.at_ k (by rw [idv_length]; exact hk)
  refine ⟨b, off, e, ?_⟩
  rw [hc]
  simp [idv, hk]
theorem take_eq_snoc (xs ys : List Nat) (j : Nat) (h1 : j < xs.length) (h2 : j < ys.length) (h : xs.take j = ys.take j) (e : xs.getD j 0 = ys.getD j 0) : xs.take (j + 1) = ys.take (j + 1) := by
  rw [List.take_succ_eq_append_getElem h1, List.take_succ_eq_append_getElem h2, h]
  simp only [List.getD_eq_getElem?_getD, List.getElem?_eq_getElem h1, List.getElem?_eq_getElem h2, Option.getD_some] at e
  rw [e]
set_option maxRecDepth 20000 in
set_option maxHeartbeats 4000000 in
theorem same_any (A B : Option Addr) (n m c d : Nat) (xs ys : List Nat) (w : World) (hx : Rd w A (idv xs)) (hy : Rd w B (idv ys)) (hn : xs.length = n) (hm : ys.length = m) (hsz : n < 4611686018427387904) :
    Calls Try.prog 20 #[.slice A n c, .slice B m d] w fun e w' => e = .returned (.bool (decide (xs = ys))) ∧ New w w' := by
  by_cases hne : n = m
  · subst hne
    have HX := Bx.mk hx
    have HY := Bx.mk hy
    have HN := Bx.mk hn
    have HM := Bx.mk hm
    clear hx hy hn hm
    go_enter Try.func20, Try.ntmps20
    repeat' (first | fail | go_values | go_skip | go_guarded | go_step | go_upon | go_back)
    go_loopw [13] (fun iv wr => ∃ (j : Nat), iv = .int .i64 j ∧ j ≤ n ∧ Bx (xs.take j = ys.take j) ∧ Bx (New w wr)) (fun iv _ => n - (intOf iv).toNat)
    case atStart => exact ⟨0, rfl, Nat.zero_le _, ⟨by simp⟩, ⟨Upd.refl _ _⟩⟩
    case round =>
      obtain ⟨j, rfl, hj, HT, HU⟩ := hrel
      by_cases hlt : j < n
      · have hltI : (j : Int) < (n : Int) := by omega
        obtain ⟨b1, o1, rfl, e1⟩ := idv_at (HX.out.new HU.out) j (by rw [HN.out]; exact hlt)
        obtain ⟨b2, o2, rfl, e2⟩ := idv_at (HY.out.new HU.out) j (by rw [HM.out]; exact hlt)
        obtain ⟨x, hxx⟩ : ∃ x, xs.getD j 0 = x := ⟨_, rfl⟩
        obtain ⟨y, hyy⟩ : ∃ y, ys.getD j 0 = y := ⟨_, rfl⟩
        rw [hxx] at e1
        rw [hyy] at e2
        have BXX := Bx.mk hxx
        have BYY := Bx.mk hyy
        clear hxx hyy
        have wj : IntKind.i64.wrap ((j : Int) + 1) = ((j + 1 : Nat) : Int) := by rw [IntKind.wrap_i64]; omega
        repeat' (first | fail | go_values | go_skip | go_guarded | go_step | go_upon | go_back)
        go_quiet (fail)
        by_cases hxy : x = y
        · subst hxy
          repeat' (first | fail | go_values | go_skip | go_guarded | go_step | go_upon | go_back)
          go_roundw
          case rel => exact ⟨j + 1, rfl, by omega, ⟨take_eq_snoc xs ys j (by rw [HN.out]; exact hlt) (by rw [HM.out]; exact hlt) HT.out (BXX.out.trans BYY.out.symm)⟩, ⟨HU.out.drewN _⟩⟩
          case measure => simp [intOf]; omega
        · have hxyI : ¬ (x : Int) = (y : Int) := by omega
          repeat' (first | fail | go_values | go_skip | go_guarded | go_step | go_upon | go_back)
          go_returns
          have : xs ≠ ys := fun q => hxy (by rw [← BXX.out, ← BYY.out, q])
          exact ⟨by rw [decide_eq_false this]; rfl, HU.out.drewN _⟩
      · have hltI : ¬ (j : Int) < (n : Int) := by omega
        obtain rfl : j = n := by omega
        repeat' (first | fail | go_values | go_skip | go_guarded | go_step | go_upon | go_back)
        go_returns
        have : xs = ys := by
          have h := HT.out
          rw [List.take_of_length_le (by rw [HN.out]; exact Nat.le_refl _), List.take_of_length_le (by rw [HM.out]; exact Nat.le_refl _)] at h
          exact h
        exact ⟨by rw [decide_eq_true this]; rfl, HU.out⟩
  · have hneI : ¬ (n : Int) = (m : Int) := by omega
    have : xs ≠ ys := fun q => hne (by rw [← hn, ← hm, q])
    have HD := Bx.mk this
    clear hx hy
    go_enter Try.func20, Try.ntmps20
    repeat' (first | fail | go_values | go_skip | go_guarded | go_step | go_upon | go_back)
    go_returns
    exact ⟨by rw [decide_eq_false HD.out]; rfl, Upd.refl _ _⟩
end Go.Proofs.Ytohflgpkimnodaa
