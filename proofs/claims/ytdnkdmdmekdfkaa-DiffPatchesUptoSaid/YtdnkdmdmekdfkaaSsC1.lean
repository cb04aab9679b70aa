/- A row of structs, exchanged element by element: swapRangeCmpFunc walked (printed by ssp.py). -/
import Derived.Test.YtdnkdmdmekdfkaaSsPure
import Derived.Test.YtdnkdmdmekdfkaaCalm
import Derived.BigRegion
import Derived.Handy
import Derived.Test.YtdnkdmdmekdfkaaSc11
import Derived.Test.YtdnkdmdmekdfkaaSsE1
namespace Go.Proofs.Ytdnkdmdmekdfkaa
open Go.RowKit Go.Sort
instance : Inhabited C4 := ⟨⟨0, 0, 0, 0⟩⟩
def encC (x : C4) : List Value := [.int .u8 x.k, .int .i32 x.a, .int .i32 x.b, .int .i32 x.c]
/-- a row of elements, in a block of its own -/
structure SRC (blk S : Nat) (d : Array C4) (w : World) : Prop where
  own : Own1 blk S 46 w
  fit : d.size * 4 ≤ S
  at_ : ∀ i, i < d.size → ∀ c v, (encC d[i]!)[c]? = some v → w.cell? ⟨blk, i * 4 + c, none⟩ = some v
theorem SRC.blk {blk S : Nat} {d : Array C4} {w w' : World} {X : Nat → Prop} (h : SRC blk S d w) (u : Upd X w w') (hs : ¬ X blk) : SRC blk S d w' := by
  obtain ⟨⟨cur, hg, e⟩, h2, h3⟩ := h
  exact ⟨⟨cur, u.blk hg hs, e⟩, h2, fun i hi c v hv => u.cell (h3 i hi c v hv) hs⟩
theorem SRC.drew {blk S : Nat} {d : Array C4} {w : World} (h : SRC blk S d w) : SRC blk S d w.drew := ⟨h.own, h.fit, h.at_⟩
theorem encC_len (x : C4) : (encC x).length = 4 := rfl
theorem SRC.set {blk S : Nat} {d : Array C4} {w : World} (h : SRC blk S d w) (i : Nat) (x : C4) (hi : i < d.size) : SRC blk S (d.setIfInBounds i x) ((((w.setCell ⟨blk, i * 4, none⟩ (.int .u8 x.k)).setCell ⟨blk, i * 4 + 1, none⟩ (.int .i32 x.a)).setCell ⟨blk, i * 4 + 2, none⟩ (.int .i32 x.b)).setCell ⟨blk, i * 4 + 3, none⟩ (.int .i32 x.c)) := by
  have hf := h.fit
  have o0 := h.own
  have o1 := o0.set (i * 4) (.int .u8 x.k)
  have o2 := o1.set (i * 4 + 1) (.int .i32 x.a)
  have o3 := o2.set (i * 4 + 2) (.int .i32 x.b)
  refine ⟨o3.set _ _, by simpa using hf, fun j hj c v hv => ?_⟩
  rw [Array.size_setIfInBounds] at hj
  have hc : c < 4 := by have := (List.getElem?_eq_some_iff.1 hv).1; rwa [encC_len] at this
  by_cases e : j = i
  · subst e
    have hx : (d.setIfInBounds j x)[j]! = x := by simp [Array.getElem!_eq_getD, Array.getD, hj]
    rw [hx] at hv
    have hc' : c = 0 ∨ c = 1 ∨ c = 2 ∨ c = 3 := by omega
    rcases hc' with rfl | rfl | rfl | rfl
    · rw [cell_set_other o3 (by omega), cell_set_other o2 (by omega), cell_set_other o1 (by omega), Nat.add_zero, cell_set_same o0 (by omega)]; exact hv
    · rw [cell_set_other o3 (by omega), cell_set_other o2 (by omega), cell_set_same o1 (by omega)]; exact hv
    · rw [cell_set_other o3 (by omega), cell_set_same o2 (by omega)]; exact hv
    · rw [cell_set_same o3 (by omega)]; exact hv
  · have hx : (d.setIfInBounds i x)[j]! = d[j]! := by simp [Array.getElem!_eq_getD, Array.getD, hj, Array.getElem_setIfInBounds, show ¬ i = j by omega]
    rw [hx] at hv
    have := h.at_ j hj c v hv
    have hne : j * 4 + c < i * 4 ∨ i * 4 + 4 ≤ j * 4 + c := by omega
    rw [cell_set_other o3 (by omega), cell_set_other o2 (by omega), cell_set_other o1 (by omega), cell_set_other o0 (by omega)]; exact this
theorem SRC.swap {blk S : Nat} {d : Array C4} {w : World} (h : SRC blk S d w) (i j : Nat) (x y : C4) (hi : i < d.size) (hj : j < d.size) (hx : d[i]! = x) (hy : d[j]! = y) : SRC blk S (swp d i j) ((((((((w.setCell ⟨blk, i * 4, none⟩ (.int .u8 y.k)).setCell ⟨blk, i * 4 + 1, none⟩ (.int .i32 y.a)).setCell ⟨blk, i * 4 + 2, none⟩ (.int .i32 y.b)).setCell ⟨blk, i * 4 + 3, none⟩ (.int .i32 y.c)).setCell ⟨blk, j * 4, none⟩ (.int .u8 x.k)).setCell ⟨blk, j * 4 + 1, none⟩ (.int .i32 x.a)).setCell ⟨blk, j * 4 + 2, none⟩ (.int .i32 x.b)).setCell ⟨blk, j * 4 + 3, none⟩ (.int .i32 x.c)) := by
  subst hx; subst hy
  exact (h.set i _ hi).set j _ (by simpa using hj)
theorem SRC.get {blk S : Nat} {d : Array C4} {w : World} (h : SRC blk S d w) (i : Nat) (x : C4) (hi : i < d.size) (hx : d[i]! = x) : ∀ c v, (encC x)[c]? = some v → w.cell? ⟨blk, i * 4 + c, none⟩ = some v := hx ▸ h.at_ i hi
theorem SRC.lt {blk S : Nat} {d : Array C4} {w : World} (h : SRC blk S d w) : blk < w.heap.size := by
  obtain ⟨⟨cur, hg, _⟩, _⟩ := h
  exact (Array.getElem?_eq_some_iff.1 hg).1
set_option maxRecDepth 20000 in
set_option maxHeartbeats 4000000 in
theorem swpRC_any {w : World} {blk S : Nat} {d : Array C4} (h : SRC blk S d w) (n c a b k : Nat) (hn : d.size = n) (h1 : a + k ≤ b) (h2 : b + k ≤ n) (hsz : n < 1000000) (f : Value) :
    Calls Try.prog 83 #[.slice (some ⟨blk, 0, none⟩) n c, .int .i64 a, .int .i64 b, .int .i64 k, f] w fun e w' => e = .returned (.tuple #[]) ∧ SRC blk S (Ss.swpR d a b k) w' ∧ Upd (fun x => x = blk) w w' := by
  have H0 := Bx.mk h
  have HS := Bx.mk hn
  have HF := h.fit
  rw [hn] at HF
  clear h hn
  go_enter Try.func83, Try.ntmps83
  repeat' (first | fail | go_values | go_skip | go_guarded | go_step | go_upon | go_back)
  go_loopw [10] (fun iv wr => ∃ (i : Nat), iv = .int .i64 i ∧ i ≤ k ∧ Bx (SRC blk S (Ss.swpR d a b i) wr) ∧ Bx (Upd (fun x => x = blk) w wr)) (fun iv _ => k - (intOf iv).toNat)
  case atStart => exact ⟨0, rfl, Nat.zero_le _, H0, ⟨Upd.refl _ _⟩⟩
  case round =>
    obtain ⟨i, rfl, hi, HR, HU⟩ := hrel
    by_cases hlt : i < k
    · have hltI : (i : Int) < (k : Int) := by omega
      obtain ⟨J, hJ⟩ : ∃ J, a + i = J := ⟨_, rfl⟩
      obtain ⟨Q, hQ⟩ : ∃ Q, b + i = Q := ⟨_, rfl⟩
      have HNX := Bx.mk (show Ss.swpR d a b (i + 1) = swp (Ss.swpR d a b i) J Q by rw [← hJ, ← hQ]; rfl)
      have HZ := Bx.mk (show (Ss.swpR d a b i).size = n by rw [Ss.swpR_size, HS.out])
      generalize Ss.swpR d a b i = d1 at *
      have hz := HZ.out
      have wJ : IntKind.i64.wrap ((a : Int) + (i : Int)) = (J : Int) := by rw [IntKind.wrap_i64]; omega
      have wQ : IntKind.i64.wrap ((b : Int) + (i : Int)) = (Q : Int) := by rw [IntKind.wrap_i64]; omega
      have wi : IntKind.i64.wrap ((i : Int) + 1) = ((i + 1 : Nat) : Int) := by rw [IntKind.wrap_i64]; omega
      have hJn : (J : Int) < (n : Int) := by omega
      have hQn : (Q : Int) < (n : Int) := by omega
      have hJm : J < n := by omega
      have hQm : Q < n := by omega
      obtain ⟨x, hx⟩ : ∃ x, d1[J]! = x := ⟨_, rfl⟩
      obtain ⟨y, hy⟩ : ∃ y, d1[Q]! = y := ⟨_, rfl⟩
      have gx := HR.out.get J x (by omega) hx
      have gy := HR.out.get Q y (by omega) hy
      have ca0 : wr.cell? ⟨blk, J * 4, none⟩ = some (.int .u8 x.k) := gx 0 _ rfl
      have ca1 : wr.cell? ⟨blk, J * 4 + 1, none⟩ = some (.int .i32 x.a) := gx 1 _ rfl
      have ca2 : wr.cell? ⟨blk, J * 4 + 2, none⟩ = some (.int .i32 x.b) := gx 2 _ rfl
      have ca3 : wr.cell? ⟨blk, J * 4 + 3, none⟩ = some (.int .i32 x.c) := gx 3 _ rfl
      have cb0 : wr.cell? ⟨blk, Q * 4, none⟩ = some (.int .u8 y.k) := gy 0 _ rfl
      have cb1 : wr.cell? ⟨blk, Q * 4 + 1, none⟩ = some (.int .i32 y.a) := gy 1 _ rfl
      have cb2 : wr.cell? ⟨blk, Q * 4 + 2, none⟩ = some (.int .i32 y.b) := gy 2 _ rfl
      have cb3 : wr.cell? ⟨blk, Q * 4 + 3, none⟩ = some (.int .i32 y.c) := gy 3 _ rfl
      have f0 := HR.out.own.frz
      have og1 := Own1.set HR.out.own (J * 4) (.int .u8 y.k)
      obtain ⟨xg1, cg1⟩ := og1.cell (J * 4 + 1) (by omega)
      have fg1 := og1.frz
      have og2 := Own1.set og1 (J * 4 + 1) (.int .i32 y.a)
      obtain ⟨xg2, cg2⟩ := og2.cell (J * 4 + 2) (by omega)
      have fg2 := og2.frz
      have og3 := Own1.set og2 (J * 4 + 2) (.int .i32 y.b)
      obtain ⟨xg3, cg3⟩ := og3.cell (J * 4 + 3) (by omega)
      have fg3 := og3.frz
      have og4 := Own1.set og3 (J * 4 + 3) (.int .i32 y.c)
      obtain ⟨xg4, cg4⟩ := og4.cell (Q * 4) (by omega)
      have fg4 := og4.frz
      have og5 := Own1.set og4 (Q * 4) (.int .u8 x.k)
      obtain ⟨xg5, cg5⟩ := og5.cell (Q * 4 + 1) (by omega)
      have fg5 := og5.frz
      have og6 := Own1.set og5 (Q * 4 + 1) (.int .i32 x.a)
      obtain ⟨xg6, cg6⟩ := og6.cell (Q * 4 + 2) (by omega)
      have fg6 := og6.frz
      have og7 := Own1.set og6 (Q * 4 + 2) (.int .i32 x.b)
      obtain ⟨xg7, cg7⟩ := og7.cell (Q * 4 + 3) (by omega)
      have fg7 := og7.frz
      clear og7 og6 og5 og4 og3 og2 og1
      have HR4 := Bx.mk (HR.out.swap J Q x y (by omega) (by omega) hx hy).drew
      have U4 := Bx.mk ((((((((HU.out.setCell (p := ⟨blk, J * 4, none⟩) (.inl rfl) (.int .u8 y.k)).setCell (p := ⟨blk, J * 4 + 1, none⟩) (.inl rfl) (.int .i32 y.a)).setCell (p := ⟨blk, J * 4 + 2, none⟩) (.inl rfl) (.int .i32 y.b)).setCell (p := ⟨blk, J * 4 + 3, none⟩) (.inl rfl) (.int .i32 y.c)).setCell (p := ⟨blk, Q * 4, none⟩) (.inl rfl) (.int .u8 x.k)).setCell (p := ⟨blk, Q * 4 + 1, none⟩) (.inl rfl) (.int .i32 x.a)).setCell (p := ⟨blk, Q * 4 + 2, none⟩) (.inl rfl) (.int .i32 x.b)).setCell (p := ⟨blk, Q * 4 + 3, none⟩) (.inl rfl) (.int .i32 x.c)).drew
      clear hx hy gx gy hz hJ hQ HF
      repeat' (first | fail | go_values | go_skip | go_guarded | go_step | go_upon | go_back)
      go_big_region
      clear ca0 ca1 ca2 ca3
      clear cb0 cb1 cb2 cb3
      clear cg1 fg1 cg2 fg2 cg3 fg3 cg4 fg4 cg5 fg5 cg6 fg6 cg7 fg7
      generalize ((((((((wr.setCell ⟨blk, J * 4, none⟩ (.int .u8 y.k)).setCell ⟨blk, J * 4 + 1, none⟩ (.int .i32 y.a)).setCell ⟨blk, J * 4 + 2, none⟩ (.int .i32 y.b)).setCell ⟨blk, J * 4 + 3, none⟩ (.int .i32 y.c)).setCell ⟨blk, Q * 4, none⟩ (.int .u8 x.k)).setCell ⟨blk, Q * 4 + 1, none⟩ (.int .i32 x.a)).setCell ⟨blk, Q * 4 + 2, none⟩ (.int .i32 x.b)).setCell ⟨blk, Q * 4 + 3, none⟩ (.int .i32 x.c)).drew = w5 at *
      repeat' (first | fail | go_values | go_skip | go_guarded | go_step | go_upon | go_back)
      go_roundw
      case rel => exact ⟨i + 1, by go_num, by omega, ⟨by rw [HNX.out]; exact HR4.out⟩, U4⟩
      case measure => simp [intOf]; omega
    · have hltI : ¬ (i : Int) < (k : Int) := by omega
      obtain rfl : i = k := by omega
      repeat' (first | fail | go_values | go_skip | go_guarded | go_step | go_upon | go_back)
      go_returns
      exact ⟨rfl, HR.out, HU.out⟩
end Go.Proofs.Ytdnkdmdmekdfkaa
