/- A row of structs, exchanged element by element: swapRangeCmpFunc walked (printed by ssp.py). -/
import Derived.Test.YtdnkdmdmekdfkaaSsPure
import Derived.Test.YtdnkdmdmekdfkaaCalm
import Derived.BigRegion
import Derived.Handy
namespace Go.Proofs.Ytdnkdmdmekdfkaa
open Go.RowKit Go.Sort
def cmpN (x y : Nat) : Int := if x < y then -1 else if y < x then 1 else 0
theorem cmpN_lt (x y : Nat) : decide (cmpN x y < 0) = decide (x < y) := by
  unfold cmpN
  split <;> (try split) <;> simp <;> omega
theorem boxS (w : World) (cs : Array Value) (t : TypeId) (k : Nat) (u : Value) (h : cs[k]? = some u) : (w.alloc (.cells cs t)).cell? ⟨w.heap.size, k, none⟩ = some u := by
  rw [World.cell?, heap_alloc_new]
  simpa using h
/-- a block of cells -/
def Own1 (blk S : Nat) (T : TypeId) (w : World) : Prop := ∃ cur : Array Value, w.heap[blk]? = some (.cells cur T (0, 0)) ∧ cur.size = S
theorem Own1.set {blk S : Nat} {T : TypeId} {w : World} (h : Own1 blk S T w) (o : Nat) (v : Value) : Own1 blk S T (w.setCell ⟨blk, o, none⟩ v) := by
  obtain ⟨cur, hg, hs⟩ := h
  exact ⟨cur.set! o v, heap_setCell_same w blk o _ _ _ hg, by simpa using hs⟩
theorem Own1.frz {blk S : Nat} {T : TypeId} {w : World} (h : Own1 blk S T w) (o : Nat) : w.frozen? ⟨blk, o, none⟩ = false := by
  obtain ⟨cur, hg, _⟩ := h
  simp [World.frozen?, hg]
theorem Own1.cell {blk S : Nat} {T : TypeId} {w : World} (h : Own1 blk S T w) (o : Nat) (ho : o < S) : ∃ v, w.cell? ⟨blk, o, none⟩ = some v := by
  obtain ⟨cur, hg, hs⟩ := h
  exact ⟨cur[o]'(by omega), by rw [World.cell?, hg]; simp [show o < cur.size by omega]⟩
theorem cell_set_same {w : World} {blk o : Nat} {v : Value} {S : Nat} {T : TypeId} (h : Own1 blk S T w) (ho : o < S) : (w.setCell ⟨blk, o, none⟩ v).cell? ⟨blk, o, none⟩ = some v := by
  obtain ⟨cur, hg, hs⟩ := h
  rw [World.cell?, heap_setCell_same w blk o _ _ _ hg]
  simp [Array.set!_eq_setIfInBounds, Array.getElem?_setIfInBounds, show o < cur.size by omega]
theorem cell_set_other {w : World} {blk o o' : Nat} {v : Value} {S : Nat} {T : TypeId} (h : Own1 blk S T w) (ho : o' ≠ o) : (w.setCell ⟨blk, o, none⟩ v).cell? ⟨blk, o', none⟩ = w.cell? ⟨blk, o', none⟩ := by
  obtain ⟨cur, hg, hs⟩ := h
  rw [World.cell?, heap_setCell_same w blk o _ _ _ hg, World.cell?, hg]
  simp [Array.set!_eq_setIfInBounds, Array.getElem?_setIfInBounds, show ¬ o = o' by omega]
def encE (x : (Nat × Option Addr × Nat × Nat)) : List Value := [.int .u32 x.1, .slice x.2.1 x.2.2.1 x.2.2.2]
/-- a row of elements, in a block of its own -/
structure SRE (blk S : Nat) (d : Array (Nat × Option Addr × Nat × Nat)) (w : World) : Prop where
  own : Own1 blk S 43 w
  fit : d.size * 2 ≤ S
  at_ : ∀ i, i < d.size → ∀ c v, (encE d[i]!)[c]? = some v → w.cell? ⟨blk, i * 2 + c, none⟩ = some v
theorem SRE.blk {blk S : Nat} {d : Array (Nat × Option Addr × Nat × Nat)} {w w' : World} {X : Nat → Prop} (h : SRE blk S d w) (u : Upd X w w') (hs : ¬ X blk) : SRE blk S d w' := by
  obtain ⟨⟨cur, hg, e⟩, h2, h3⟩ := h
  exact ⟨⟨cur, u.blk hg hs, e⟩, h2, fun i hi c v hv => u.cell (h3 i hi c v hv) hs⟩
theorem SRE.drew {blk S : Nat} {d : Array (Nat × Option Addr × Nat × Nat)} {w : World} (h : SRE blk S d w) : SRE blk S d w.drew := ⟨h.own, h.fit, h.at_⟩
theorem encE_len (x : (Nat × Option Addr × Nat × Nat)) : (encE x).length = 2 := rfl
theorem SRE.set {blk S : Nat} {d : Array (Nat × Option Addr × Nat × Nat)} {w : World} (h : SRE blk S d w) (i : Nat) (x : (Nat × Option Addr × Nat × Nat)) (hi : i < d.size) : SRE blk S (d.setIfInBounds i x) ((w.setCell ⟨blk, i * 2, none⟩ (.int .u32 x.1)).setCell ⟨blk, i * 2 + 1, none⟩ (.slice x.2.1 x.2.2.1 x.2.2.2)) := by
  have hf := h.fit
  have o0 := h.own
  have o1 := o0.set (i * 2) (.int .u32 x.1)
  refine ⟨o1.set _ _, by simpa using hf, fun j hj c v hv => ?_⟩
  rw [Array.size_setIfInBounds] at hj
  have hc : c < 2 := by have := (List.getElem?_eq_some_iff.1 hv).1; rwa [encE_len] at this
  by_cases e : j = i
  · subst e
    have hx : (d.setIfInBounds j x)[j]! = x := by simp [Array.getElem!_eq_getD, Array.getD, hj]
    rw [hx] at hv
    have hc' : c = 0 ∨ c = 1 ∨ c = 2 ∨ c = 3 := by omega
    rcases hc' with rfl | rfl | rfl | rfl
    · rw [cell_set_other o1 (by omega), Nat.add_zero, cell_set_same o0 (by omega)]; exact hv
    · rw [cell_set_same o1 (by omega)]; exact hv
    · omega
    · omega
  · have hx : (d.setIfInBounds i x)[j]! = d[j]! := by simp [Array.getElem!_eq_getD, Array.getD, hj, Array.getElem_setIfInBounds, show ¬ i = j by omega]
    rw [hx] at hv
    have := h.at_ j hj c v hv
    have hne : j * 2 + c < i * 2 ∨ i * 2 + 2 ≤ j * 2 + c := by omega
    rw [cell_set_other o1 (by omega), cell_set_other o0 (by omega)]; exact this
theorem SRE.swap {blk S : Nat} {d : Array (Nat × Option Addr × Nat × Nat)} {w : World} (h : SRE blk S d w) (i j : Nat) (x y : (Nat × Option Addr × Nat × Nat)) (hi : i < d.size) (hj : j < d.size) (hx : d[i]! = x) (hy : d[j]! = y) : SRE blk S (swp d i j) ((((w.setCell ⟨blk, i * 2, none⟩ (.int .u32 y.1)).setCell ⟨blk, i * 2 + 1, none⟩ (.slice y.2.1 y.2.2.1 y.2.2.2)).setCell ⟨blk, j * 2, none⟩ (.int .u32 x.1)).setCell ⟨blk, j * 2 + 1, none⟩ (.slice x.2.1 x.2.2.1 x.2.2.2)) := by
  subst hx; subst hy
  exact (h.set i _ hi).set j _ (by simpa using hj)
theorem SRE.get {blk S : Nat} {d : Array (Nat × Option Addr × Nat × Nat)} {w : World} (h : SRE blk S d w) (i : Nat) (x : (Nat × Option Addr × Nat × Nat)) (hi : i < d.size) (hx : d[i]! = x) : ∀ c v, (encE x)[c]? = some v → w.cell? ⟨blk, i * 2 + c, none⟩ = some v := hx ▸ h.at_ i hi
theorem SRE.lt {blk S : Nat} {d : Array (Nat × Option Addr × Nat × Nat)} {w : World} (h : SRE blk S d w) : blk < w.heap.size := by
  obtain ⟨⟨cur, hg, _⟩, _⟩ := h
  exact (Array.getElem?_eq_some_iff.1 hg).1
set_option maxRecDepth 20000 in
set_option maxHeartbeats 4000000 in
theorem swpRE_any {w : World} {blk S : Nat} {d : Array (Nat × Option Addr × Nat × Nat)} (h : SRE blk S d w) (n c a b k : Nat) (hn : d.size = n) (h1 : a + k ≤ b) (h2 : b + k ≤ n) (hsz : n < 1000000) (f : Value) :
    Calls Try.prog 82 #[.slice (some ⟨blk, 0, none⟩) n c, .int .i64 a, .int .i64 b, .int .i64 k, f] w fun e w' => e = .returned (.tuple #[]) ∧ SRE blk S (Ss.swpR d a b k) w' ∧ Upd (fun x => x = blk) w w' := by
  have H0 := Bx.mk h
  have HS := Bx.mk hn
  have HF := h.fit
  rw [hn] at HF
  clear h hn
  go_enter Try.func82, Try.ntmps82
  repeat' (first | fail | go_values | go_skip | go_guarded | go_step | go_upon | go_back)
  go_loopw [10] (fun iv wr => ∃ (i : Nat), iv = .int .i64 i ∧ i ≤ k ∧ Bx (SRE blk S (Ss.swpR d a b i) wr) ∧ Bx (Upd (fun x => x = blk) w wr)) (fun iv _ => k - (intOf iv).toNat)
  case atStart => exact ⟨0, rfl, Nat.zero_le _, H0, ⟨Upd.refl _ _⟩⟩
  case round =>
    obtain ⟨i, rfl, hi, HR, HU⟩ := hrel
    by_cases hlt : i < k
    · have hltI : (i : Int) < (k : Int) := by omega
      obtain ⟨J, hJ⟩ : ∃ J, a + i = J := ⟨_, rfl⟩
      obtain ⟨Q, hQ⟩ : ∃ Q, b + i = Q := ⟨_, rfl⟩
      have HNX := Bx.mk (show Ss.swpR d a b (i + 1) = swp (Ss.swpR d a b i) J Q by rw [← hJ, ← hQ]; rfl)
      have HZ := Bx.mk (show (Ss.swpR d a b i).size = n by rw [Ss.swpR_size, HS.out])
      generalize Ss.swpR d a b i = d1 at *
      have hz := HZ.out
      have wJ : IntKind.i64.wrap ((a : Int) + (i : Int)) = (J : Int) := by rw [IntKind.wrap_i64]; omega
      have wQ : IntKind.i64.wrap ((b : Int) + (i : Int)) = (Q : Int) := by rw [IntKind.wrap_i64]; omega
      have wi : IntKind.i64.wrap ((i : Int) + 1) = ((i + 1 : Nat) : Int) := by rw [IntKind.wrap_i64]; omega
      have hJn : (J : Int) < (n : Int) := by omega
      have hQn : (Q : Int) < (n : Int) := by omega
      have hJm : J < n := by omega
      have hQm : Q < n := by omega
      obtain ⟨x, hx⟩ : ∃ x, d1[J]! = x := ⟨_, rfl⟩
      obtain ⟨y, hy⟩ : ∃ y, d1[Q]! = y := ⟨_, rfl⟩
      have gx := HR.out.get J x (by omega) hx
      have gy := HR.out.get Q y (by omega) hy
      have ca0 : wr.cell? ⟨blk, J * 2, none⟩ = some (.int .u32 x.1) := gx 0 _ rfl
      have ca1 : wr.cell? ⟨blk, J * 2 + 1, none⟩ = some (.slice x.2.1 x.2.2.1 x.2.2.2) := gx 1 _ rfl
      have cb0 : wr.cell? ⟨blk, Q * 2, none⟩ = some (.int .u32 y.1) := gy 0 _ rfl
      have cb1 : wr.cell? ⟨blk, Q * 2 + 1, none⟩ = some (.slice y.2.1 y.2.2.1 y.2.2.2) := gy 1 _ rfl
      have f0 := HR.out.own.frz
      have og1 := Own1.set HR.out.own (J * 2) (.int .u32 y.1)
      obtain ⟨xg1, cg1⟩ := og1.cell (J * 2 + 1) (by omega)
      have fg1 := og1.frz
      have og2 := Own1.set og1 (J * 2 + 1) (.slice y.2.1 y.2.2.1 y.2.2.2)
      obtain ⟨xg2, cg2⟩ := og2.cell (Q * 2) (by omega)
      have fg2 := og2.frz
      have og3 := Own1.set og2 (Q * 2) (.int .u32 x.1)
      obtain ⟨xg3, cg3⟩ := og3.cell (Q * 2 + 1) (by omega)
      have fg3 := og3.frz
      clear og3 og2 og1
      have HR4 := Bx.mk (HR.out.swap J Q x y (by omega) (by omega) hx hy).drew
      have U4 := Bx.mk ((((HU.out.setCell (p := ⟨blk, J * 2, none⟩) (.inl rfl) (.int .u32 y.1)).setCell (p := ⟨blk, J * 2 + 1, none⟩) (.inl rfl) (.slice y.2.1 y.2.2.1 y.2.2.2)).setCell (p := ⟨blk, Q * 2, none⟩) (.inl rfl) (.int .u32 x.1)).setCell (p := ⟨blk, Q * 2 + 1, none⟩) (.inl rfl) (.slice x.2.1 x.2.2.1 x.2.2.2)).drew
      clear hx hy gx gy hz hJ hQ HF
      repeat' (first | fail | go_values | go_skip | go_guarded | go_step | go_upon | go_back)
      go_big_region
      clear ca0 ca1
      clear cb0 cb1
      clear cg1 fg1 cg2 fg2 cg3 fg3
      generalize ((((wr.setCell ⟨blk, J * 2, none⟩ (.int .u32 y.1)).setCell ⟨blk, J * 2 + 1, none⟩ (.slice y.2.1 y.2.2.1 y.2.2.2)).setCell ⟨blk, Q * 2, none⟩ (.int .u32 x.1)).setCell ⟨blk, Q * 2 + 1, none⟩ (.slice x.2.1 x.2.2.1 x.2.2.2)).drew = w5 at *
      repeat' (first | fail | go_values | go_skip | go_guarded | go_step | go_upon | go_back)
      go_roundw
      case rel => exact ⟨i + 1, by go_num, by omega, ⟨by rw [HNX.out]; exact HR4.out⟩, U4⟩
      case measure => simp [intOf]; omega
    · have hltI : ¬ (i : Int) < (k : Int) := by omega
      obtain rfl : i = k := by omega
      repeat' (first | fail | go_values | go_skip | go_guarded | go_step | go_upon | go_back)
      go_returns
      exact ⟨rfl, HR.out, HU.out⟩
end Go.Proofs.Ytdnkdmdmekdfkaa
