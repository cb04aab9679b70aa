/- Diff: the walk. -/
import Derived.Test.YtdnkdmdmekdfkaaDf5
import Derived.Test.YtdnkdmdmekdfkaaBigM
namespace Go.Proofs.Ytdnkdmdmekdfkaa
open Go.RowKit
def diffE (a b : List Et) : Int := if frm 0 a ≠ 0 then frm 0 a else frm 0 b
def diffD (a b : List Et) : Dl := if diffE a b = 0 then mrg a b else ⟨[], [], []⟩
theorem Diff_results (tmps : Array Value) (w : World) (g : Nat) (cs : Array Value) (fr : Nat × Nat) (hp : tmps.getD 4 undef = .pointer (some ⟨g, 0, none⟩)) (hg : w.heap[g]? = some (.cells cs 26 fr)) (hs : cs.size = 3) :
    (results Try.f18 tmps).run Try.prog w = .ok (.tuple #[.agg cs, tmps.getD 5 undef]) w := by
  have hp' : tmps[4]?.getD undef = .pointer (some ⟨g, 0, none⟩) := by simpa using hp
  have hr := run_loadVar_row (P := Try.prog) w g 26 26 cs fr _ hg Try.underlying26 rfl (by rw [hs]; kernel_rfl)
  rw [results_cell_tmp Try.results18, hp]
  simp [asAddr, hr]
theorem o3_at {w : World} {B T : Nat} {a b c : Value} (h : w.heap[B]? = some (.cells #[a, b, c] T (0, 0))) : w.cell? ⟨B, 0, none⟩ = some a ∧ w.cell? ⟨B, 1, none⟩ = some b ∧ w.cell? ⟨B, 2, none⟩ = some c ∧ ∀ o, w.frozen? ⟨B, o, none⟩ = false := by
  refine ⟨by rw [World.cell?, h]; rfl, by rw [World.cell?, h]; rfl, by rw [World.cell?, h]; rfl, fun o => by simp [World.frozen?, h]⟩
theorem o3_set {w : World} {B T : Nat} {a b c : Value} (h : w.heap[B]? = some (.cells #[a, b, c] T (0, 0))) (x y z : Value) : (((w.setCell ⟨B, 0, none⟩ x).setCell ⟨B, 1, none⟩ y).setCell ⟨B, 2, none⟩ z).heap[B]? = some (.cells #[x, y, z] T (0, 0)) :=
  heap_setCell_same _ B 2 _ _ z (heap_setCell_same _ B 1 _ _ y (heap_setCell_same _ B 0 _ _ x h))
theorem upd_set3 (w : World) (B : Nat) (x y z : Value) : Upd (fun b => b = B) w (((w.setCell ⟨B, 0, none⟩ x).setCell ⟨B, 1, none⟩ y).setCell ⟨B, 2, none⟩ z) :=
  (((Upd.refl (fun b => b = B) w).setCell (p := ⟨B, 0, none⟩) (.inl rfl) x).setCell (p := ⟨B, 1, none⟩) (.inl rfl) y).setCell (p := ⟨B, 2, none⟩) (.inl rfl) z
theorem src_oneD {P : Program} {w : World} {t e : TypeId} (ht : P.underlying t = some (.slice e)) (cs : List Value) (size : Nat) (hs : cs.length = size) (h1 : ∀ u ∈ cs, u.oneCell' = true) : Src P size t (.slice (some ⟨w.heap.size, 0, none⟩) 1 1) 1 cs (w.alloc (.cells cs.toArray e)).drew :=
  ((rd_new w cs e).new ((Upd.refl Nowhere _).drew)).src ht (by simp) (by rw [hs, Nat.one_mul]) h1
def zE : Et := (0, [])
theorem drop_getD (L : List Et) (i : Nat) (h : i < L.length) : L.drop i = L.getD i zE :: L.drop (i + 1) := by
  rw [List.drop_eq_getElem_cons h, List.getD_eq_getElem?_getD, List.getElem?_eq_getElem h]; rfl
theorem mrg_G (L1 L2 : List Et) (i k : Nat) (hi : i < L1.length) (h : k = L2.length ∨ (k < L2.length ∧ (L1.getD i zE).1 < (L2.getD k zE).1)) : mrg (L1.drop i) (L2.drop k) = ⟨(L1.getD i zE).1 :: (mrg (L1.drop (i + 1)) (L2.drop k)).gone, (mrg (L1.drop (i + 1)) (L2.drop k)).come, (mrg (L1.drop (i + 1)) (L2.drop k)).chg⟩ := by
  rw [drop_getD L1 i hi]
  rcases h with rfl | ⟨hk, hlt⟩
  · rw [List.drop_length, mrg]
  · rw [drop_getD L2 k hk, mrg, if_pos hlt]
theorem mrg_C (L1 L2 : List Et) (i k : Nat) (hk : k < L2.length) (h : i = L1.length ∨ (i < L1.length ∧ (L2.getD k zE).1 < (L1.getD i zE).1)) : mrg (L1.drop i) (L2.drop k) = ⟨(mrg (L1.drop i) (L2.drop (k + 1))).gone, L2.getD k zE :: (mrg (L1.drop i) (L2.drop (k + 1))).come, (mrg (L1.drop i) (L2.drop (k + 1))).chg⟩ := by
  rw [drop_getD L2 k hk]
  rcases h with rfl | ⟨hi, hlt⟩
  · rw [List.drop_length, mrg]
  · rw [drop_getD L1 i hi, mrg, if_neg (by omega), if_pos hlt]
theorem mrg_X (L1 L2 : List Et) (i k : Nat) (hi : i < L1.length) (hk : k < L2.length) (h1 : ¬ (L1.getD i zE).1 < (L2.getD k zE).1) (h2 : ¬ (L2.getD k zE).1 < (L1.getD i zE).1) : mrg (L1.drop i) (L2.drop k) = if (chgP (L1.getD i zE) (L2.getD k zE)).none = true then mrg (L1.drop (i + 1)) (L2.drop (k + 1)) else ⟨(mrg (L1.drop (i + 1)) (L2.drop (k + 1))).gone, (mrg (L1.drop (i + 1)) (L2.drop (k + 1))).come, chgP (L1.getD i zE) (L2.getD k zE) :: (mrg (L1.drop (i + 1)) (L2.drop (k + 1))).chg⟩ := by
  rw [drop_getD L1 i hi, drop_getD L2 k hk, mrg, if_neg h1, if_neg h2]
theorem mrg_E (L1 L2 : List Et) : mrg (L1.drop L1.length) (L2.drop L2.length) = ⟨[], [], []⟩ := by rw [List.drop_length, List.drop_length, mrg]
theorem EnL.at_ {w : World} {A : Option Addr} {n : Nat} {L : List Et} (h : EnL w A n L) (j : Nat) (hj : j < n) : ∃ b off s0 s1 s2, A = some ⟨b, off, none⟩ ∧ w.cell? ⟨b, off + j * 2, none⟩ = some (.int .u32 (L.getD j zE).1) ∧ w.cell? ⟨b, off + j * 2 + 1, none⟩ = some (.slice s0 s1 s2) ∧ Co w (s0, s1, s2) (L.getD j zE).2 := by
  have hl := h.len
  obtain ⟨b, off, s0, s1, s2, e0, e1, e2, e3⟩ := h.el j (by omega)
  have e : L.getD j zE = L[j] := by rw [List.getD_eq_getElem?_getD, List.getElem?_eq_getElem (by omega)]; rfl
  rw [e]
  exact ⟨b, off, s0, s1, s2, e0, e1, e2, e3⟩
theorem Sm.at_ {L : List Et} (h : Sm L) (j : Nat) (hj : j < L.length) : SmE (L.getD j zE) := by
  have e : L.getD j zE = L[j] := by rw [List.getD_eq_getElem?_getD, List.getElem?_eq_getElem (by omega)]; rfl
  rw [e]; exact h _ (List.getElem_mem hj)
theorem infoI : (Try.prog.info? 40).map (fun i => (i.zero, i.size, i.bytes)) = some (some (.int .u32 0), 1, 4) := by kernel_rfl
theorem infoH : (Try.prog.info? 57).map (fun i => (i.zero, i.size, i.bytes)) = some (some (.agg #[.int .u32 0, .int .u8 0, .slice none 0 0, .slice none 0 0]), 4, 56) := by kernel_rfl
set_option maxRecDepth 20000 in
set_option maxHeartbeats 16000000 in
theorem Diff_any (A1 : Option Addr) (n1 p1 : Nat) (L1 : List Et) (A2 : Option Addr) (n2 p2 : Nat) (L2 : List Et) (w : World) (h1 : EnL w A1 n1 L1) (h2 : EnL w A2 n2 L2) (hn1 : n1 ≤ 1000) (hn2 : n2 ≤ 1000) (hs1 : Sm L1) (hs2 : Sm L2) :
    Calls Try.prog 18 #[.slice A1 n1 p1, .slice A2 n2 p2] w fun e w' => (∃ g c h, e = .returned (.tuple #[.agg #[g, c, h], .int .i64 (diffE L1 L2)]) ∧ DlN w.heap.size w' g c h (diffD L1 L2)) ∧ New w w' := by
  have HF1 := Bx.mk (fun (w' : World) (k : New w w') => Form_any A1 n1 p1 L1 w' (h1.new k) hn1 hs1)
  have HF2 := Bx.mk (fun (w' : World) (k : New w w') => Form_any A2 n2 p2 L2 w' (h2.new k) hn2 hs2)
  have H1 := Bx.mk h1
  have H2 := Bx.mk h2
  have hob := heap_alloc_new w (.cells #[.slice none 0 0, .slice none 0 0, .slice none 0 0] 26)
  have U1 := (Upd.refl Nowhere w).alloc (.cells #[.slice none 0 0, .slice none 0 0, .slice none 0 0] 26)
  have HE := Bx.mk (show diffE L1 L2 = if frm 0 L1 ≠ 0 then frm 0 L1 else frm 0 L2 from rfl)
  have HD := Bx.mk (show diffD L1 L2 = if diffE L1 L2 = 0 then mrg L1 L2 else ⟨[], [], []⟩ from rfl)
  have HZ := Bx.mk (fun (x : World) => (⟨World.ownsRow_nil _ _ _ _, ⟨[], World.ownsRow_nil _ _ _ _, trivial⟩, [], World.ownsRow_nil _ _ _ _, trivial⟩ : DlN w.heap.size x (.slice none 0 0) (.slice none 0 0) (.slice none 0 0) ⟨[], [], []⟩))
  clear h1 h2
  generalize diffD L1 L2 = D at *
  generalize diffE L1 L2 = E at *
  have hlit := heap_alloc_new (w.alloc (.cells #[.slice none 0 0, .slice none 0 0, .slice none 0 0] 26)) (.cells #[.slice A1 n1 p1, .slice A2 n2 p2] 22)
  have U2 := U1.alloc (.cells #[.slice A1 n1 p1, .slice A2 n2 p2] 22)
  have hob2 := ((Upd.refl Nowhere (w.alloc (.cells #[.slice none 0 0, .slice none 0 0, .slice none 0 0] 26))).alloc (.cells #[.slice A1 n1 p1, .slice A2 n2 p2] 22)).blk hob (fun q => q)
  rw [show (w.alloc (.cells #[.slice none 0 0, .slice none 0 0, .slice none 0 0] 26)).heap.size = w.heap.size + 1 by simp] at hlit
  clear hob U1
  go_enter Try.func18, Try.ntmps18
  go_upto_block 0 with (fail)
  generalize (w.alloc (.cells #[.slice none 0 0, .slice none 0 0, .slice none 0 0] 26)).alloc (.cells #[.slice A1 n1 p1, .slice A2 n2 p2] 22) = w1 at *
  generalize w.heap.size + 1 = Bl at *
  obtain ⟨Bd, hBd⟩ : ∃ x, w.heap.size = x := ⟨_, rfl⟩
  rw [hBd] at hob2 ⊢
  have HBd := Bx.mk hBd
  have HOB := Bx.mk hob2
  have HLIT := Bx.mk hlit
  have HU1 := Bx.mk U2
  clear hob2 hlit U2 hBd
  repeat' (first | fail | go_values | go_skip | go_guarded | go_step | go_upon | go_back)
  (refine wp_loopM [none, none, some 2, some 3, none, none, some 6, some 7, some 8, some 9, some 10, some 11, some 12, some 13, some 14, none, none, some 17, some 18, some 19, some 20, some 21, some 22, some 23, some 24, some 25, some 26, some 27, some 28, some 29, some 30, some 31, some 32, some 33, some 34, some 35, some 36, some 37, some 38, some 39, some 40, some 41, some 42, some 43, some 44, some 45, some 46, some 47, some 48, some 49, some 50, some 51, some 52, some 53, some 54, some 55, some 56, some 57, some 58, some 59, some 60, some 61, some 62, some 63, some 64, some 65, some 66, some 67, some 68, some 69, some 70, some 71, some 72, some 73, some 74, some 75, some 76, some 77, some 78, some 79, some 80, some 81, some 82, some 83, some 84, some 85, some 86, some 87, some 88, some 89, some 90, some 91, some 92, some 93, some 94, some 95, some 96, some 97, some 98, some 99, some 100, some 101, some 102, some 103, some 104, some 105, some 106, some 107, some 108, some 109, some 110, some 111, some 112, some 113, some 114, some 115, some 116, some 117, some 118, some 119, some 120, some 121, some 122, some 123, some 124, some 125, some 126, some 127, some 128, some 129, some 130, some 131, some 132, some 133] (fun fs wr dM => (fun iv wr dd => ∃ j : Nat, j ≤ 2 ∧ iv = .int .i64 j ∧ Bx (1 ≤ j → frm 0 L1 = 0) ∧ Bx (j = 2 → frm 0 L2 = 0) ∧ Bx (New w1 wr) ∧ dd = 2 - j) (fs 17) wr dM) (by kernel_rfl) ?atStart ?round; (case' atStart => dsimp only [slotsOf, List.getD_cons_succ, List.getD_cons_zero]); (case' round => (intro dM_ J_ K_ fs wr hrel hJ_ hK_; simp only [Mix]; generalize fs 17 = u17 at hrel ⊢; try dsimp only at hrel)))
  case atStart => exact ⟨_, 0, by omega, rfl, ⟨fun h => by omega⟩, ⟨fun h => by omega⟩, ⟨Upd.refl _ _⟩, rfl⟩
  case round =>
    obtain ⟨j, hj, rfl, HJ1, HJ2, HU, rfl⟩ := hrel
    have hj3 : j = 0 ∨ j = 1 ∨ j = 2 := by omega
    have hlb := HU.out.blk HLIT.out (fun q => q)
    have l0 : wr.cell? ⟨Bl, 0, none⟩ = some (.slice A1 n1 p1) := by rw [World.cell?, hlb]; rfl
    have l1 : wr.cell? ⟨Bl, 1, none⟩ = some (.slice A2 n2 p2) := by rw [World.cell?, hlb]; rfl
    clear hlb
    have hNW := HU1.out.trans HU.out
    rcases hj3 with rfl | rfl | rfl
    · have C := Bx.mk (HF1.out wr hNW)
      by_cases hz : frm 0 L1 = 0
      · rw [hz] at C
        have HZ1 := Bx.mk hz
        clear hz
        repeat' (first | (go_at_call 24; (with_reducible refine (C.out).mono ?_); rintro e w2 ⟨rfl, hu2⟩; dsimp only) | go_values | go_skip | go_guarded | go_step | go_upon | go_back)
        (refine met_loop (by assumption) (by kernel_rfl) (by kernel_rfl) ?rel; (case' rel => try dsimp only [slotsOf, List.getD_cons_succ, List.getD_cons_zero]))
        case rel => exact ⟨_, ⟨1, by omega, rfl, ⟨fun _ => HZ1.out⟩, ⟨fun h => by omega⟩, ⟨HU.out.trans hu2⟩, rfl⟩, by omega⟩
      · have HE1 := Bx.mk (show E = frm 0 L1 by rw [HE.out, if_pos hz])
        have HD1 := Bx.mk (show D = ⟨[], [], []⟩ by rw [HD.out, if_neg (by rw [HE1.out]; exact hz)])
        obtain ⟨f, hf⟩ : ∃ f, frm 0 L1 = f := ⟨_, rfl⟩
        rw [hf] at C hz HE1
        repeat' (first | (go_at_call 24; (with_reducible refine (C.out).mono ?_); rintro e w2 ⟨rfl, hu2⟩; obtain ⟨z0, z1, z2, zf⟩ := o3_at ((HU.out.trans hu2).blk HOB.out (fun q => q)); dsimp only) | go_values | go_skip | go_guarded | go_step | go_upon | go_back)
        refine bodyPost_ret (Diff_results _ _ Bd _ (0, 0) rfl (o3_set ((HU.out.trans hu2).blk HOB.out (fun q => q)) _ _ _) rfl) rfl ?_
        refine ⟨⟨_, _, _, by rw [HE1.out]; rfl, by rw [HD1.out]; exact HZ.out _⟩, ?_⟩
        exact ((((HU1.out.trans HU.out).trans hu2).setCell (p := ⟨Bd, 0, none⟩) (.inr (Nat.le_of_eq HBd.out)) _).setCell (p := ⟨Bd, 1, none⟩) (.inr (Nat.le_of_eq HBd.out)) _).setCell (p := ⟨Bd, 2, none⟩) (.inr (Nat.le_of_eq HBd.out)) _
    · have C := Bx.mk (HF2.out wr hNW)
      have hz1 := HJ1.out (Nat.le_refl _)
      by_cases hz : frm 0 L2 = 0
      · rw [hz] at C
        have HZ1 := Bx.mk hz
        clear hz hz1
        repeat' (first | (go_at_call 24; (with_reducible refine (C.out).mono ?_); rintro e w2 ⟨rfl, hu2⟩; dsimp only) | go_values | go_skip | go_guarded | go_step | go_upon | go_back)
        (refine met_loop (by assumption) (by kernel_rfl) (by kernel_rfl) ?rel; (case' rel => try dsimp only [slotsOf, List.getD_cons_succ, List.getD_cons_zero]))
        case rel => exact ⟨_, ⟨2, by omega, rfl, ⟨fun _ => HJ1.out (Nat.le_refl _)⟩, ⟨fun h => HZ1.out⟩, ⟨HU.out.trans hu2⟩, rfl⟩, by omega⟩
      · have HE1 := Bx.mk (show E = frm 0 L2 by rw [HE.out, if_neg (by simp [hz1])])
        have HD1 := Bx.mk (show D = ⟨[], [], []⟩ by rw [HD.out, if_neg (by rw [HE1.out]; exact hz)])
        obtain ⟨f, hf⟩ : ∃ f, frm 0 L2 = f := ⟨_, rfl⟩
        rw [hf] at C hz HE1
        clear hz1
        repeat' (first | (go_at_call 24; (with_reducible refine (C.out).mono ?_); rintro e w2 ⟨rfl, hu2⟩; obtain ⟨z0, z1, z2, zf⟩ := o3_at ((HU.out.trans hu2).blk HOB.out (fun q => q)); dsimp only) | go_values | go_skip | go_guarded | go_step | go_upon | go_back)
        refine bodyPost_ret (Diff_results _ _ Bd _ (0, 0) rfl (o3_set ((HU.out.trans hu2).blk HOB.out (fun q => q)) _ _ _) rfl) rfl ?_
        refine ⟨⟨_, _, _, by rw [HE1.out]; rfl, by rw [HD1.out]; exact HZ.out _⟩, ?_⟩
        exact ((((HU1.out.trans HU.out).trans hu2).setCell (p := ⟨Bd, 0, none⟩) (.inr (Nat.le_of_eq HBd.out)) _).setCell (p := ⟨Bd, 1, none⟩) (.inr (Nat.le_of_eq HBd.out)) _).setCell (p := ⟨Bd, 2, none⟩) (.inr (Nat.le_of_eq HBd.out)) _
    · have hz1 := HJ1.out (by omega)
      have hz2 := HJ2.out rfl
      have HE1 := Bx.mk (show E = 0 by rw [HE.out, if_neg (by simp [hz1]), hz2])
      have HD1 := Bx.mk (show D = mrg L1 L2 by rw [HD.out, if_pos HE1.out])
      clear hz1 hz2 l0 l1 HJ1 HJ2 HF1 HF2 HE HD HLIT
      go_upto_block 2 with (fail)
      have hS := HU.out.alloc (.cells #[.slice none 0 0, .slice none 0 0, .slice none 0 0] 26)
      have h9 := heap_alloc_new wr (.cells #[.slice none 0 0, .slice none 0 0, .slice none 0 0] 26)
      have hB9 : w1.heap.size ≤ wr.heap.size := HU.out.size
      generalize wr.alloc (.cells #[.slice none 0 0, .slice none 0 0, .slice none 0 0] 26) = wS at *
      generalize wr.heap.size = B9 at *
      have HS := Bx.mk hS
      have H9 := Bx.mk h9
      have HW1 := Bx.mk (show Bd ≤ w1.heap.size by have := HU1.out.size; rw [HBd.out] at this; exact this)
      have HL1 := Bx.mk H1.out.len
      have HL2 := Bx.mk H2.out.len
      have HZ2 := Bx.mk (fun (x : World) => (⟨World.ownsRow_nil _ _ _ _, ⟨[], World.ownsRow_nil _ _ _ _, trivial⟩, [], World.ownsRow_nil _ _ _ _, trivial⟩ : DlN w1.heap.size x (.slice none 0 0) (.slice none 0 0) (.slice none 0 0) ⟨[], [], []⟩))
      clear hS h9 HU hNW HZ
      repeat' (first | fail | go_values | go_skip | go_guarded | go_step | go_upon | go_back)
      (refine wp_loopM [none, none, some 2, some 3, none, none, some 6, some 7, some 8, none, some 10, some 11, some 12, some 13, some 14, some 15, some 16, some 17, some 18, some 19, some 20, some 21, some 22, some 23, some 24, some 25, some 26, some 27, some 28, some 29, some 30, some 31, some 32, some 33, some 34, some 35, some 36, some 37, some 38, some 39, some 40, some 41, some 42, some 43, some 44, some 45, some 46, some 47, some 48, some 49, some 50, some 51, some 52, some 53, some 54, some 55, some 56, some 57, some 58, some 59, some 60, some 61, some 62, some 63, some 64, some 65, some 66, some 67, some 68, some 69, some 70, some 71, some 72, some 73, some 74, some 75, some 76, some 77, some 78, some 79, some 80, some 81, some 82, some 83, some 84, some 85, some 86, some 87, some 88, some 89, some 90, some 91, some 92, some 93, some 94, some 95, some 96, some 97, some 98, some 99, some 100, some 101, some 102, some 103, some 104, some 105, some 106, some 107, some 108, some 109, some 110, some 111, some 112, some 113, some 114, some 115, some 116, some 117, some 118, some 119, some 120, some 121, some 122, some 123, some 124, some 125, some 126, some 127, some 128, some 129, some 130, some 131, some 132, some 133] (fun fs wr dM => (fun iv kv wr dd => ∃ (i k : Nat) (g0 : Option Addr) (g1 g2 : Nat) (c0 : Option Addr) (c1 c2 : Nat) (h0 : Option Addr) (h1 h2 : Nat) (D1 : Dl), iv = .int .i64 i ∧ kv = .int .i64 k ∧ i ≤ n1 ∧ k ≤ n2 ∧ Bx (D1.add (mrg (L1.drop i) (L2.drop k)) = D) ∧ D1.gone.length ≤ i ∧ D1.come.length ≤ k ∧ D1.chg.length ≤ i ∧ Bx (wr.heap[B9]? = some (.cells #[.slice g0 g1 g2, .slice c0 c1 c2, .slice h0 h1 h2] 26 (0, 0))) ∧ Bx (DlN w1.heap.size wr (.slice g0 g1 g2) (.slice c0 c1 c2) (.slice h0 h1 h2) D1) ∧ Bx (New w1 wr) ∧ dd = (n1 - i) + (n2 - k)) (fs 10) (fs 11) wr dM) (by kernel_rfl) ?atStart ?round; (case' atStart => dsimp only [slotsOf, List.getD_cons_succ, List.getD_cons_zero]); (case' round => (intro dM_ J_ K_ fs wr hrel hJ_ hK_; simp only [Mix]; generalize fs 10 = u10 at hrel ⊢; generalize fs 11 = u11 at hrel ⊢; try dsimp only at hrel)))
      case atStart => exact ⟨_, 0, 0, none, 0, 0, none, 0, 0, none, 0, 0, ⟨[], [], []⟩, rfl, rfl, Nat.zero_le _, Nat.zero_le _, ⟨by rw [List.drop_zero, List.drop_zero, HD1.out]; rfl⟩, Nat.zero_le _, Nat.zero_le _, Nat.zero_le _, H9, ⟨HZ2.out _⟩, HS, rfl⟩
      case round =>
        clear H9 HS HZ2
        obtain ⟨i, k, g0, g1, g2, c0, c1, c2, h0, h1, h2, D1, rfl, rfl, hi, hk, HM, hg1, hc1, hh1, HO, HDN, HU, rfl⟩ := hrel
        by_cases hex : i = n1 ∧ k = n2
        · have e1I : ¬ (i : Int) < (n1 : Int) := by omega
          have e2I : ¬ (k : Int) < (n2 : Int) := by omega
          have HDD := Bx.mk (show D1 = D by
            have q := HM.out
            have a1 := HL1.out
            have a2 := HL2.out
            rw [show i = L1.length by omega, show k = L2.length by omega, mrg_E] at q
            rw [← q]
            simp [Dl.add])
          obtain ⟨z0, z1, z2, zf⟩ := o3_at HO.out
          have HR := Bx.mk (HU.out.blk HOB.out (fun q => q))
          obtain ⟨r0, r1, r2, rf⟩ := o3_at HR.out
          clear hex HM
          repeat' (first | fail | go_values | go_skip | go_guarded | go_step | go_upon | go_back)
          refine bodyPost_ret (Diff_results _ _ Bd _ (0, 0) rfl (o3_set HR.out _ _ _) rfl) rfl ?_
          refine ⟨⟨_, _, _, by rw [HE1.out]; rfl, ?_⟩, ?_⟩
          · rw [HBd.out, ← HDD.out]
            exact (Only.of_obj HR.out (upd_set3 _ _ _ _ _)).dl (HDN.out.lower HW1.out) (by decide) (by decide) (by decide) (by decide)
          · exact (((HU1.out.trans HU.out).setCell (p := ⟨Bd, 0, none⟩) (.inr (Nat.le_of_eq HBd.out)) _).setCell (p := ⟨Bd, 1, none⟩) (.inr (Nat.le_of_eq HBd.out)) _).setCell (p := ⟨Bd, 2, none⟩) (.inr (Nat.le_of_eq HBd.out)) _
        · have hgo : i < n1 ∨ (¬ i < n1 ∧ k < n2) := by omega
          go_upto_region 10 with (fail)
          (refine wp_cutM [none, none, some 2, some 3, none, none, some 6, some 7, some 8, none, none, none, some 12, some 13, some 14, some 15, some 16, some 17, some 18, some 19, some 20, some 21, some 22, some 23, some 24, some 25, some 26, some 27, some 28, some 29, some 30, some 31, some 32, some 33, some 34, some 35, some 36, some 37, some 38, some 39, some 40, some 41, some 42, some 43, some 44, some 45, some 46, some 47, some 48, some 49, some 50, some 51, some 52, some 53, some 54, some 55, some 56, some 57, some 58, some 59, some 60, some 61, some 62, some 63, some 64, some 65, some 66, some 67, some 68, some 69, some 70, some 71, some 72, some 73, some 74, some 75, some 76, some 77, some 78, some 79, some 80, some 81, some 82, some 83, some 84, some 85, some 86, some 87, some 88, some 89, some 90, some 91, some 92, some 93, some 94, some 95, some 96, some 97, some 98, some 99, some 100, some 101, some 102, some 103, some 104, some 105, some 106, some 107, some 108, some 109, some 110, some 111, some 112, some 113, some 114, some 115, some 116, some 117, some 118, some 119, some 120, some 121, some 122, some 123, some 124, some 125, some 126, some 127, some 128, some 129, some 130, some 131, some 132, some 133] (fun fs wx => (fun v wx => v = .bool true ∧ wx = wr) (fs 37) wx) ?first ?rest; (case' first => intro _ _ _ _); (case' rest => (intro fs wc hcut; simp only [Mix]; generalize fs 37 = u37 at hcut ⊢; try dsimp only at hcut)))
          case first =>
            rcases hgo with q | ⟨q, q2⟩
            · have qI : (i : Int) < (n1 : Int) := by omega
              repeat' (first | fail | go_values | go_skip | go_guarded | go_step | go_upon | go_back)
              (refine met_cut (by assumption) (by kernel_rfl) (by kernel_rfl) ?rel; (case' rel => try dsimp only [slotsOf, List.getD_cons_succ, List.getD_cons_zero]))
              case rel => exact ⟨rfl, rfl⟩
            · have qI : ¬ (i : Int) < (n1 : Int) := by omega
              have q2I : (k : Int) < (n2 : Int) := by omega
              repeat' (first | fail | go_values | go_skip | go_guarded | go_step | go_upon | go_back)
              (refine met_cut (by assumption) (by kernel_rfl) (by kernel_rfl) ?rel; (case' rel => try dsimp only [slotsOf, List.getD_cons_succ, List.getD_cons_zero]))
              case rel => exact ⟨rfl, rfl⟩
          case rest =>
            obtain ⟨rfl, hw⟩ := hcut
            have hw' := hw.symm
            subst hw'
            clear hw
            obtain ⟨b60, hb60⟩ : ∃ b, decide (k = n2 ∨ (i < n1 ∧ (L1.getD i zE).1 < (L2.getD k zE).1)) = b := ⟨_, rfl⟩
            have HB60 := Bx.mk hb60
            clear hb60
            go_upto_region 16 with (fail)
            (refine wp_cutM [none, none, some 2, some 3, none, none, some 6, some 7, some 8, none, none, none, some 12, some 13, some 14, some 15, some 16, some 17, some 18, some 19, some 20, some 21, some 22, some 23, some 24, some 25, some 26, some 27, some 28, some 29, some 30, some 31, some 32, some 33, some 34, some 35, some 36, some 37, some 38, some 39, some 40, some 41, some 42, some 43, some 44, some 45, some 46, some 47, some 48, some 49, some 50, some 51, some 52, some 53, some 54, some 55, some 56, some 57, some 58, some 59, some 60, some 61, some 62, some 63, some 64, some 65, some 66, some 67, some 68, some 69, some 70, some 71, some 72, some 73, some 74, some 75, some 76, some 77, some 78, some 79, some 80, some 81, some 82, some 83, some 84, some 85, some 86, some 87, some 88, some 89, some 90, some 91, some 92, some 93, some 94, some 95, some 96, some 97, some 98, some 99, some 100, some 101, some 102, some 103, some 104, some 105, some 106, some 107, some 108, some 109, some 110, some 111, some 112, some 113, some 114, some 115, some 116, some 117, some 118, some 119, some 120, some 121, some 122, some 123, some 124, some 125, some 126, some 127, some 128, some 129, some 130, some 131, some 132, some 133] (fun fs wx => (fun v wx => v = .bool b60 ∧ Bx (New wr wx)) (fs 60) wx) ?first ?rest; (case' first => intro _ _ _ _); (case' rest => (intro fs wc hcut; simp only [Mix]; generalize fs 60 = u60 at hcut ⊢; try dsimp only at hcut)))
            case first =>
              by_cases q1 : k = n2
              · have q1I : (k : Int) = (n2 : Int) := by omega
                have q1b : ((k : Int) == (n2 : Int)) = true := by simpa using q1I
                have hb := HB60.out
                rw [decide_eq_true (Or.inl q1)] at hb
                have HBB := Bx.mk hb
                clear q1 hb hex hgo
                go_quiet (fail)
                repeat' (first | fail | go_values | go_skip | go_guarded | go_step | go_upon | go_back)
                (refine met_cut (by assumption) (by kernel_rfl) (by kernel_rfl) ?rel; (case' rel => try dsimp only [slotsOf, List.getD_cons_succ, List.getD_cons_zero]))
                case rel => exact ⟨by rw [← HBB.out]; rfl, ⟨(Upd.refl _ _).drewN _⟩⟩
              · have q1I : ¬ (k : Int) = (n2 : Int) := by omega
                have q1b : ((k : Int) == (n2 : Int)) = false := by simpa using q1I
                have hkn : k < n2 := by omega
                by_cases q2 : i < n1
                · have q2I : (i : Int) < (n1 : Int) := by omega
                  obtain ⟨b1, o1, s0, s1, s2, rfl, a0, _, _⟩ := (H1.out.new (HU1.out.trans HU.out)).at_ i q2
                  obtain ⟨b2, o2, t0, t1, t2, rfl, e0, _, _⟩ := (H2.out.new (HU1.out.trans HU.out)).at_ k hkn
                  have hkI : (k : Int) < (n2 : Int) := by omega
                  generalize (L1.getD i zE).1 = id1 at *
                  generalize (L2.getD k zE).1 = id2 at *
                  by_cases q3 : id1 < id2
                  · have q3I : (id1 : Int) < (id2 : Int) := by omega
                    have hb := HB60.out
                    rw [decide_eq_true (Or.inr ⟨q2, q3⟩)] at hb
                    have HBB := Bx.mk hb
                    clear q1 hb hex hgo
                    go_quiet (fail)
                    repeat' (first | fail | go_values | go_skip | go_guarded | go_step | go_upon | go_back)
                    (refine met_cut (by assumption) (by kernel_rfl) (by kernel_rfl) ?rel; (case' rel => try dsimp only [slotsOf, List.getD_cons_succ, List.getD_cons_zero]))
                    case rel => exact ⟨by rw [← HBB.out]; rfl, ⟨(Upd.refl _ _).drewN _⟩⟩
                  · have q3I : ¬ (id1 : Int) < (id2 : Int) := by omega
                    have hb := HB60.out
                    rw [decide_eq_false (by omega)] at hb
                    have HBB := Bx.mk hb
                    clear q1 hb hex hgo
                    go_quiet (fail)
                    repeat' (first | fail | go_values | go_skip | go_guarded | go_step | go_upon | go_back)
                    (refine met_cut (by assumption) (by kernel_rfl) (by kernel_rfl) ?rel; (case' rel => try dsimp only [slotsOf, List.getD_cons_succ, List.getD_cons_zero]))
                    case rel => exact ⟨by rw [← HBB.out]; rfl, ⟨(Upd.refl _ _).drewN _⟩⟩
                · have q2I : ¬ (i : Int) < (n1 : Int) := by omega
                  have hb := HB60.out
                  rw [decide_eq_false (by omega)] at hb
                  have HBB := Bx.mk hb
                  clear q1 hb hex hgo
                  go_quiet (fail)
                  repeat' (first | fail | go_values | go_skip | go_guarded | go_step | go_upon | go_back)
                  (refine met_cut (by assumption) (by kernel_rfl) (by kernel_rfl) ?rel; (case' rel => try dsimp only [slotsOf, List.getD_cons_succ, List.getD_cons_zero]))
                  case rel => exact ⟨by rw [← HBB.out]; rfl, ⟨(Upd.refl _ _).drewN _⟩⟩
            case rest =>
              obtain ⟨rfl, HQ⟩ := hcut
              have HUc := Bx.mk (HU.out.trans HQ.out)
              have HOc := Bx.mk (HQ.out.blk HO.out (fun q => q))
              have HDc := Bx.mk (HDN.out.new HQ.out)
              clear HO HDN HU HQ
              cases b60 with
              | true =>
                have hin : i < n1 := by have := of_decide_eq_true HB60.out; omega
                have hiI : (i : Int) < (n1 : Int) := by omega
                obtain ⟨b1, o1, s0, s1, s2, rfl, a0, _, _⟩ := (H1.out.new (HU1.out.trans HUc.out)).at_ i hin
                have HG := Bx.mk (show mrg (L1.drop i) (L2.drop k) = _ from mrg_G L1 L2 i k (by rw [HL1.out]; exact hin) (by rw [HL2.out]; have := of_decide_eq_true HB60.out; omega))
                generalize (L1.getD i zE).1 = id1 at *
                have hY0 : New wc (wc.alloc (.cells #[.int .u32 id1] 40)) := (Upd.refl Nowhere wc).alloc _
                have hY := hY0.drew
                obtain ⟨z0, z1, z2, zf⟩ := o3_at (((Upd.refl Nowhere wc).drew).blk HOc.out (fun q => q))
                obtain ⟨y0, y1, y2, yf⟩ := o3_at (hY0.blk HOc.out (fun q => q))
                have aY := hY0.cell a0 (fun q => q)
                have aZ := ((Upd.refl Nowhere wc).drew).cell a0 (fun q => q)
                have HDY := Bx.mk (HDc.out.new hY)
                have HUY := HUc.out.trans hY
                have ho2 := HDY.out.gone
                unfold GoN at ho2
                have hs2 := src_oneD (P := Try.prog) (w := wc) Try.underlying23 [.int .u32 id1] 1 rfl (by intro u hu; simp at hu; subst hu; rfl)
                have HMn := Bx.mk (show Dl.add ⟨D1.gone ++ [id1], D1.come, D1.chg⟩ (mrg (L1.drop (i + 1)) (L2.drop k)) = D by rw [← HM.out, HG.out]; simp [Dl.add])
                go_upto_region 17 with (fail)
                (refine wp_cutM [none, none, some 2, some 3, none, none, some 6, some 7, some 8, none, none, none, some 12, some 13, some 14, some 15, some 16, some 17, some 18, some 19, some 20, some 21, some 22, some 23, some 24, some 25, some 26, some 27, some 28, some 29, some 30, some 31, some 32, some 33, some 34, some 35, some 36, some 37, some 38, some 39, some 40, some 41, some 42, some 43, some 44, some 45, some 46, some 47, some 48, some 49, some 50, some 51, some 52, some 53, some 54, some 55, some 56, some 57, some 58, some 59, some 60, some 61, some 62, some 63, some 64, some 65, some 66, some 67, some 68, some 69, some 70, some 71, some 72, some 73, some 74, some 75, some 76, some 77, some 78, some 79, some 80, some 81, some 82, some 83, some 84, some 85, some 86, some 87, some 88, some 89, some 90, some 91, some 92, some 93, some 94, some 95, some 96, some 97, some 98, some 99, some 100, some 101, some 102, some 103, some 104, some 105, some 106, some 107, some 108, some 109, some 110, some 111, some 112, some 113, some 114, some 115, some 116, some 117, some 118, some 119, some 120, some 121, some 122, some 123, some 124, some 125, some 126, some 127, some 128, some 129, some 130, some 131, some 132, some 133] (fun fs wx => (fun wx => ∃ A5 n5 c5, Bx (wx.heap[B9]? = some (.cells #[.slice A5 n5 c5, .slice c0 c1 c2, .slice h0 h1 h2] 26 (0, 0))) ∧ Bx (DlN w1.heap.size wx (.slice A5 n5 c5) (.slice c0 c1 c2) (.slice h0 h1 h2) ⟨D1.gone ++ [id1], D1.come, D1.chg⟩) ∧ Bx (New w1 wx))  wx) ?first ?rest; (case' first => intro _ _ _ _); (case' rest => (intro fs wc hcut; simp only [Mix]; try dsimp only at hcut)))
                case first =>
                  go_region_law (first
                    | ((refine step_appN _ rfl _ _ 23 23 rfl _ 40 (.int .u32 0) 1 4 Try.underlying23 infoI rfl _ _ _ ho2 rfl _ _ _ hs2 rfl _ HUY ?c1 ?c2 ?_; (case c1 => unfold maxLen; omega); (case c2 => omega); intro v5 w5 ho5 hu5 hk5 hv5); obtain ⟨A5, c5, rfl, _⟩ := own_rd ho5; have HX5 := Bx.mk ((Only.of_app ho2 hk5).heap (hY.blk HOc.out (fun q => q)) (by decide)); obtain ⟨x0, x1, x2, xf⟩ := o3_at HX5.out))
                  all_goals (
                    have HD5 := Bx.mk (DlN.grow1 HDY.out id1 ho5 hk5)
                    have HD6 := Bx.mk ((Only.of_obj HX5.out (upd_set w5 B9 0 (.slice A5 (D1.gone.length + 1) c5))).dl HD5.out (by decide) (by decide) (by decide) (by decide))
                    clear ho5 hk5 hv5 hs2 ho2 HD5
                    repeat' (first | fail | go_values | go_skip | go_guarded | go_step | go_upon | go_back)
                    (refine met_cut (by assumption) (by kernel_rfl) (by kernel_rfl) ?rel; (case' rel => try dsimp only [slotsOf, List.getD_cons_succ, List.getD_cons_zero]))
                    case rel => exact ⟨A5, _, c5, ⟨heap_setCell_same w5 B9 0 _ _ _ HX5.out⟩, HD6, ⟨hu5.setCell (p := ⟨B9, 0, none⟩) (.inr hB9) _⟩⟩)
                case rest =>
                  obtain ⟨A5, n5, c5, HX6, HD6, HU6⟩ := hcut
                  repeat' (first | fail | go_values | go_skip | go_guarded | go_step | go_upon | go_back)
                  (refine met_loop (by assumption) (by kernel_rfl) (by kernel_rfl) ?rel; (case' rel => try dsimp only [slotsOf, List.getD_cons_succ, List.getD_cons_zero]))
                  case rel => exact ⟨_, ⟨i + 1, k, A5, n5, c5, c0, c1, c2, h0, h1, h2, ⟨D1.gone ++ [id1], D1.come, D1.chg⟩, by go_num, rfl, by omega, hk, HMn, (by rw [List.length_append]; exact Nat.add_le_add_right hg1 1), hc1, Nat.le_trans hh1 (Nat.le_succ _), HX6, HD6, HU6, rfl⟩, by omega⟩
              | false =>
                have hkn : k < n2 := by have := of_decide_eq_false HB60.out; omega
                have hkI : (k : Int) < (n2 : Int) := by omega
                obtain ⟨b96, hb96⟩ : ∃ b, decide (i = n1 ∨ (L2.getD k zE).1 < (L1.getD i zE).1) = b := ⟨_, rfl⟩
                have HB96 := Bx.mk hb96
                have H60 := Bx.mk (of_decide_eq_false HB60.out)
                clear hb96 hgo HB60 hex
                obtain ⟨b2, o2, t0, t1, t2, rfl, e0, e1, hco2⟩ := (H2.out.new (HU1.out.trans HUc.out)).at_ k hkn
                have HCO2 := Bx.mk hco2
                clear hco2
                go_upto_region 19 with (fail)
                (refine wp_cutM [none, none, some 2, some 3, none, none, some 6, some 7, some 8, none, none, none, some 12, some 13, some 14, some 15, some 16, some 17, some 18, some 19, some 20, some 21, some 22, some 23, some 24, some 25, some 26, some 27, some 28, some 29, some 30, some 31, some 32, some 33, some 34, some 35, some 36, some 37, some 38, some 39, some 40, some 41, some 42, some 43, some 44, some 45, some 46, some 47, some 48, some 49, some 50, some 51, some 52, some 53, some 54, some 55, some 56, some 57, some 58, some 59, some 60, some 61, some 62, some 63, some 64, some 65, some 66, some 67, some 68, some 69, some 70, some 71, some 72, some 73, some 74, some 75, some 76, some 77, some 78, some 79, some 80, some 81, some 82, some 83, some 84, some 85, some 86, some 87, some 88, some 89, some 90, some 91, some 92, some 93, some 94, some 95, some 96, some 97, some 98, some 99, some 100, some 101, some 102, some 103, some 104, some 105, some 106, some 107, some 108, some 109, some 110, some 111, some 112, some 113, some 114, some 115, some 116, some 117, some 118, some 119, some 120, some 121, some 122, some 123, some 124, some 125, some 126, some 127, some 128, some 129, some 130, some 131, some 132, some 133] (fun fs wx => (fun v wx => v = .bool b96 ∧ Bx (New wc wx)) (fs 96) wx) ?first ?rest; (case' first => intro _ _ _ _); (case' rest => (intro fs wc hcut; simp only [Mix]; generalize fs 96 = u96 at hcut ⊢; try dsimp only at hcut)))
                case first =>
                  by_cases q1 : i = n1
                  · have q1I : (i : Int) = (n1 : Int) := by omega
                    have q1b : ((i : Int) == (n1 : Int)) = true := by simpa using q1I
                    have hb := HB96.out
                    rw [decide_eq_true (Or.inl q1)] at hb
                    have HBB := Bx.mk hb
                    clear q1 hb
                    go_quiet (fail)
                    repeat' (first | fail | go_values | go_skip | go_guarded | go_step | go_upon | go_back)
                    (refine met_cut (by assumption) (by kernel_rfl) (by kernel_rfl) ?rel; (case' rel => try dsimp only [slotsOf, List.getD_cons_succ, List.getD_cons_zero]))
                    case rel => exact ⟨by rw [← HBB.out]; rfl, ⟨(Upd.refl _ _).drewN _⟩⟩
                  · have q1I : ¬ (i : Int) = (n1 : Int) := by omega
                    have q1b : ((i : Int) == (n1 : Int)) = false := by simpa using q1I
                    have hin : i < n1 := by omega
                    have hiI : (i : Int) < (n1 : Int) := by omega
                    obtain ⟨b1, o1, s0, s1, s2, rfl, a0, _, _⟩ := (H1.out.new (HU1.out.trans HUc.out)).at_ i hin
                    generalize (L1.getD i zE).1 = id1 at *
                    generalize (L2.getD k zE).1 = id2 at *
                    by_cases q3 : id2 < id1
                    · have q3I : (id2 : Int) < (id1 : Int) := by omega
                      have hb := HB96.out
                      rw [decide_eq_true (Or.inr q3)] at hb
                      have HBB := Bx.mk hb
                      clear q1 hb
                      go_quiet (fail)
                      repeat' (first | fail | go_values | go_skip | go_guarded | go_step | go_upon | go_back)
                      (refine met_cut (by assumption) (by kernel_rfl) (by kernel_rfl) ?rel; (case' rel => try dsimp only [slotsOf, List.getD_cons_succ, List.getD_cons_zero]))
                      case rel => exact ⟨by rw [← HBB.out]; rfl, ⟨(Upd.refl _ _).drewN _⟩⟩
                    · have q3I : ¬ (id2 : Int) < (id1 : Int) := by omega
                      have hb := HB96.out
                      rw [decide_eq_false (by omega)] at hb
                      have HBB := Bx.mk hb
                      clear q1 hb
                      go_quiet (fail)
                      repeat' (first | fail | go_values | go_skip | go_guarded | go_step | go_upon | go_back)
                      (refine met_cut (by assumption) (by kernel_rfl) (by kernel_rfl) ?rel; (case' rel => try dsimp only [slotsOf, List.getD_cons_succ, List.getD_cons_zero]))
                      case rel => exact ⟨by rw [← HBB.out]; rfl, ⟨(Upd.refl _ _).drewN _⟩⟩
                case rest =>
                  obtain ⟨rfl, HQ⟩ := hcut
                  rename World => wd
                  have HUd := Bx.mk (HUc.out.trans HQ.out)
                  have HOd := Bx.mk (HQ.out.blk HOc.out (fun q => q))
                  have HDd := Bx.mk (HDc.out.new HQ.out)
                  have HCO := Bx.mk (HCO2.out.new HQ.out)
                  replace e0 := HQ.out.cell e0 (fun q => q)
                  replace e1 := HQ.out.cell e1 (fun q => q)
                  have HSM2 := Bx.mk (hs2.at_ k (by rw [HL2.out]; exact hkn))
                  clear HOc HDc HUc HQ HCO2
                  cases b96 with
                  | true =>
                    have HG := Bx.mk (show mrg (L1.drop i) (L2.drop k) = _ from mrg_C L1 L2 i k (by rw [HL2.out]; exact hkn) (by rw [HL1.out]; have := of_decide_eq_true HB96.out; omega))
                    have HMn := Bx.mk (show Dl.add ⟨D1.gone, D1.come ++ [L2.getD k zE], D1.chg⟩ (mrg (L1.drop i) (L2.drop (k + 1))) = D by rw [← HM.out, HG.out]; simp [Dl.add])
                    clear HB96 H60 HG
                    generalize L2.getD k zE = x2 at *
                    obtain ⟨id2, l2⟩ := x2
                    dsimp only at e0 e1 HCO
                    have hd : New wd wd.drew := (Upd.refl Nowhere wd).drew
                    have e0d := hd.cell e0 (fun q => q)
                    have e1d := hd.cell e1 (fun q => q)
                    obtain ⟨z0, z1, z2, zf⟩ := o3_at (hd.blk HOd.out (fun q => q))
                    obtain ⟨es, hre, hal⟩ := HDd.out.come.ex
                    have HRE := Bx.mk hre
                    have HAL := Bx.mk hal
                    have HCL := Bx.mk (CloneC_any t0 t1 t2 l2 wd.drew (HCO.out.new hd) (Nat.le_trans HSM2.out.len (by omega)))
                    clear hre hal
                    go_upto_region 20 with (fail)
                    (refine wp_cutM [none, none, some 2, some 3, none, none, some 6, some 7, some 8, none, none, none, some 12, some 13, some 14, some 15, some 16, some 17, some 18, some 19, some 20, some 21, some 22, some 23, some 24, some 25, some 26, some 27, some 28, some 29, some 30, some 31, some 32, some 33, some 34, some 35, some 36, some 37, some 38, some 39, some 40, some 41, some 42, some 43, some 44, some 45, some 46, some 47, some 48, some 49, some 50, some 51, some 52, some 53, some 54, some 55, some 56, some 57, some 58, some 59, some 60, some 61, some 62, some 63, some 64, some 65, some 66, some 67, some 68, some 69, some 70, some 71, some 72, some 73, some 74, some 75, some 76, some 77, some 78, some 79, some 80, some 81, some 82, some 83, some 84, some 85, some 86, some 87, some 88, some 89, some 90, some 91, some 92, some 93, some 94, some 95, some 96, some 97, some 98, some 99, some 100, some 101, some 102, some 103, some 104, some 105, some 106, some 107, some 108, some 109, some 110, some 111, some 112, some 113, some 114, some 115, some 116, some 117, some 118, some 119, some 120, some 121, some 122, some 123, some 124, some 125, some 126, some 127, some 128, some 129, some 130, some 131, some 132, some 133] (fun fs wx => (fun wx => ∃ A5 n5 c5, Bx (wx.heap[B9]? = some (.cells #[.slice g0 g1 g2, .slice A5 n5 c5, .slice h0 h1 h2] 26 (0, 0))) ∧ Bx (DlN w1.heap.size wx (.slice g0 g1 g2) (.slice A5 n5 c5) (.slice h0 h1 h2) ⟨D1.gone, D1.come ++ [(id2, l2)], D1.chg⟩) ∧ Bx (New w1 wx))  wx) ?first ?rest; (case' first => intro _ _ _ _); (case' rest => (intro fs wc hcut; simp only [Mix]; try dsimp only at hcut)))
                    case first =>
                      go_region_law (first
                        | ((refine step_appN _ rfl _ _ 22 22 rfl _ 43 (.agg #[.int .u32 0, .slice none 0 0]) 2 32 Try.underlying22 infoE rfl _ _ _ ho2 rfl _ _ _ hs3 rfl _ hu4 ?c1 ?c2 ?_; (case c1 => unfold maxLen; omega); (case c2 => omega); intro v5 w5 ho5 hu5 hk5 hv5); obtain ⟨A5, c5, rfl, _⟩ := own_rd ho5; have HX5 := Bx.mk ((Only.of_app ho2 hk5).heap (hu3.blk HOd.out (fun q => q)) (by decide)); obtain ⟨x0, x1, x2, xf⟩ := o3_at HX5.out)
                        | (go_simp; (go_at_call 42; (with_reducible refine (HCL.out).mono ?_); rintro e2 w2 ⟨⟨A2', n', c'⟩, rfl, hcn, hu2⟩; dsimp only); have m0 := hu2.cell e0d (fun q => q); obtain ⟨m1, m2, m3, mf⟩ := o3_at (hu2.blk (hd.blk HOd.out (fun q => q)) (fun q => q)); have hu3 : New wd (w2.alloc (.cells #[.int .u32 id2, .slice A2' n' c'] 43)) := (hd.trans hu2).alloc _; obtain ⟨y1, y2, y3, yf⟩ := o3_at (hu3.blk HOd.out (fun q => q)); have hu4 := HUd.out.trans hu3; have ho2 := own_new HRE.out hu3; have hs3 := src_one (P := Try.prog) (w := w2) Try.underlying22 [.int .u32 id2, .slice A2' n' c'] 2 rfl (by intro u hu; simp at hu; rcases hu with rfl | rfl <;> rfl)))
                      all_goals (
                        have hcn2 := (hcn.lower (show w1.heap.size ≤ wd.drew.heap.size from HUd.out.size)).new ((Upd.refl Nowhere w2).alloc (.cells #[.int .u32 id2, .slice A2' n' c'] 43))
                        have HD5 := Bx.mk (DlN.grow2 (HDd.out.new hu3) ho2 (HAL.out.map fun _ _ q => Cn.new q hu3) id2 l2 A2' n' c' hcn2 ho5 hk5)
                        have HD6 := Bx.mk ((Only.of_obj HX5.out (upd_set w5 B9 1 (.slice A5 (D1.come.length + 1) c5))).dl HD5.out (by decide) (by decide) (by decide) (by decide))
                        clear ho5 hk5 hv5 hs3 ho2 HD5 hcn hcn2
                        repeat' (first | fail | go_values | go_skip | go_guarded | go_step | go_upon | go_back)
                        (refine met_cut (by assumption) (by kernel_rfl) (by kernel_rfl) ?rel; (case' rel => try dsimp only [slotsOf, List.getD_cons_succ, List.getD_cons_zero]))
                        case rel => exact ⟨A5, _, c5, ⟨heap_setCell_same w5 B9 1 _ _ _ HX5.out⟩, HD6, ⟨hu5.setCell (p := ⟨B9, 1, none⟩) (.inr hB9) _⟩⟩)
                    case rest =>
                      obtain ⟨A5, n5, c5, HX6, HD6, HU6⟩ := hcut
                      repeat' (first | fail | go_values | go_skip | go_guarded | go_step | go_upon | go_back)
                      (refine met_loop (by assumption) (by kernel_rfl) (by kernel_rfl) ?rel; (case' rel => try dsimp only [slotsOf, List.getD_cons_succ, List.getD_cons_zero]))
                      case rel => exact ⟨_, ⟨i, k + 1, g0, g1, g2, A5, n5, c5, h0, h1, h2, ⟨D1.gone, D1.come ++ [(id2, l2)], D1.chg⟩, rfl, by go_num, hi, by omega, HMn, hg1, (by rw [List.length_append]; exact Nat.add_le_add_right hc1 1), hh1, HX6, HD6, HU6, rfl⟩, by omega⟩
                  | false =>
                    have hin : i < n1 := by have := of_decide_eq_false HB96.out; omega
                    have hiI : (i : Int) < (n1 : Int) := by omega
                    obtain ⟨b1, o1, s0, s1, s2, rfl, a0, a1, hco1⟩ := (H1.out.new (HU1.out.trans HUd.out)).at_ i hin
                    have HG := Bx.mk (show mrg (L1.drop i) (L2.drop k) = _ from mrg_X L1 L2 i k (by rw [HL1.out]; exact hin) (by rw [HL2.out]; exact hkn) (by have := H60.out; omega) (by have := of_decide_eq_false HB96.out; omega))
                    have HMa := Bx.mk (fun (hz : (chgP (L1.getD i zE) (L2.getD k zE)).none = true) => show Dl.add ⟨D1.gone, D1.come, D1.chg⟩ (mrg (L1.drop (i + 1)) (L2.drop (k + 1))) = D by rw [← HM.out, HG.out, if_pos hz])
                    have HMb := Bx.mk (fun (hz : ¬ (chgP (L1.getD i zE) (L2.getD k zE)).none = true) => show Dl.add ⟨D1.gone, D1.come, D1.chg ++ [chgP (L1.getD i zE) (L2.getD k zE)]⟩ (mrg (L1.drop (i + 1)) (L2.drop (k + 1))) = D by rw [← HM.out, HG.out, if_neg hz]; simp [Dl.add])
                    have HSM1 := Bx.mk (hs1.at_ i (by rw [HL1.out]; exact hin))
                    have HCO1 := Bx.mk hco1
                    clear hco1 HB96 H60 HG
                    generalize L1.getD i zE = x1 at *
                    generalize L2.getD k zE = x2 at *
                    obtain ⟨id1, l1⟩ := x1
                    obtain ⟨id2, l2⟩ := x2
                    dsimp only at e0 e1 HCO a0 a1 HCO1
                    have HCH := Bx.mk (fun (w' : World) (kk : New wd w') => change_any id1 id2 (s0, s1, s2) (t0, t1, t2) l1 l2 w' (HCO1.out.new kk) (HCO.out.new kk) HSM1.out.len HSM2.out.len)
                    dsimp only at HCH
                    have HXE := Bx.mk (show chgP (id1, l1) (id2, l2) = ⟨id2, lostP l1 l2, newP l1 l2, setP l1 l2⟩ from rfl)
                    generalize chgP (id1, l1) (id2, l2) = X at *
                    obtain ⟨Z, hZ⟩ : ∃ Z, (lostP l1 l2).toNat = Z := ⟨_, rfl⟩
                    have HZZ := Bx.mk hZ
                    rw [hZ] at HCH
                    clear hZ
                    obtain ⟨LO, hLO⟩ : ∃ x, lostP l1 l2 = x := ⟨_, rfl⟩
                    rw [hLO] at HXE HZZ
                    clear hLO
                    generalize newP l1 l2 = N1 at *
                    generalize setP l1 l2 = N2 at *
                    go_upto_region 11 with (fail)
                    (refine wp_cutM [none, none, some 2, some 3, none, none, some 6, some 7, some 8, none, none, none, some 12, some 13, some 14, some 15, some 16, some 17, some 18, some 19, some 20, some 21, some 22, some 23, some 24, some 25, some 26, some 27, some 28, some 29, some 30, some 31, some 32, some 33, some 34, some 35, some 36, some 37, some 38, some 39, some 40, some 41, some 42, some 43, some 44, some 45, some 46, some 47, some 48, some 49, some 50, some 51, some 52, some 53, some 54, some 55, some 56, some 57, some 58, some 59, some 60, some 61, some 62, some 63, some 64, some 65, some 66, some 67, some 68, some 69, some 70, some 71, some 72, some 73, some 74, some 75, some 76, some 77, some 78, some 79, some 80, some 81, some 82, some 83, some 84, some 85, some 86, some 87, some 88, some 89, some 90, some 91, some 92, some 93, some 94, some 95, some 96, some 97, some 98, some 99, some 100, some 101, some 102, some 103, some 104, some 105, some 106, some 107, some 108, some 109, some 110, some 111, some 112, some 113, some 114, some 115, some 116, some 117, some 118, some 119, some 120, some 121, some 122, some 123, some 124, some 125, some 126, some 127, some 128, some 129, some 130, some 131, some 132, some 133] (fun fs wx => (fun v wx => ∃ (B5 : Nat) (u1 u2 : Sl), v = .pointer (some ⟨B5, 0, none⟩) ∧ wd.heap.size ≤ B5 ∧ Bx (wx.heap[B5]? = some (.cells #[.int .u32 id2, .int .u8 Z, .slice u1.1 u1.2.1 u1.2.2, .slice u2.1 u2.2.1 u2.2.2] 57 (0, 0))) ∧ Bx (Cn w1.heap.size wx u1 N1) ∧ Bx (Cn w1.heap.size wx u2 N2) ∧ Bx (New wd wx)) (fs 12) wx) ?first ?rest; (case' first => intro _ _ _ _); (case' rest => (intro fs wc hcut; simp only [Mix]; generalize fs 12 = u12 at hcut ⊢; try dsimp only at hcut)))
                    case first =>
                      refine wp_region_any (by kernel_rfl) ?_
                      refine wp_free 10 134 (PhiOf [fun v _ => v = .slice (some ⟨b1, o1, none⟩) n1 p1, fun v _ => v = .int .i64 (i : Nat), fun v _ => v = .pointer (some ⟨b1, o1 + i * 2, none⟩), fun v _ => v = .agg #[.int .u32 id1, .slice s0 s1 s2], fun v _ => v = .slice (some ⟨b2, o2, none⟩) n2 p2, fun v _ => v = .int .i64 (k : Nat), fun v _ => v = .pointer (some ⟨b2, o2 + k * 2, none⟩), fun v _ => v = .agg #[.int .u32 id2, .slice t0 t1 t2], fun v w' => ∃ u1 u2 : Sl, v = .agg #[.int .u32 id2, .int .u8 Z, .slice u1.1 u1.2.1 u1.2.2, .slice u2.1 u2.2.1 u2.2.2] ∧ Cn w1.heap.size w' u1 N1 ∧ Cn w1.heap.size w' u2 N2, fun v w' => ∃ B5, v = .pointer (some ⟨B5, 0, none⟩) ∧ wd.heap.size ≤ B5 ∧ w'.heap[B5]? = some (.cells #[.int .u32 0, .int .u8 0, .slice none 0 0, .slice none 0 0] 57 (0, 0))]) (PhiOf_stable ⟨fun _ _ _ _ h => h, fun _ _ _ _ h => h, fun _ _ _ _ h => h, fun _ _ _ _ h => h, fun _ _ _ _ h => h, fun _ _ _ _ h => h, fun _ _ _ _ h => h, fun _ _ _ _ h => h, fun _ _ _ hn ⟨u1, u2, h1, h2, h3⟩ => ⟨u1, u2, h1, h2.new hn, h3.new hn⟩, fun _ _ _ hn ⟨B, h1, h2, h3⟩ => ⟨B, h1, h2, hn.blk h3 (fun q => q)⟩, trivial⟩) (by kernel_rfl) (by kernel_rfl) (by kernel_rfl) (by kernel_rfl) ?_ ?_
                      · intro a w' K i o hi ho met hK
                        have hi' : i = 0 ∨ i = 1 ∨ i = 2 ∨ i = 3 ∨ i = 4 ∨ i = 5 ∨ i = 6 ∨ i = 7 ∨ i = 8 ∨ i = 9 := by have := (mem_heads.1 hi).1; omega
                        have hN := met.new
                        have hN' : New wd w' := ((Upd.refl Nowhere wd).drew).trans hN
                        have q1 := hN'.cell a0 (fun q => q)
                        have q2 := hN'.cell a1 (fun q => q)
                        have q3 := hN'.cell e0 (fun q => q)
                        have q4 := hN'.cell e1 (fun q => q)
                        rcases hi' with rfl | rfl | rfl | rfl | rfl | rfl | rfl | rfl | rfl | rfl
                        all_goals cases ho
                        · have e0 := met.b 0 _ rfl (by kernel_rfl)
                          refine free_run (.slice (some ⟨b1, o1, none⟩) n1 p1) w' (by unfold execOp; go_simp) (hK _ _ (Upd.refl _ _) rfl)
                        · have e10 := met.b 10 _ rfl (by kernel_rfl)
                          refine free_run (.int .i64 (i : Nat)) w' (by unfold execOp; go_simp) (hK _ _ (Upd.refl _ _) rfl)
                        · have e38 : a.tmps[38]?.getD undef = .slice (some ⟨b1, o1, none⟩) n1 p1 := met.d 0 38 (by kernel_rfl)
                          have e39 : a.tmps[39]?.getD undef = .int .i64 (i : Nat) := met.d 1 39 (by kernel_rfl)
                          refine free_run (.pointer (some ⟨b1, o1 + i * 2, none⟩)) w' (by unfold execOp; go_simp) (hK _ _ (Upd.refl _ _) rfl)
                        · have e40 : a.tmps[40]?.getD undef = .pointer (some ⟨b1, o1 + i * 2, none⟩) := met.d 2 40 (by kernel_rfl)
                          refine free_run (.agg #[.int .u32 id1, .slice s0 s1 s2]) w' (by unfold execOp; go_simp) (hK _ _ (Upd.refl _ _) rfl)
                        · have e1 := met.b 1 _ rfl (by kernel_rfl)
                          refine free_run (.slice (some ⟨b2, o2, none⟩) n2 p2) w' (by unfold execOp; go_simp) (hK _ _ (Upd.refl _ _) rfl)
                        · have e11 := met.b 11 _ rfl (by kernel_rfl)
                          refine free_run (.int .i64 (k : Nat)) w' (by unfold execOp; go_simp) (hK _ _ (Upd.refl _ _) rfl)
                        · have e42 : a.tmps[42]?.getD undef = .slice (some ⟨b2, o2, none⟩) n2 p2 := met.d 4 42 (by kernel_rfl)
                          have e43 : a.tmps[43]?.getD undef = .int .i64 (k : Nat) := met.d 5 43 (by kernel_rfl)
                          refine free_run (.pointer (some ⟨b2, o2 + k * 2, none⟩)) w' (by unfold execOp; go_simp) (hK _ _ (Upd.refl _ _) rfl)
                        · have e44 : a.tmps[44]?.getD undef = .pointer (some ⟨b2, o2 + k * 2, none⟩) := met.d 6 44 (by kernel_rfl)
                          refine free_run (.agg #[.int .u32 id2, .slice t0 t1 t2]) w' (by unfold execOp; go_simp) (hK _ _ (Upd.refl _ _) rfl)
                        · have e41 : a.tmps[41]?.getD undef = .agg #[.int .u32 id1, .slice s0 s1 s2] := met.d 3 41 (by kernel_rfl)
                          have e45 : a.tmps[45]?.getD undef = .agg #[.int .u32 id2, .slice t0 t1 t2] := met.d 7 45 (by kernel_rfl)
                          unfold Oper.wp execOp
                          go_simp
                          (first | (go_at_call 43; (with_reducible refine (HCH.out _ hN').mono ?_); rintro e w2 ⟨⟨u1, u2, rfl, k1, k2⟩, k3⟩; dsimp only))
                          exact hK _ _ k3 ⟨u1, u2, rfl, k1.lower (Nat.le_trans HUd.out.size hN'.size), k2.lower (Nat.le_trans HUd.out.size hN'.size)⟩
                        · refine free_run (.pointer (some ⟨w'.heap.size, 0, none⟩)) (w'.alloc (.cells #[.int .u32 0, .int .u8 0, .slice none 0 0, .slice none 0 0] 57)) (by unfold execOp; go_simp) (hK _ _ ((Upd.refl _ _).alloc _) ⟨_, rfl, hN'.size, heap_alloc_new _ _⟩)
                      · intro vs w' hw hΦ
                        have vp0 : vs 0 = .slice (some ⟨b1, o1, none⟩) n1 p1 := hΦ 0 (by simp [heads])
                        have vp1 : vs 1 = .int .i64 (i : Nat) := hΦ 1 (by simp [heads])
                        have vp2 : vs 2 = .pointer (some ⟨b1, o1 + i * 2, none⟩) := hΦ 2 (by simp [heads])
                        have vp3 : vs 3 = .agg #[.int .u32 id1, .slice s0 s1 s2] := hΦ 3 (by simp [heads])
                        have vp4 : vs 4 = .slice (some ⟨b2, o2, none⟩) n2 p2 := hΦ 4 (by simp [heads])
                        have vp5 : vs 5 = .int .i64 (k : Nat) := hΦ 5 (by simp [heads])
                        have vp6 : vs 6 = .pointer (some ⟨b2, o2 + k * 2, none⟩) := hΦ 6 (by simp [heads])
                        have vp7 : vs 7 = .agg #[.int .u32 id2, .slice t0 t1 t2] := hΦ 7 (by simp [heads])
                        have vp8 : (fun v w' => ∃ u1 u2 : Sl, v = .agg #[.int .u32 id2, .int .u8 Z, .slice u1.1 u1.2.1 u1.2.2, .slice u2.1 u2.2.1 u2.2.2] ∧ Cn w1.heap.size w' u1 N1 ∧ Cn w1.heap.size w' u2 N2) (vs 8) w' := hΦ 8 (by simp [heads])
                        have vp9 : (fun v w' => ∃ B5, v = .pointer (some ⟨B5, 0, none⟩) ∧ wd.heap.size ≤ B5 ∧ w'.heap[B5]? = some (.cells #[.int .u32 0, .int .u8 0, .slice none 0 0, .slice none 0 0] 57 (0, 0))) (vs 9) w' := hΦ 9 (by simp [heads])
                        refine tail_at [(0, some 38), (1, some 39), (2, some 40), (3, some 41), (4, some 42), (5, some 43), (6, some 44), (7, some 45), (8, some 46), (9, some 12)] vs (by kernel_rfl) ?_
                        simp only [List.map, putAll]
                        clear hΦ
                        generalize vs 0 = v0 at *
                        generalize vs 1 = v1 at *
                        generalize vs 2 = v2 at *
                        generalize vs 3 = v3 at *
                        generalize vs 4 = v4 at *
                        generalize vs 5 = v5 at *
                        generalize vs 6 = v6 at *
                        generalize vs 7 = v7 at *
                        generalize vs 8 = v8 at *
                        generalize vs 9 = v9 at *
                        subst vp0
                        subst vp1
                        subst vp2
                        subst vp3
                        subst vp4
                        subst vp5
                        subst vp6
                        subst vp7
                        obtain ⟨B5, rfl, hB5, hob5⟩ := vp9
                        obtain ⟨u1, u2, rfl, hu1, hu2⟩ := vp8
                        have HOB5 := Bx.mk hob5
                        obtain ⟨z0, z1, z2, z3, zf⟩ := o4_at hob5
                        repeat' (first | fail | go_values | go_skip | go_guarded | go_step | go_upon | go_back)
                        (refine met_cut (by assumption) (by kernel_rfl) (by kernel_rfl) ?rel; (case' rel => try dsimp only [slotsOf, List.getD_cons_succ, List.getD_cons_zero]))
                        case rel => exact ⟨B5, u1, u2, rfl, hB5, ⟨o4_set HOB5.out _ _ _ _⟩, ⟨(Only.of_obj HOB5.out (upd_set4 _ _ _ _ _ _)).cn hu1 (by decide)⟩, ⟨(Only.of_obj HOB5.out (upd_set4 _ _ _ _ _ _)).cn hu2 (by decide)⟩, ⟨new_set4 (((Upd.refl Nowhere wd).drew).trans hw) hB5 _ _ _ _⟩⟩
                    case rest =>
                      obtain ⟨B5, ⟨u0, u1, u2⟩, ⟨v0, v1, v2⟩, rfl, hB5, HO5, HN1, HN2, HQ⟩ := hcut
                      dsimp only at HO5
                      have HUf := Bx.mk (HUd.out.trans HQ.out)
                      have HOf := Bx.mk (HQ.out.blk HOd.out (fun q => q))
                      have HDf := Bx.mk (HDd.out.new HQ.out)
                      clear HUd HOd HDd HQ HCH e0 e1 a0 a1 hB5
                      rename World => wf
                      obtain ⟨z0, z1, z2, z3, zf⟩ := o4_at HO5.out
                      have HNO := Bx.mk (nothing_any id2 Z u0 u1 u2 v0 v1 v2 wf)
                      have HLu := Bx.mk (show N1.length = u1 from HN1.out.co.len)
                      have HLv := Bx.mk (show N2.length = v1 from HN2.out.co.len)
                      have HXN := Bx.mk (show X.none = decide (Z = 0 ∧ u1 = 0 ∧ v1 = 0) by rw [HXE.out, Ch.none, HZZ.out, HLu.out, HLv.out])
                      obtain ⟨d1, d2, d3, df⟩ := o3_at HOf.out
                      cases hz : decide (Z = 0 ∧ u1 = 0 ∧ v1 = 0) with
                      | true =>
                        rw [hz] at HXN HNO
                        have HM2 := Bx.mk (HMa.out HXN.out)
                        clear hz HXN HMa HMb
                        repeat' (first | (go_at_call 44; (with_reducible refine (HNO.out).mono ?_); rintro e2 w2 ⟨rfl, hu2⟩; dsimp only) | go_values | go_skip | go_guarded | go_step | go_upon | go_back)
                        (refine met_loop (by assumption) (by kernel_rfl) (by kernel_rfl) ?rel; (case' rel => try dsimp only [slotsOf, List.getD_cons_succ, List.getD_cons_zero]))
                        case rel => exact ⟨_, ⟨i + 1, k + 1, g0, g1, g2, c0, c1, c2, h0, h1, h2, D1, by go_num, by go_num, by omega, by omega, HM2, by omega, by omega, by omega, ⟨hu2.blk HOf.out (fun q => q)⟩, ⟨HDf.out.new hu2⟩, ⟨HUf.out.trans hu2⟩, rfl⟩, by omega⟩
                      | false =>
                        rw [hz] at HXN HNO
                        have HM2 := Bx.mk (HMb.out (by rw [HXN.out]; exact Bool.false_ne_true))
                        clear hz HXN HMa HMb
                        obtain ⟨hs, hrh, hah⟩ := HDf.out.chg.ex
                        have HRH := Bx.mk hrh
                        have HAH := Bx.mk hah
                        clear hrh hah
                        repeat' (first | (first
                          | (go_at_call 44; (with_reducible refine (HNO.out).mono ?_); rintro e2 w2 ⟨rfl, hu2⟩; obtain ⟨y0, y1, y2, y3, yf⟩ := o4_at (hu2.blk HO5.out (fun q => q)); obtain ⟨m1, m2, m3, mf⟩ := o3_at (hu2.blk HOf.out (fun q => q)); have hu3 : New wf (w2.alloc (.cells #[.int .u32 id2, .int .u8 Z, .slice u0 u1 u2, .slice v0 v1 v2] 57)) := hu2.alloc _; have hu4 := HUf.out.trans hu3; have ho2 := own_new HRH.out hu3; have hs3 := src_one (P := Try.prog) (w := w2) Try.underlying24 [.int .u32 id2, .int .u8 Z, .slice u0 u1 u2, .slice v0 v1 v2] 4 rfl (by intro u hu; simp at hu; rcases hu with rfl | rfl | rfl | rfl <;> rfl); dsimp only)
                          | (at_builtin; refine wpList_appN _ rfl _ _ 24 24 rfl _ 57 (.agg #[.int .u32 0, .int .u8 0, .slice none 0 0, .slice none 0 0]) 4 56 Try.underlying24 infoH rfl _ _ _ ho2 rfl _ _ _ hs3 rfl _ hu4 ?c1 ?c2 ?_; (case c1 => unfold maxLen; omega); (case c2 => omega); intro v5 w5 ho5 hu5 hk5 hv5); (obtain ⟨A5, c5, rfl, _⟩ := own_rd ho5; have HX5 := Bx.mk ((Only.of_app ho2 hk5).heap (hu3.blk HOf.out (fun q => q)) (by decide)); obtain ⟨x0, x1, x2, xf⟩ := o3_at HX5.out)) | go_values | go_skip | go_guarded | go_step | go_upon | go_back)
                        have HD5 := Bx.mk (DlN.grow3 (x := X) (HDf.out.new hu3) ho2 (HAH.out.map fun _ _ q => Cn.new q hu3) (u0, u1, u2) (v0, v1, v2) (by rw [HXE.out]; exact HN1.out.new hu3) (by rw [HXE.out]; exact HN2.out.new hu3) (by rw [HXE.out, HZZ.out]; exact ho5) hk5)
                        have HD6 := Bx.mk ((Only.of_obj HX5.out (upd_set w5 B9 2 (.slice A5 (D1.chg.length + 1) c5))).dl HD5.out (by decide) (by decide) (by decide) (by decide))
                        clear ho5 hk5 hv5 hs3 ho2 HD5
                        (refine met_loop (by assumption) (by kernel_rfl) (by kernel_rfl) ?rel; (case' rel => try dsimp only [slotsOf, List.getD_cons_succ, List.getD_cons_zero]))
                        case rel => exact ⟨_, ⟨i + 1, k + 1, g0, g1, g2, c0, c1, c2, A5, _, c5, ⟨D1.gone, D1.come, D1.chg ++ [X]⟩, by go_num, by go_num, by omega, by omega, HM2, Nat.le_trans hg1 (Nat.le_succ _), Nat.le_trans hc1 (Nat.le_succ _), (by rw [List.length_append]; exact Nat.add_le_add_right hh1 1), ⟨heap_setCell_same w5 B9 2 _ _ _ HX5.out⟩, HD6, ⟨hu5.setCell (p := ⟨B9, 2, none⟩) (.inr hB9) _⟩, rfl⟩, by omega⟩
end Go.Proofs.Ytdnkdmdmekdfkaa
