/- CellsOne: the law, walked. -/
import Derived.Test.YtaliadekdpbfdaaCa3
import Derived.Test.YtaliadekdpbfdaaCa4
namespace Go.Proofs.Ytaliadekdpbfdaa
open Go.RowKit Go.Maps
def stepD (M : Nat → Option (Int × Int)) (q : OpQ) : Nat → Option (Int × Int) := if q.1 < 4 then putM M q.2.1 q.2.2.1 q.2.2.2 else mset M q.2.1 none
def runD (L : List OpQ) (M : Nat → Option (Int × Int)) : Nat → Option (Int × Int) := L.foldl stepD M
theorem runD_snoc (L : List OpQ) (q : OpQ) (M : Nat → Option (Int × Int)) : runD (L ++ [q]) M = stepD (runD L M) q := by simp [runD]
/-- within the world -/
def CIn (M : Nat → Option (Int × Int)) : Prop := ∀ i s, M i = some s → -32 ≤ s.1 ∧ s.1 ≤ 31 ∧ -32 ≤ s.2 ∧ s.2 ≤ 31
theorem CIn.put {M : Nat → Option (Int × Int)} (h : CIn M) (i : Nat) (x y : Int) : CIn (putM M i x y) := by
  unfold putM
  split
  · rename_i q
    intro j s hj
    by_cases e : j = i
    · rw [e, mset_same] at hj
      cases hj
      have := q.2
      unfold inWorld at this
      unfold cell
      simp only
      omega
    · rw [mset_other _ e] at hj; exact h j s hj
  · exact h
theorem CIn.none {M : Nat → Option (Int × Int)} (h : CIn M) (i : Nat) : CIn (mset M i none) := fun j s hj => h j s (mset_none.1 hj).2
theorem runD_ok (L : List OpQ) : ∀ {M : Nat → Option (Int × Int)} {K : Nat}, Few M K → CIn M → Few (runD L M) (K + L.length) ∧ CIn (runD L M) := by
  induction L with
  | nil => intro M K h c; exact ⟨h, c⟩
  | cons q L ih =>
    intro M K h c
    have h1 : Few (stepD M q) (K + 1) ∧ CIn (stepD M q) := by
      unfold stepD
      split
      · exact ⟨h.put _ _ _, c.put _ _ _⟩
      · exact ⟨(h.none _).mono (by omega), c.none _⟩
    have := ih h1.1 h1.2
    rw [show K + (q :: L).length = K + 1 + L.length from by simp; omega]
    exact this
theorem runD_80 (L : List OpQ) (j : Nat) : Few (runD (L.take (min j 80)) M0) 80 ∧ CIn (runD (L.take (min j 80)) M0) := by
  obtain ⟨h1, h2⟩ := runD_ok (L.take (min j 80)) few0 (fun i s h => by cases h)
  exact ⟨h1.mono (by rw [List.length_take]; omega), h2⟩
theorem cells_len {M : Nat → Option (Int × Int)} {K : Nat} (f : Few M K) {us : List (Int × Int)} (hn : us.Nodup) (h : ∀ s ∈ us, ∃ i, M i = some s) : us.length ≤ K := by
  obtain ⟨L, h1, h2⟩ := f
  have := nodup_le us (L.filterMap M) hn (fun s hs => by
    obtain ⟨i, hi⟩ := h s hs
    exact List.mem_filterMap.2 ⟨i, h2 i s hi, hi⟩)
  have := List.length_filterMap_le M L
  omega
/-- what has been counted -/
structure Cnt (M : Nat → Option (Int × Int)) (p : Int × Int → Prop) (cs : List Nat) (us : List (Int × Int)) : Prop where
  n1 : cs.Nodup
  n2 : us.Nodup
  m1 : ∀ i, i ∈ cs ↔ ∃ s, M i = some s ∧ p s
  m2 : ∀ s, s ∈ us ↔ (∃ i, M i = some s) ∧ p s
theorem Cnt.start (M : Nat → Option (Int × Int)) (p : Int × Int → Prop) (h : ∀ i s, M i = some s → ¬ p s) : Cnt M p [] [] :=
  ⟨List.nodup_nil, List.nodup_nil, fun i => ⟨fun h => (by cases h), fun ⟨s, h1, h2⟩ => absurd h2 (h i s h1)⟩, fun s => ⟨fun h => (by cases h), fun ⟨⟨i, h1⟩, h2⟩ => absurd h2 (h i s h1)⟩⟩
theorem Cnt.same {M : Nat → Option (Int × Int)} {p p' : Int × Int → Prop} {cs : List Nat} {us : List (Int × Int)} (h : Cnt M p cs us) (hp : ∀ i s, M i = some s → (p s ↔ p' s)) : Cnt M p' cs us :=
  ⟨h.n1, h.n2, fun i => (h.m1 i).trans ⟨fun ⟨s, a, b⟩ => ⟨s, a, (hp i s a).1 b⟩, fun ⟨s, a, b⟩ => ⟨s, a, (hp i s a).2 b⟩⟩, fun s => (h.m2 s).trans ⟨fun ⟨⟨i, a⟩, b⟩ => ⟨⟨i, a⟩, (hp i s a).1 b⟩, fun ⟨⟨i, a⟩, b⟩ => ⟨⟨i, a⟩, (hp i s a).2 b⟩⟩⟩
theorem Cnt.some {M : Nat → Option (Int × Int)} {p p' : Int × Int → Prop} {cs xs : List Nat} {us : List (Int × Int)} {t : Int × Int} (h : Cnt M p cs us) (hp : ∀ s, p' s ↔ p s ∨ s = t) (ht : ¬ p t) (hx : xs.Nodup) (hm : ∀ i, i ∈ xs ↔ M i = some t) (hne : xs ≠ []) : Cnt M p' (cs ++ xs) (t :: us) := by
  refine ⟨List.nodup_append.2 ⟨h.n1, hx, fun a ha b hb e => ?_⟩, List.nodup_cons.2 ⟨fun q => ht ((h.m2 t).1 q).2, h.n2⟩, fun i => ?_, fun s => ?_⟩
  · obtain ⟨s, h1, h2⟩ := (h.m1 a).1 ha
    have h3 := (hm b).1 hb
    rw [← e, h1] at h3
    cases h3
    exact ht h2
  · rw [List.mem_append, h.m1, hm]
    constructor
    · rintro (⟨s, a, b⟩ | a)
      · exact ⟨s, a, (hp s).2 (.inl b)⟩
      · exact ⟨t, a, (hp t).2 (.inr rfl)⟩
    · rintro ⟨s, a, b⟩
      rcases (hp s).1 b with b | rfl
      · exact .inl ⟨s, a, b⟩
      · exact .inr a
  · rw [List.mem_cons, h.m2]
    constructor
    · rintro (rfl | ⟨a, b⟩)
      · obtain ⟨i, hi⟩ := List.exists_mem_of_ne_nil _ hne
        exact ⟨⟨i, (hm i).1 hi⟩, (hp s).2 (.inr rfl)⟩
      · exact ⟨a, (hp s).2 (.inl b)⟩
    · rintro ⟨a, b⟩
      rcases (hp s).1 b with b | rfl
      · exact .inr ⟨a, b⟩
      · exact .inl rfl
set_option maxRecDepth 20000 in
set_option maxHeartbeats 16000000 in
theorem CellsOne_any (A : Option Addr) (n c : Nat) (L : List OpQ) (w : World) (hn : L.length = n) (hsz : n ≤ 9223372036854775807) (hr : Rd w A (L.flatMap opC)) (hok : ∀ q ∈ L, opOk q) :
    Calls Try.prog 5 #[.slice A n c] w fun e w' => e = .returned (.bool true) ∧ New w w' := by
  have CA := Bx.mk (fun w => awake16_any w)
  have CN := Bx.mk (fun {w' : World} (u : New w w') => newG w.heap.size w' u.size)
  have HN := Bx.mk hn
  have HR := Bx.mk hr
  have HO := Bx.mk hok
  clear hn hr hok
  go_enter Try.func5, Try.ntmps5
  repeat' (first | (first | (go_at_call 9; (with_reducible refine (CA.out _).mono ?_); rintro e w1 ⟨rfl, U1⟩; dsimp only) | (have _m := U1; (go_at_call 11; (with_reducible refine (CN.out U1).mono ?_); rintro e w2 ⟨g, rfl, G2, V2, hg⟩; dsimp only))) | go_values | go_skip | go_guarded | go_step | go_upon | go_back)
  have U2 := Bx.mk (U1.trans V2)
  have G2' := Bx.mk G2
  clear U1 V2 G2 _m CN CA
  go_loopw [21] (fun iv wr => ∃ (j : Nat), iv = .int .i64 j ∧ j ≤ n ∧ Bx (GR w.heap.size wr g (runD (L.take (min j 80)) M0)) ∧ Bx (New w wr)) (fun iv _ => n - (intOf iv).toNat)
  case atStart => exact ⟨0, rfl, Nat.zero_le _, by simpa [runD] using G2', U2⟩
  case round =>
    clear G2' U2
    obtain ⟨j, rfl, hj, HG, HU⟩ := hrel
    by_cases hlt : j < n
    · have hltI : (j : Int) < (n : Int) := by omega
      have hjL : j < L.length := by rw [HN.out]; exact hlt
      obtain ⟨b, o, rfl, e0, e1, e2, e3⟩ := op_at (HR.out.new HU.out) j hjL
      have hq := HO.out L[j] (List.getElem_mem hjL)
      by_cases h80 : 80 ≤ j
      · have h80I : (80 : Int) ≤ (j : Int) := by omega
        have HM := Bx.mk (show runD (L.take (min (j + 1) 80)) M0 = runD (L.take (min j 80)) M0 by rw [take_min_same L j 80 (by omega)])
        generalize L[j] = q at *
        obtain ⟨d0, i0, x0, y0⟩ := q
        dsimp only at *
        have AL := Bx.mk ((Upd.refl Nowhere wr).alloc (.cells #[.int .u8 d0, .int .u32 i0, .int .i32 x0, .int .i32 y0] 31))
        clear hq
        repeat' (first | fail | go_values | go_skip | go_guarded | go_step | go_upon | go_back)
        go_roundw
        case rel => exact ⟨j + 1, by go_num, by omega, ⟨by rw [HM.out]; exact HG.out.new AL.out⟩, ⟨HU.out.trans AL.out⟩⟩
        case measure => simp [intOf]; omega
      · have h80I : ¬ (80 : Int) ≤ (j : Int) := by omega
        have HM := Bx.mk (show runD (L.take (min (j + 1) 80)) M0 = stepD (runD (L.take (min j 80)) M0) L[j] by rw [take_min_step L j 80 hjL (by omega), runD_snoc])
        have HF := (runD_80 L j).1
        generalize runD (L.take (min j 80)) M0 = M at *
        generalize L[j] = q at *
        obtain ⟨d0, i0, x0, y0⟩ := q
        dsimp only at *
        obtain ⟨_, q1, q2, q3⟩ := hq
        dsimp only at q1 q2 q3
        have AL := (Upd.refl Nowhere wr).alloc (.cells #[.int .u8 d0, .int .u32 i0, .int .i32 x0, .int .i32 y0] 31)
        have b0 := box_at wr #[.int .u8 d0, .int .u32 i0, .int .i32 x0, .int .i32 y0] 31 0 _ rfl
        have b1 := box_at wr #[.int .u8 d0, .int .u32 i0, .int .i32 x0, .int .i32 y0] 31 1 _ rfl
        have b2 := box_at wr #[.int .u8 d0, .int .u32 i0, .int .i32 x0, .int .i32 y0] 31 2 _ rfl
        have b3 := box_at wr #[.int .u8 d0, .int .u32 i0, .int .i32 x0, .int .i32 y0] 31 3 _ rfl
        have BAL := Bx.mk AL
        by_cases h4 : d0 < 4
        · have h4I : (d0 : Int) < 4 := by omega
          have CP := Bx.mk (putG (HG.out.new AL) HF (by omega) i0 i0 rfl q1 x0 y0 q2 q3 _ rfl)
          have HM2 := Bx.mk (HM.out.trans (show stepD M (d0, i0, x0, y0) = putM M i0 x0 y0 from if_pos h4))
          obtain ⟨E, hE⟩ : ∃ E, putE i0 x0 y0 = E := ⟨_, rfl⟩
          rw [hE] at CP
          clear HM h4 q1 q2 q3 AL HF hE
          repeat' (first | (go_at_call 12; (with_reducible refine (CP.out).mono ?_); rintro e w3 ⟨rfl, V3, G3⟩; dsimp only) | go_values | go_skip | go_guarded | go_step | go_upon | go_back)
          go_roundw
          case rel => exact ⟨j + 1, by go_num, by omega, ⟨by rw [HM2.out]; exact G3⟩, ⟨GUpd.now (HU.out.trans BAL.out) V3⟩⟩
          case measure => simp [intOf]; omega
        · have h4I : ¬ (d0 : Int) < 4 := by omega
          have CP := Bx.mk (dropG (HG.out.new AL) i0 q1 _ rfl)
          have HM2 := Bx.mk (HM.out.trans (show stepD M (d0, i0, x0, y0) = mset M i0 none from if_neg h4))
          obtain ⟨E, hE⟩ : ∃ E : Int, (if (M i0).isSome then 0 else 7) = E := ⟨_, rfl⟩
          rw [hE] at CP
          clear HM h4 q1 q2 q3 AL HF hE
          repeat' (first | (go_at_call 16; (with_reducible refine (CP.out).mono ?_); rintro e w3 ⟨rfl, V3, G3⟩; dsimp only) | go_values | go_skip | go_guarded | go_step | go_upon | go_back)
          go_roundw
          case rel => exact ⟨j + 1, by go_num, by omega, ⟨by rw [HM2.out]; exact G3⟩, ⟨GUpd.now (HU.out.trans BAL.out) V3⟩⟩
          case measure => simp [intOf]; omega
    · have hltI : ¬ (j : Int) < (n : Int) := by omega
      obtain ⟨HF, HC⟩ := runD_80 L j
      generalize runD (L.take (min j 80)) M0 = M at *
      have BF := Bx.mk HF
      have BC := Bx.mk HC
      clear HF HC HN HR HO
      repeat' (first | fail | go_values | go_skip | go_guarded | go_step | go_upon | go_back)
      go_loopw [6, 7, 8] (fun nv uv xv wr => ∃ (x : Int) (cs : List Nat) (us : List (Int × Int)), nv = .int .i64 cs.length ∧ uv = .int .i64 us.length ∧ xv = .int .i64 x ∧ -32 ≤ x ∧ x ≤ 32 ∧ Bx (Cnt M (fun s => s.1 < x) cs us) ∧ Bx (GR w.heap.size wr g M) ∧ Bx (New w wr)) (fun _ _ xv _ => (32 - intOf xv).toNat)
      case atStart => exact ⟨-32, [], [], rfl, rfl, rfl, by omega, by omega, ⟨Cnt.start M _ (fun i s hi q => by have := BC.out i s hi; omega)⟩, HG, HU⟩
      case round =>
        clear HG HU
        obtain ⟨x, cs, us, rfl, rfl, rfl, hx1, hx2, HCn, HG, HU⟩ := hrel
        by_cases hxl : x < 32
        · have wx : IntKind.i64.wrap (x + 1) = x + 1 := by rw [IntKind.wrap_i64]; omega
          repeat' (first | fail | go_values | go_skip | go_guarded | go_step | go_upon | go_back)
          go_loopw [6, 7, 9] (fun nv uv yv wr => ∃ (y : Int) (cs : List Nat) (us : List (Int × Int)), nv = .int .i64 cs.length ∧ uv = .int .i64 us.length ∧ yv = .int .i64 y ∧ -32 ≤ y ∧ y ≤ 32 ∧ Bx (Cnt M (fun s => s.1 < x ∨ (s.1 = x ∧ s.2 < y)) cs us) ∧ Bx (GR w.heap.size wr g M) ∧ Bx (New w wr)) (fun _ _ yv _ => (32 - intOf yv).toNat)
          case atStart => exact ⟨-32, cs, us, rfl, rfl, rfl, by omega, by omega, ⟨HCn.out.same (fun i s hi => ⟨.inl, fun q => q.resolve_right (fun q => by have := BC.out i s hi; omega)⟩)⟩, HG, HU⟩
          case round =>
            clear HCn HG HU
            obtain ⟨y, cs, us, rfl, rfl, rfl, hy1, hy2, HCn, HG, HU⟩ := hrel
            by_cases hyl : y < 32
            · have wy : IntKind.i64.wrap (y + 1) = y + 1 := by rw [IntKind.wrap_i64]; omega
              obtain ⟨xs, hs1, hs2⟩ := sorted_ex (fun i => M i = some (x, y)) (fun i hi => (HG.out.dom hi).1)
              obtain ⟨nx, hnx⟩ : ∃ nx, xs.length = nx := ⟨_, rfl⟩
              have hnd := hs1.imp (fun {a b} q => Nat.ne_of_lt q)
              have hnx80 : nx ≤ 80 := by rw [← hnx]; exact few_len BF.out hnd (fun i hi => ⟨_, (hs2 i).1 hi⟩)
              have hcs80 : cs.length ≤ 80 := few_len BF.out HCn.out.n1 (fun i hi => by obtain ⟨s, hs, _⟩ := (HCn.out.m1 i).1 hi; exact ⟨s, hs⟩)
              have hus80 : us.length ≤ 80 := cells_len BF.out HCn.out.n2 (fun s hs => ((HCn.out.m2 s).1 hs).1)
              have C := Bx.mk (atG HG.out BF.out (by omega) x y (by unfold inI64; omega) (by unfold inI64; omega) xs hs1 hs2 nx hnx)
              have HS2 := Bx.mk hs2
              have HND := Bx.mk hnd
              have HNX := Bx.mk hnx
              clear hs1 hs2 hnd hnx
              repeat' (first | (go_at_call 13; (with_reducible refine (C.out).mono ?_); rintro e w3 ⟨A3, c3, rfl, R3, _, V3⟩; dsimp only) | go_values | go_skip | go_guarded | go_step | go_upon | go_back)
              have G3 := Bx.mk (HG.out.new V3)
              have U3 := Bx.mk (HU.out.trans V3)
              have BR3 := Bx.mk R3
              clear R3 V3 HG HU C
              go_loopw [60] (fun kv wr => ∃ (k : Nat), kv = .int .i64 k ∧ k ≤ nx ∧ Bx (New w3 wr)) (fun kv _ => nx - (intOf kv).toNat)
              case atStart => exact ⟨0, rfl, Nat.zero_le _, ⟨Upd.refl _ _⟩⟩
              case round =>
                obtain ⟨k, rfl, hk, HU4⟩ := hrel
                by_cases hkl : k < nx
                · have hklI : (k : Int) < (nx : Int) := by omega
                  have hkx : k < xs.length := by rw [HNX.out]; exact hkl
                  obtain ⟨b4, o4, rfl, e4⟩ := idv_at (BR3.out.new HU4.out) k hkx
                  have hm4 : M (xs.getD k 0) = some (x, y) := (HS2.out _).1 (by rw [List.getD_eq_getElem?_getD, List.getElem?_eq_getElem hkx, Option.getD_some]; exact List.getElem_mem hkx)
                  generalize xs.getD k 0 = i4 at *
                  have CW := Bx.mk (whereG (G3.out.new HU4.out) i4 i4 rfl (G3.out.dom hm4).1 (x, y) (by rw [hm4]; rfl) true (by rw [hm4]; rfl))
                  have wk : IntKind.i64.wrap ((k : Int) + 1) = ((k + 1 : Nat) : Int) := by rw [IntKind.wrap_i64]; omega
                  clear hm4
                  repeat' (first | (go_at_call 17; (with_reducible refine (CW.out).mono ?_); rintro e w5 ⟨rfl, V5⟩; dsimp only) | go_values | go_skip | go_guarded | go_step | go_upon | go_back)
                  go_roundw
                  case rel => exact ⟨k + 1, by go_num, by omega, ⟨HU4.out.trans V5⟩⟩
                  case measure => simp [intOf]; omega
                · have hklI : ¬ (k : Int) < (nx : Int) := by omega
                  by_cases h0 : 0 < nx
                  · have h0I : (0 : Int) < (nx : Int) := by omega
                    have CC := Bx.mk (HCn.out.some (p' := fun s => s.1 < x ∨ (s.1 = x ∧ s.2 < y + 1)) (t := (x, y)) (xs := xs) (fun s => by
                      constructor
                      · rintro (q | ⟨q1, q2⟩)
                        · exact .inl (.inl q)
                        · by_cases e : s.2 = y
                          · exact .inr (Prod.ext q1 e)
                          · exact .inl (.inr ⟨q1, by omega⟩)
                      · rintro ((q | ⟨q1, q2⟩) | rfl)
                        · exact .inl q
                        · exact .inr ⟨q1, by omega⟩
                        · exact .inr ⟨rfl, by simp only; omega⟩) (by simp only; omega) HND.out HS2.out (fun e => by rw [e] at HNX; have := HNX.out; simp at this; omega))
                    have e1 : IntKind.i64.wrap ((cs.length : Int) + (nx : Int)) = (((cs ++ xs).length : Nat) : Int) := by rw [IntKind.wrap_i64, List.length_append, HNX.out]; omega
                    have e2 : IntKind.i64.wrap ((us.length : Int) + 1) = ((((x, y) :: us).length : Nat) : Int) := by rw [IntKind.wrap_i64, List.length_cons]; omega
                    obtain ⟨cs2, hcs2⟩ : ∃ l, cs ++ xs = l := ⟨_, rfl⟩
                    obtain ⟨us2, hus2⟩ : ∃ l, (x, y) :: us = l := ⟨_, rfl⟩
                    rw [hcs2] at CC e1
                    rw [hus2] at CC e2
                    clear hcs2 hus2
                    repeat' (first | fail | go_values | go_skip | go_guarded | go_step | go_upon | go_back)
                    go_roundw
                    case rel => exact ⟨y + 1, cs2, us2, by first | rfl | (rw [← e1]; congr 1; rw [IntKind.wrap_i64]; omega), by first | rfl | (rw [← e2]; congr 1; rw [IntKind.wrap_i64]; omega), rfl, by omega, by omega, CC, ⟨G3.out.new HU4.out⟩, ⟨U3.out.trans HU4.out⟩⟩
                    case measure => simp [intOf]; omega
                  · obtain rfl : nx = 0 := by omega
                    have hno : ∀ i, M i ≠ some (x, y) := fun i hi => by
                      have := (HS2.out i).2 hi
                      rw [List.length_eq_zero_iff.1 HNX.out] at this
                      cases this
                    have CC := Bx.mk (HCn.out.same (p' := fun s => s.1 < x ∨ (s.1 = x ∧ s.2 < y + 1)) (fun i s hi => by
                      constructor
                      · rintro (q | ⟨q1, q2⟩)
                        · exact .inl q
                        · exact .inr ⟨q1, by omega⟩
                      · rintro (q | ⟨q1, q2⟩)
                        · exact .inl q
                        · by_cases e : s.2 = y
                          · exact absurd (show M i = some (x, y) by rw [hi]; exact congrArg some (Prod.ext q1 e)) (hno i)
                          · exact .inr ⟨q1, by omega⟩))
                    clear hno HCn
                    repeat' (first | fail | go_values | go_skip | go_guarded | go_step | go_upon | go_back)
                    go_roundw
                    case rel => exact ⟨y + 1, cs, us, by first | rfl | go_num, rfl, rfl, by omega, by omega, CC, ⟨G3.out.new HU4.out⟩, ⟨U3.out.trans HU4.out⟩⟩
                    case measure => simp [intOf]; omega
            · have CC := Bx.mk (HCn.out.same (p' := fun s => s.1 < x + 1) (fun i s hi => by
                have := BC.out i s hi
                constructor
                · rintro (q | ⟨q1, q2⟩) <;> omega
                · intro q
                  by_cases e : s.1 = x
                  · exact .inr ⟨e, by omega⟩
                  · exact .inl (by omega)))
              clear HCn
              repeat' (first | fail | go_values | go_skip | go_guarded | go_step | go_upon | go_back)
              go_roundw
              case rel => exact ⟨x + 1, cs, us, rfl, rfl, rfl, by omega, by omega, CC, HG, HU⟩
              case measure => simp [intOf]; omega
        · obtain rfl : x = 32 := by omega
          have CL := Bx.mk (lenG HG.out cs HCn.out.n1 (fun i => by
            rw [HCn.out.m1]
            exact ⟨fun ⟨s, a, _⟩ => ⟨s, a⟩, fun ⟨s, a⟩ => ⟨s, a, by have := BC.out i s a; omega⟩⟩) cs.length rfl)
          have CU := Bx.mk (usedG HG.out us HCn.out.n2 (fun s => by
            rw [HCn.out.m2]
            exact ⟨fun ⟨a, _⟩ => a, fun ⟨i, a⟩ => ⟨⟨i, a⟩, by have := BC.out i s a; omega⟩⟩) us.length rfl)
          clear HCn
          repeat' (first | (first | (go_at_call 18; (with_reducible refine (CL.out).mono ?_); rintro e w3 ⟨rfl, rfl⟩; dsimp only) | (go_at_call 14; (with_reducible refine (CU.out).mono ?_); rintro e w4 ⟨rfl, rfl⟩; dsimp only)) | go_values | go_skip | go_guarded | go_step | go_upon | go_back)
          go_returns
          exact ⟨rfl, HU.out⟩
end Go.Proofs.Ytaliadekdpbfdaa
