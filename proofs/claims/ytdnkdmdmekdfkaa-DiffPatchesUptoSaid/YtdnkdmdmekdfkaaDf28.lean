/- The reference's Patch: the walk. -/
import Derived.Test.YtdnkdmdmekdfkaaDf26
import Derived.Test.YtdnkdmdmekdfkaaDf24
namespace Go.Proofs.Ytdnkdmdmekdfkaa
open Go.RowKit
theorem ec_take (es : List E4) (k : Nat) : ec (es.take k) = (ec es).take (k * 2) := by
  by_cases h : k ≤ es.length
  · conv => rhs; rw [← List.take_append_drop k es, ec_append]
    rw [List.take_left' (by rw [ec_length, List.length_take, Nat.min_eq_left h])]
  · rw [List.take_of_length_le (by omega), List.take_of_length_le (by rw [ec_length]; omega)]
theorem ec_drop (es : List E4) (k : Nat) : ec (es.drop k) = (ec es).drop (k * 2) := by
  by_cases h : k ≤ es.length
  · conv => rhs; rw [← List.take_append_drop k es, ec_append]
    rw [List.drop_left' (by rw [ec_length, List.length_take, Nat.min_eq_left h])]
  · rw [List.drop_of_length_le (by omega), List.drop_of_length_le (by rw [ec_length]; omega)]; rfl
theorem Al.take {R : Sl → List C4 → Prop} : ∀ {es : List E4} {L : List Et} (k : Nat), Al R es L → Al R (es.take k) (L.take k)
  | [], [], k, _ => by rw [List.take_nil, List.take_nil]; trivial
  | e :: es, x :: L, 0, _ => trivial
  | e :: es, x :: L, k + 1, h => ⟨h.1, Al.take k h.2⟩
  | [], _ :: _, _, h => h.elim
  | _ :: _, [], _, h => h.elim
theorem Al.drop {R : Sl → List C4 → Prop} : ∀ {es : List E4} {L : List Et} (k : Nat), Al R es L → Al R (es.drop k) (L.drop k)
  | [], [], k, _ => by rw [List.drop_nil, List.drop_nil]; trivial
  | e :: es, x :: L, 0, h => h
  | e :: es, x :: L, k + 1, h => Al.drop k h.2
  | [], _ :: _, _, h => h.elim
  | _ :: _, [], _, h => h.elim
theorem Al.set {R : Sl → List C4 → Prop} : ∀ {es : List E4} {L : List Et} (k : Nat) (e : E4) (x : Et), Al R es L → e.1 = x.1 → R e.2 x.2 → Al R (es.set k e) (L.set k x)
  | [], [], k, _, _, _, _, _ => by rw [List.set_nil, List.set_nil]; trivial
  | _ :: _, _ :: _, 0, _, _, h, h1, h2 => ⟨⟨h1, h2⟩, h.2⟩
  | _ :: _, _ :: _, k + 1, e, x, h, h1, h2 => ⟨h.1, Al.set k e x h.2 h1 h2⟩
  | [], _ :: _, _, _, _, h, _, _ => h.elim
  | _ :: _, [], _, _, _, h, _, _ => h.elim
theorem ec_setk (es : List E4) (j : Nat) (hj : j < es.length) (s : Sl) : ec (es.set j (es[j].1, s)) = (ec es).set (j * 2 + 1) (.slice s.1 s.2.1 s.2.2) := by
  have e1 : es = es.take j ++ es[j] :: es.drop (j + 1) := by rw [← List.drop_eq_getElem_cons hj, List.take_append_drop]
  have hl : (es.take j).length = j := by rw [List.length_take]; omega
  have e2 : es.set j (es[j].1, s) = es.take j ++ (es[j].1, s) :: es.drop (j + 1) := List.set_eq_take_append_cons_drop.trans (by rw [if_pos hj])
  rw [e2]
  conv => rhs; rw [e1]
  exact (ec_set (es.take j) es[j] (es.drop (j + 1)) j hl s).symm
theorem wiG_k {l : List C4} {c : C4} (h : ∀ q ∈ l, q.k < 256) (hc : c.k < 256) : ∀ q ∈ wiG false l c, q.k < 256 := fun q hq => by
  rcases (wiG_mem l c q).1 hq with rfl | h'
  · exact hc
  · exact h q h'.1
theorem rcL_step (lo : BitVec 8) (m : Nat) (hm : m < 8) (l : List C4) : rcL lo (List.range' m (8 - m)) l = if lo.getLsbD m = true then (if (fnd l m).isSome = true then rcL lo (List.range' (m + 1) (8 - (m + 1))) (l.filter fun x => decide (x.k ≠ m)) else none) else rcL lo (List.range' (m + 1) (8 - (m + 1))) l := by
  rw [show 8 - m = (8 - (m + 1)) + 1 by omega, List.range'_succ, rcL]
def Sx (m : Nat) (X : List Et) : Prop := ∀ x ∈ X, x.1 < 4294967296 ∧ x.2.length ≤ m ∧ ∀ q ∈ x.2, q.k < 256
structure SmR (L : List Et) (D : Dl) : Prop where
  l : L.length ≤ 400
  x : Sx 400 L
  g : D.gone.length ≤ 300
  c : D.come.length ≤ 400
  cs : Sx 400 D.come
  h : D.chg.length ≤ 300
  hs : sumH D.chg ≤ 300
  hk : ∀ c ∈ D.chg, (∀ q ∈ c.nw, q.k < 256) ∧ ∀ q ∈ c.st, q.k < 256
theorem Sx.sm {m : Nat} {X : List Et} (h : Sx m X) (hm : m ≤ 1000) : Sm X := fun x hx => ⟨(h x hx).1, Nat.le_trans (h x hx).2.1 hm, (h x hx).2.2⟩
theorem Nw.lit {b0 : Nat} {w : World} {A : Option Addr} {n c : Nat} {X : List Et} (h : Nw b0 w A n c X) (hn : 0 < n) : ∃ g es, A = some ⟨g, 0, none⟩ ∧ w.ownsRow b0 43 2 (.slice (some ⟨g, 0, none⟩) n c) n (ec es) ∧ es.length = n ∧ Al (Cz b0 w) es X ∧ n ≤ c ∧ c ≤ maxLen := by
  obtain ⟨es, h1, h2, h3⟩ := h.ex
  obtain ⟨hl, h4⟩ := id h1
  rcases h4 with ⟨hv, _⟩ | ⟨g, cap, cur, hv, _, _, hnc, hm, _⟩
  · simp only [Value.slice.injEq] at hv; omega
  · simp only [Value.slice.injEq] at hv
    obtain ⟨rfl, _, rfl⟩ := hv
    exact ⟨g, es, rfl, h1, h2, h3, hnc, hm⟩
theorem grow_ent2 {b0 bz : Nat} {w w5 : World} {v : Value} {n : Nat} {es : List E4} {v5 : Value} {Y : List Et} (ho : w.ownsRow b0 43 2 v n (ec es)) (hal : Al (Cz bz w) es Y) (hb : bz ≤ b0) (i : Nat) (l : List C4) (s0 : Option Addr) (s1 s2 : Nat) (hx : Cz bz w (s0, s1, s2) l) (ho5 : w5.ownsRow b0 43 2 v5 (n + 1) (ec es ++ [.int .u32 i, .slice s0 s1 s2])) (hk : Upd (fun b => v.ownBlock = some b) w w5) :
    w5.ownsRow b0 43 2 v5 (n + 1) (ec (es ++ [(i, s0, s1, s2)])) ∧ Al (Cz bz w5) (es ++ [(i, s0, s1, s2)]) (Y ++ [(i, l)]) := by
  have k := Only.of_app ho hk
  refine ⟨by rw [ec_append]; exact ho5, (hal.map fun _ _ q => q.only k _ hk (fun b hb' => Nat.le_trans hb (own_ge ho b hb'))).snoc rfl (hx.only k _ hk (fun b hb' => Nat.le_trans hb (own_ge ho b hb')))⟩
theorem EnL.elz {w2 w : World} {A : Option Addr} {n : Nat} {L : List Et} (h : EnL w2 A n L) (k : New w2 w) (j : Nat) (hj : j < L.length) : ∃ b off s0 s1 s2, A = some ⟨b, off, none⟩ ∧ w.cell? ⟨b, off + j * 2, none⟩ = some (.int .u32 L[j].1) ∧ w.cell? ⟨b, off + j * 2 + 1, none⟩ = some (.slice s0 s1 s2) ∧ Cz w2.heap.size w (s0, s1, s2) L[j].2 := by
  obtain ⟨b, off, s0, s1, s2, hA, h0, h1, hc⟩ := h.el j hj
  exact ⟨b, off, s0, s1, s2, hA, k.cell h0 (fun q => q), k.cell h1 (fun q => q), (Cz.old hc).new k⟩
theorem Nw.elz {b0 : Nat} {w : World} {A : Option Addr} {n c : Nat} {X : List Et} (h : Nw b0 w A n c X) (j : Nat) (hj : j < X.length) : ∃ g s0 s1 s2, A = some ⟨g, 0, none⟩ ∧ w.cell? ⟨g, j * 2, none⟩ = some (.int .u32 X[j].1) ∧ w.cell? ⟨g, j * 2 + 1, none⟩ = some (.slice s0 s1 s2) ∧ Cz b0 w (s0, s1, s2) X[j].2 := by
  have hn : X.length = n := h.len
  obtain ⟨g, es, hA, h1, h2, h3, _⟩ := h.lit (by omega)
  have hj' : j < es.length := by omega
  obtain ⟨r0, r1⟩ := ec_get es j hj'
  obtain ⟨k0, k1⟩ := h3.get j hj hj'
  refine ⟨g, es[j].2.1, es[j].2.2.1, es[j].2.2.2, hA, ?_, ?_, k1⟩
  · rw [← k0]; exact (own_setk h1 (j * 2) (by rw [ec_length]; omega) undef).2.2.trans r0
  · exact (own_setk h1 (j * 2 + 1) (by rw [ec_length]; omega) undef).2.2.trans r1
theorem inG_step (d : Bool) (X : List Et) (e : Et) (j : Nat) (h : j < X.length) : inG d (X.drop j) e = (if (!d && decide (e.1 ≤ X[j].1)) = true then [e] else []) ++ X[j] :: inG (d || decide (e.1 ≤ X[j].1)) (X.drop (j + 1)) e := by
  rw [List.drop_eq_getElem_cons h, inG]
/-- what the reference's Patch answers -/
def PAns (L : List Et) (D : Dl) (w' : World) (t0 : Option Addr) (t1 t2 : Nat) (E : Int) : Prop :=
  (∃ N, rcAll L D = some N ∧ frm 0 N = 0 ∧ mrg L N = D ∧ E = 0 ∧ EnL w' t0 t1 N) ∨ ((∀ N, rcAll L D = some N → ¬ (frm 0 N = 0 ∧ mrg L N = D)) ∧ t0 = none ∧ t1 = 0 ∧ t2 = 0 ∧ E = 4)
theorem PAns.no {L : List Et} {D : Dl} {w' : World} (h : rcAll L D = none) : PAns L D w' none 0 0 4 := Or.inr ⟨(fun N hN => by rw [h] at hN; cases hN), rfl, rfl, rfl, rfl⟩
set_option maxRecDepth 20000 in
set_option maxHeartbeats 16000000 in
theorem refPatch_any (A : Option Addr) (n p : Nat) (L : List Et) (g0 : Option Addr) (g1 g2 : Nat) (c0 : Option Addr) (c1 c2 : Nat) (h0 : Option Addr) (h1 h2 : Nat) (D : Dl) (w : World) (hx : EnL w A n L) (hd : DlR w g0 g1 g2 c0 c1 h0 h1 D) (hs : SmR L D) (hz : frm 0 L = 0) :
    Calls Try.prog 14 #[.slice A n p, .agg #[.slice g0 g1 g2, .slice c0 c1 c2, .slice h0 h1 h2]] w fun e w' => (∃ (t0 : Option Addr) (t1 t2 : Nat) (E : Int), e = .returned (.tuple #[.slice t0 t1 t2, .int .i64 E]) ∧ PAns L D w' t0 t1 t2 E) ∧ New w w' := by
  have HHL := Bx.mk hx.len
  have hn : n ≤ 400 := by rw [← HHL.out]; exact hs.l
  have hb3 := heap_alloc_new w (.cells #[.slice g0 g1 g2, .slice c0 c1 c2, .slice h0 h1 h2] 26)
  have U0 := (Upd.refl Nowhere w).alloc (.cells #[.slice g0 g1 g2, .slice c0 c1 c2, .slice h0 h1 h2] 26)
  have HX := Bx.mk hx
  have HDR := Bx.mk hd
  have HSM := Bx.mk hs
  have CF := Bx.mk (refForm_any A n p L _ (hx.new U0) (by omega) (hs.x.sm (by omega)))
  rw [hz] at CF
  have HZ := Bx.mk hz
  clear hx hd hs hz
  go_enter Try.func14, Try.ntmps14
  go_upto_region 4 with (first
    | (go_at_call 17; (with_reducible refine (CF.out).mono ?_); rintro e2 w2 ⟨rfl, hu2⟩; dsimp only))
  have h3w := hu2.blk hb3 (fun q => q)
  have HU2 := Bx.mk (U0.trans hu2)
  generalize w.heap.size = B3 at *
  have H3 := Bx.mk h3w
  clear hb3 U0 CF hu2 h3w
  have HX2 := Bx.mk (HX.out.new HU2.out)
  have HD2 := Bx.mk (HDR.out.new HU2.out)
  have HG1 := Bx.mk (show D.gone.length = g1 from HD2.out.gone.len)
  have HH1 := Bx.mk HD2.out.chg.len
  have HC1 := Bx.mk HD2.out.come.len
  have hg3 : g1 ≤ 300 := by rw [← HG1.out]; exact HSM.out.g
  have hh3 : h1 ≤ 300 := by rw [← HH1.out]; exact HSM.out.h
  have hc3 : c1 ≤ 400 := by rw [← HC1.out]; exact HSM.out.c
  clear HX HDR
  have CT := Bx.mk (Twins_any A n p L w2 HX2.out (by omega) (fun x hx => by have := (HSM.out.x x hx).2.1; omega))
  go_upto_region 5 with (first
    | (go_at_call 11; (with_reducible refine (CT.out).mono ?_); rintro e3 w3 ⟨v3, rfl, hen3, hu3⟩; dsimp only))
  obtain ⟨A3, p3, rfl, hnw3⟩ := Nw.of_enN (b0 := w2.heap.size) hen3 (Nat.le_refl _)
  rw [HHL.out] at hnw3 ⊢
  have HNW3 := Bx.mk hnw3
  have HU3 := Bx.mk hu3
  obtain ⟨d0, d1, d2, _⟩ := o3_at (hu3.blk H3.out (fun q => q))
  clear hen3 hu3 hnw3 CT
  repeat' (first | fail | go_values | go_skip | go_guarded | go_step | go_upon | go_back)
  (refine wp_loopM [none, some 1, some 2, none, none, none, some 6, some 7, some 8, some 9, some 10, some 11, some 12, some 13, some 14, some 15, some 16, some 17, some 18, some 19, some 20, some 21, some 22, some 23, some 24, some 25, some 26, some 27, some 28, some 29, some 30, some 31, some 32, some 33, some 34, some 35, none, none, some 38, some 39, some 40, some 41, some 42, some 43, some 44, some 45, some 46, some 47, some 48, some 49, some 50, some 51, some 52, some 53, some 54, some 55, some 56, some 57, some 58, some 59, some 60, some 61, some 62, some 63, some 64, some 65, some 66, some 67, some 68, some 69, some 70, some 71, some 72, some 73, some 74, some 75, some 76, some 77, some 78, some 79, some 80, some 81, some 82, some 83, some 84, some 85, some 86, some 87, some 88, some 89, some 90, some 91, some 92, some 93, some 94, some 95, some 96, some 97, some 98, some 99, some 100, some 101, some 102, some 103, some 104, some 105, some 106, some 107, some 108, some 109, some 110, some 111, some 112, some 113, some 114, some 115, some 116, some 117, some 118, some 119, some 120, some 121, some 122, some 123, some 124, some 125, some 126, some 127, some 128, some 129, some 130, some 131, some 132, some 133, some 134, some 135, some 136, some 137, some 138, some 139, some 140, some 141, some 142, some 143, some 144, some 145, some 146, some 147, some 148, some 149, some 150, some 151, some 152, some 153, some 154, some 155, some 156, some 157, some 158, some 159, some 160, some 161, some 162, some 163, some 164, some 165, some 166, some 167, some 168, some 169, some 170, some 171, some 172, some 173, some 174, some 175, some 176, some 177, some 178, some 179, some 180, some 181, some 182, some 183, some 184, some 185, some 186, some 187, some 188, some 189, some 190, some 191, some 192, some 193, some 194] (fun fs wr dM => (fun xv iv wr dd => ∃ (j : Nat) (o0 : Option Addr) (o1 o2 : Nat) (X : List Et), iv = .int .i64 j ∧ xv = .slice o0 o1 o2 ∧ j ≤ g1 ∧ o1 ≤ 400 ∧ Bx (Nw w2.heap.size wr o0 o1 o2 X) ∧ Bx (rcG (D.gone.drop j) X = rcG D.gone L) ∧ Bx (Sx 400 X) ∧ Bx (New w2 wr) ∧ dd = g1 - j) (fs 7) (fs 38) wr dM) (by kernel_rfl) ?atStart ?round; (case' atStart => dsimp only [slotsOf, List.getD_cons_succ, List.getD_cons_zero]); (case' round => (intro dM_ J_ K_ fs wr hrel hJ_ hK_; simp only [Mix]; generalize fs 7 = u7 at hrel ⊢; generalize fs 38 = u38 at hrel ⊢; try dsimp only at hrel)))
  case atStart => exact ⟨_, 0, A3, n, p3, L, rfl, rfl, Nat.zero_le _, hn, HNW3, ⟨rfl⟩, ⟨HSM.out.x⟩, HU3, rfl⟩
  case round =>
    clear d0 d1 d2 HNW3 HU3
    obtain ⟨j, o0, o1, o2, X, rfl, rfl, hj, ho4, HNW, HRC, HSX, HN, rfl⟩ := hrel
    by_cases hlt : j < g1
    · have hjI : (j : Int) < (g1 : Int) := by omega
      have hjL : j < D.gone.length := by rw [HG1.out]; exact hlt
      obtain ⟨gb, go, rfl, e0⟩ := (HD2.out.gone.new HN.out).at_ j hjL
      have HDG := Bx.mk (show D.gone.drop j = D.gone[j] :: D.gone.drop (j + 1) from List.drop_eq_getElem_cons hjL)
      generalize D.gone[j] = i at *
      have HXL := Bx.mk HNW.out.len
      have HFI := Bx.mk (refFindE_ix o0 o1 o2 X i wr HNW.out.enl (by have := HXL.out; omega))
      rcases idxE_or X i with ⟨q1, q2⟩ | ⟨J, hJ, q1, q2, q3, q4⟩
      · rw [q1] at HFI
        have HNO := Bx.mk (show rcAll L D = none by unfold rcAll; rw [← HRC.out, HDG.out, rcG, q2]; rfl)
        clear q1 q2
        repeat' (first | (go_at_call 21; (with_reducible refine (HFI.out).mono ?_); rintro ed wd ⟨rfl, hu⟩; dsimp only) | go_values | go_skip | go_guarded | go_step | go_upon | go_back)
        go_returns
        exact ⟨⟨_, _, _, _, rfl, PAns.no HNO.out⟩, (HU2.out.trans HN.out).trans hu⟩
      · rw [q1] at HFI
        have HR2 := Bx.mk (show rcG (D.gone.drop (j + 1)) (X.take J ++ X.drop (J + 1)) = rcG D.gone L by rw [← HRC.out, HDG.out, rcG, q2, if_pos (show (some X[J]).isSome = true from rfl), dropE_at X i J hJ q4 q3])
        have hJ1 : J < o1 := by have := HXL.out; omega
        clear q1 q2 q3 q4
        obtain ⟨g, es, rfl, hrow, hel, hal, hcap, hmx⟩ := HNW.out.lit (by omega)
        go_upto_region 11 with (first
          | (go_at_call 21; (with_reducible refine (HFI.out).mono ?_); rintro ed wd ⟨rfl, hu⟩; have hJI : ¬ (J : Int) < 0 := (by omega); dsimp only))
        have HNx := Bx.mk (HN.out.trans hu)
        have HRW := Bx.mk (own_new hrow hu)
        have HAL := Bx.mk (hal.map fun _ _ q => q.new hu)
        have HRD := Bx.mk (show Rd wd (some ⟨g, 0, none⟩) (ec es) by
          obtain ⟨_, _, hv, _, _, hr, _⟩ := own_rd HRW.out
          simp only [Value.slice.injEq] at hv
          obtain ⟨rfl, _, _⟩ := hv
          exact hr)
        obtain ⟨A55, hA55⟩ : ∃ A55 : Option Addr, (o2 = J + 1 ∧ A55 = some ⟨g, 0, none⟩) ∨ (¬ o2 = J + 1 ∧ A55 = some ⟨g, (J + 1) * 2, none⟩) := by
          by_cases h : o2 = J + 1
          · exact ⟨_, .inl ⟨h, rfl⟩⟩
          · exact ⟨_, .inr ⟨h, rfl⟩⟩
        have HA55 := Bx.mk hA55
        have s1 : (J : Int) ≤ (o2 : Int) := by omega
        have s2 : (o1 : Int) ≤ (o2 : Int) := by omega
        have s3 : (J : Int) + 1 ≤ (o1 : Int) := by omega
        have s5 : ¬ ((J : Int) + 1 < 0) := by omega
        have s4 : IntKind.i64.wrap ((J : Int) + 1) = ((J + 1 : Nat) : Int) := by rw [IntKind.wrap_i64]; omega
        clear hrow hal hu HNW hA55 e0
        refine wp_region_any (by kernel_rfl) ?_
        refine wp_free 9 195 (PhiOf [fun v w' => ∃ B, v = .slice (some ⟨B, 0, none⟩) 0 0 ∧ w'.heap[B]? = some (.cells #[] 43 (0, 0)) ∧ w2.heap.size ≤ B, fun v _ => v = .slice (some ⟨g, 0, none⟩) o1 o2, fun v _ => v = .int .i64 (J : Nat), fun v _ => v = .slice (some ⟨g, 0, none⟩) J o2, fun v w' => w'.ownsRow w2.heap.size 43 2 v J (ec (es.take J)), fun v _ => v = .slice (some ⟨g, 0, none⟩) o1 o2, fun v _ => v = .int .i64 (J : Nat), fun v _ => v = .int .i64 ((J + 1 : Nat) : Int), fun v _ => v = .slice A55 (o1 - (J + 1)) (o2 - (J + 1))]) (PhiOf_stable ⟨fun _ _ _ hn ⟨B, h1, h2, h3⟩ => ⟨B, h1, hn.blk h2 (fun q => q), h3⟩, fun _ _ _ _ h => h, fun _ _ _ _ h => h, fun _ _ _ _ h => h, fun _ _ _ hn h => own_new h hn, fun _ _ _ _ h => h, fun _ _ _ _ h => h, fun _ _ _ _ h => h, fun _ _ _ _ h => h, trivial⟩) (by kernel_rfl) (by kernel_rfl) (by kernel_rfl) (by kernel_rfl) ?_ ?_
        · intro a w' K i o hi ho met hK
          have hi' : i = 0 ∨ i = 1 ∨ i = 2 ∨ i = 3 ∨ i = 4 ∨ i = 5 ∨ i = 6 ∨ i = 7 ∨ i = 8 := by have := (mem_heads.1 hi).1; omega
          have hN := met.new
          have hN' : New wd w' := ((Upd.refl Nowhere wd).drew).trans hN
          rcases hi' with rfl | rfl | rfl | rfl | rfl | rfl | rfl | rfl | rfl
          all_goals cases ho
          · refine free_run (.slice (some ⟨w'.heap.size, 0, none⟩) 0 0) (w'.alloc (.cells #[] 43)) (by unfold execOp; go_simp) (hK _ _ ((Upd.refl _ _).alloc _) ⟨_, rfl, heap_alloc_new _ _, (HNx.out.trans hN').size⟩)
          · have e7 := met.b 7 _ rfl (by kernel_rfl)
            refine free_run (.slice (some ⟨g, 0, none⟩) o1 o2) w' (by unfold execOp; go_simp) (hK _ _ (Upd.refl _ _) rfl)
          · have e10 := met.b 10 _ rfl (by kernel_rfl)
            refine free_run (.int .i64 (J : Nat)) w' (by unfold execOp; go_simp) (hK _ _ (Upd.refl _ _) rfl)
          · have e48 : a.tmps[48]?.getD undef = .slice (some ⟨g, 0, none⟩) o1 o2 := met.d 1 48 (by kernel_rfl)
            have e49 : a.tmps[49]?.getD undef = .int .i64 (J : Nat) := met.d 2 49 (by kernel_rfl)
            refine free_run (.slice (some ⟨g, 0, none⟩) J o2) w' (by unfold execOp; go_simp) (hK _ _ (Upd.refl _ _) rfl)
          · have e47 : (fun v w' => ∃ B, v = .slice (some ⟨B, 0, none⟩) 0 0 ∧ w'.heap[B]? = some (.cells #[] 43 (0, 0)) ∧ w2.heap.size ≤ B) (a.tmps[47]?.getD undef) w' := met.d 0 47 (by kernel_rfl)
            have e50 : a.tmps[50]?.getD undef = .slice (some ⟨g, 0, none⟩) J o2 := met.d 3 50 (by kernel_rfl)
            obtain ⟨B, hb, hb2, hb3⟩ := e47
            have hsr := (((HRD.out.new hN').take (J * 2)).src (P := Try.prog) (n := J) (c := o2) (size := 2) (tx := 22) Try.underlying22 (fun h => by cases h) (by rw [List.length_take, ec_length, hel, Nat.min_eq_left (by omega)]) (fun u hu => ec_one es u (List.mem_of_mem_take hu)))
            obtain ⟨i0, hi0, hz0, hs0, hb0⟩ := info_parts infoE
            obtain ⟨v', w'', hr, ho, hN2⟩ := run_append_lit0 (P := Try.prog) (w := w') w2.heap.size B 22 22 22 43 i0 _ 2 32 hs0 hb0 rfl hb2 hb3 _ J _ (Src.app Try.underlying22 hi0 hz0 (hs0.symm ▸ hsr)) (by unfold maxLen; omega) (by omega) (HNx.out.trans hN').size
            refine free_run v' w'' (by unfold execOp; simp only [List.getElem_toArray, List.getElem_cons_succ, List.getElem_cons_zero, resolve, invoke, builtin, Sem.run_bind, Sem.run_pure, Result.andThen_ok, List.map_toArray, List.map_cons, List.map_nil, eval_tmp, hb, e50, hr]) (hK _ _ hN2 (by rw [hs0] at ho; show World.ownsRow w'' w2.heap.size _ 2 v' J (ec (es.take J)); rw [ec_take]; exact ho))
          · have e7 := met.b 7 _ rfl (by kernel_rfl)
            refine free_run (.slice (some ⟨g, 0, none⟩) o1 o2) w' (by unfold execOp; go_simp) (hK _ _ (Upd.refl _ _) rfl)
          · have e10 := met.b 10 _ rfl (by kernel_rfl)
            refine free_run (.int .i64 (J : Nat)) w' (by unfold execOp; go_simp) (hK _ _ (Upd.refl _ _) rfl)
          · have e53 : a.tmps[53]?.getD undef = .int .i64 (J : Nat) := met.d 6 53 (by kernel_rfl)
            refine free_run (.int .i64 ((J + 1 : Nat) : Int)) w' (by unfold execOp; go_simp) (hK _ _ (Upd.refl _ _) rfl)
          · have e52 : a.tmps[52]?.getD undef = .slice (some ⟨g, 0, none⟩) o1 o2 := met.d 5 52 (by kernel_rfl)
            have e54 : a.tmps[54]?.getD undef = .int .i64 ((J + 1 : Nat) : Int) := met.d 7 54 (by kernel_rfl)
            rcases HA55.out with ⟨hc1, rfl⟩ | ⟨hc1, rfl⟩
            · refine free_run (.slice (some ⟨g, 0, none⟩) (o1 - (J + 1)) (o2 - (J + 1))) w' (by unfold execOp; go_simp) (hK _ _ (Upd.refl _ _) rfl)
            · refine free_run (.slice (some ⟨g, (J + 1) * 2, none⟩) (o1 - (J + 1)) (o2 - (J + 1))) w' (by unfold execOp; go_simp) (hK _ _ (Upd.refl _ _) rfl)
        · intro vs w' hw hΦ
          have vp0 : (fun v w' => ∃ B, v = .slice (some ⟨B, 0, none⟩) 0 0 ∧ w'.heap[B]? = some (.cells #[] 43 (0, 0)) ∧ w2.heap.size ≤ B) (vs 0) w' := hΦ 0 (by simp [heads])
          have vp1 : vs 1 = .slice (some ⟨g, 0, none⟩) o1 o2 := hΦ 1 (by simp [heads])
          have vp2 : vs 2 = .int .i64 (J : Nat) := hΦ 2 (by simp [heads])
          have vp3 : vs 3 = .slice (some ⟨g, 0, none⟩) J o2 := hΦ 3 (by simp [heads])
          have vp4 : (fun v w' => w'.ownsRow w2.heap.size 43 2 v J (ec (es.take J))) (vs 4) w' := hΦ 4 (by simp [heads])
          have vp5 : vs 5 = .slice (some ⟨g, 0, none⟩) o1 o2 := hΦ 5 (by simp [heads])
          have vp6 : vs 6 = .int .i64 (J : Nat) := hΦ 6 (by simp [heads])
          have vp7 : vs 7 = .int .i64 ((J + 1 : Nat) : Int) := hΦ 7 (by simp [heads])
          have vp8 : (fun v _ => v = .slice A55 (o1 - (J + 1)) (o2 - (J + 1))) (vs 8) w' := hΦ 8 (by simp [heads])
          refine tail_at [(0, some 47), (1, some 48), (2, some 49), (3, some 50), (4, some 51), (5, some 52), (6, some 53), (7, some 54), (8, some 55)] vs (by kernel_rfl) ?_
          simp only [List.map, putAll]
          clear hΦ
          generalize vs 0 = v0 at *
          generalize vs 1 = v1 at *
          generalize vs 2 = v2 at *
          generalize vs 3 = v3 at *
          generalize vs 4 = v4 at *
          generalize vs 5 = v5 at *
          generalize vs 6 = v6 at *
          generalize vs 7 = v7 at *
          generalize vs 8 = v8 at *
          subst vp1
          subst vp2
          subst vp3
          subst vp5
          subst vp6
          subst vp7
          subst vp8
          have hN' : New wd w' := ((Upd.refl Nowhere wd).drew).trans hw
          have hNw := HNx.out.trans hN'
          have hsr := (show Rd w' A55 (ec (es.drop (J + 1))) by
            rcases HA55.out with ⟨hc1, rfl⟩ | ⟨hc1, rfl⟩
            · rw [List.drop_of_length_le (by omega)]; exact .inl rfl
            · have := (HRD.out.new hN').drop_lit ((J + 1) * 2)
              rw [Nat.zero_add] at this
              rw [ec_drop]; exact this).src (P := Try.prog) (n := o1 - (J + 1)) (c := o2 - (J + 1)) (size := 2) (tx := 22) Try.underlying22 (fun h => by rcases HA55.out with ⟨_, h2⟩ | ⟨_, h2⟩ <;> rw [h2] at h <;> cases h) (by rw [ec_length, List.length_drop, hel]) (ec_one _)
          clear vp0
          simp only [List.drop_succ_cons, List.drop_zero]
          go_frame
          repeat' (first | (at_builtin; refine wpList_appN _ rfl _ _ 22 22 rfl _ 43 (.agg #[.int .u32 0, .slice none 0 0]) 2 32 Try.underlying22 infoE rfl _ _ _ vp4 rfl _ _ _ hsr rfl _ hNw ?c1 ?c2 ?_; (case c1 => unfold maxLen; omega); (case c2 => omega); intro v5 w5 ho5 hu5 hk5 hv5); (obtain ⟨A5, c5, rfl, _⟩ := own_rd ho5) | go_values | go_skip | go_guarded | go_step | go_upon | go_back)
          have HALn := Bx.mk (HAL.out.map fun _ _ q => (q.new hN').only (Only.of_app vp4 hk5) _ hk5 (fun b hb => own_ge vp4 b hb))
          have HNW5 := Bx.mk (show Nw w2.heap.size w5 A5 (J + (o1 - (J + 1))) c5 (X.take J ++ X.drop (J + 1)) from ⟨_, by rw [← ec_append] at ho5; exact ho5, by rw [List.length_append, List.length_take, List.length_drop, hel]; omega, (HALn.out.take J).append (HALn.out.drop (J + 1))⟩)
          (refine met_loop (by assumption) (by kernel_rfl) (by kernel_rfl) ?rel; (case' rel => try dsimp only [slotsOf, List.getD_cons_succ, List.getD_cons_zero]))
          case rel => exact ⟨_, ⟨j + 1, A5, _, c5, _, by go_num, rfl, by omega, by omega, HNW5, HR2, ⟨fun x hx => HSX.out x (by rcases List.mem_append.1 hx with h | h; exact List.mem_of_mem_take h; exact List.mem_of_mem_drop h)⟩, ⟨hu5⟩, rfl⟩, by omega⟩
    · obtain rfl : g1 = j := by omega
      have hjI : ¬ (g1 : Int) < (g1 : Int) := by omega
      have HRG := Bx.mk (show rcG D.gone L = some X by rw [← HRC.out, List.drop_of_length_le (by rw [HG1.out]; exact Nat.le_refl _), rcG])
      obtain ⟨d0, d1, d2, _⟩ := o3_at (HN.out.blk H3.out (fun q => q))
      clear HRC hlt
      repeat' (first | fail | go_values | go_skip | go_guarded | go_step | go_upon | go_back)
      (refine wp_loopM [none, some 1, some 2, none, none, none, some 6, some 7, some 8, some 9, some 10, some 11, some 12, some 13, some 14, some 15, some 16, some 17, some 18, some 19, some 20, some 21, some 22, some 23, some 24, some 25, some 26, some 27, some 28, some 29, some 30, some 31, some 32, some 33, some 34, some 35, some 36, some 37, some 38, some 39, some 40, some 41, some 42, some 43, some 44, some 45, some 46, some 47, some 48, some 49, some 50, some 51, some 52, some 53, some 54, some 55, some 56, some 57, some 58, none, none, some 61, some 62, some 63, some 64, some 65, some 66, some 67, some 68, some 69, some 70, some 71, some 72, some 73, some 74, some 75, some 76, some 77, some 78, some 79, some 80, some 81, some 82, some 83, some 84, some 85, some 86, some 87, some 88, some 89, some 90, some 91, some 92, some 93, some 94, some 95, some 96, some 97, some 98, some 99, some 100, some 101, some 102, some 103, some 104, some 105, some 106, some 107, some 108, some 109, some 110, some 111, some 112, some 113, some 114, some 115, some 116, some 117, some 118, some 119, some 120, some 121, some 122, some 123, some 124, some 125, some 126, some 127, some 128, some 129, some 130, some 131, some 132, some 133, some 134, some 135, some 136, some 137, some 138, some 139, some 140, some 141, some 142, some 143, some 144, some 145, some 146, some 147, some 148, some 149, some 150, some 151, some 152, some 153, some 154, some 155, some 156, some 157, some 158, some 159, some 160, some 161, some 162, some 163, some 164, some 165, some 166, some 167, some 168, some 169, some 170, some 171, some 172, some 173, some 174, some 175, some 176, some 177, some 178, some 179, some 180, some 181, some 182, some 183, some 184, some 185, some 186, some 187, some 188, some 189, some 190, some 191, some 192, some 193, some 194] (fun fs wr dM => (fun xv iv wr dd => ∃ (j : Nat) (o0 : Option Addr) (o1 o2 : Nat) (Y : List Et), iv = .int .i64 j ∧ xv = .slice o0 o1 o2 ∧ j ≤ h1 ∧ o1 ≤ 400 ∧ Bx (Nw w2.heap.size wr o0 o1 o2 Y) ∧ Bx (rcH (D.chg.drop j) Y = rcH D.chg X) ∧ Bx (Sx (400 + sumH (D.chg.take j)) Y) ∧ Bx (New w2 wr) ∧ dd = h1 - j) (fs 7) (fs 61) wr dM) (by kernel_rfl) ?atStart ?round; (case' atStart => dsimp only [slotsOf, List.getD_cons_succ, List.getD_cons_zero]); (case' round => (intro dM_ J_ K_ fs wr hrel hJ_ hK_; simp only [Mix]; generalize fs 7 = u7 at hrel ⊢; generalize fs 61 = u61 at hrel ⊢; try dsimp only at hrel)))
      case atStart => exact ⟨_, 0, o0, o1, o2, X, rfl, rfl, Nat.zero_le _, ho4, HNW, ⟨rfl⟩, ⟨HSX.out⟩, HN, rfl⟩
      case round =>
        clear d0 d1 d2 HNW HSX HN
        obtain ⟨j, o0, o1, o2, Y, rfl, rfl, hj, ho4, HNW, HRC, HSX, HN, rfl⟩ := hrel
        rename World => wz
        by_cases hlt : j < h1
        · have hjI : (j : Int) < (h1 : Int) := by omega
          have hjL : j < D.chg.length := by rw [HH1.out]; exact hlt
          obtain ⟨b8, b9, s0, s1, s2, u0, u1, u2, rfl, e0, e1, e2, e3, hcn, hcs⟩ := (HD2.out.chg.new HN.out).el j hjL
          have HDH := Bx.mk (show D.chg.drop j = D.chg[j] :: D.chg.drop (j + 1) from List.drop_eq_getElem_cons hjL)
          have HSU := Bx.mk (sumH_take D.chg j hjL)
          have HSL := Bx.mk (Nat.le_trans (sumH_le D.chg (j + 1)) HSM.out.hs)
          have HKK := Bx.mk (HSM.out.hk _ (List.getElem_mem hjL))
          generalize D.chg[j] = ch at *
          obtain ⟨ci, cl, cn, cs⟩ := ch
          dsimp only at e0 e1 e2 e3 hcn hcs HSU HKK
          have HLN := Bx.mk (show cn.length = s1 from hcn.len)
          have HLS := Bx.mk (show cs.length = u1 from hcs.len)
          have HXL := Bx.mk HNW.out.len
          obtain ⟨n0, n1, n2, n3, _⟩ := o4_at (heap_alloc_new wz (.cells #[.int .u32 ci, .int .u8 (cl.toNat : Nat), .slice s0 s1 s2, .slice u0 u1 u2] 57))
          have hA := (Upd.refl Nowhere wz).alloc (.cells #[.int .u32 ci, .int .u8 (cl.toNat : Nat), .slice s0 s1 s2, .slice u0 u1 u2] 57)
          have HBX := Bx.mk (heap_alloc_new wz (.cells #[.int .u32 ci, .int .u8 (cl.toNat : Nat), .slice s0 s1 s2, .slice u0 u1 u2] 57))
          have HFI := Bx.mk (refFindE_ix o0 o1 o2 Y ci _ (HNW.out.new hA).enl (by have := HXL.out; omega))
          rcases idxE_or Y ci with ⟨q1, q2⟩ | ⟨J, hJ, q1, q2, q3, q4⟩
          · rw [q1] at HFI
            have HNO := Bx.mk (show rcAll L D = none by unfold rcAll; rw [HRG.out, Option.bind_some, ← HRC.out, HDH.out, rcH, q2]; rfl)
            clear q1 q2
            repeat' (first | (go_at_call 21; (with_reducible refine (HFI.out).mono ?_); rintro ed wd ⟨rfl, hu⟩; dsimp only) | go_values | go_skip | go_guarded | go_step | go_upon | go_back)
            go_returns
            exact ⟨⟨_, _, _, _, rfl, PAns.no HNO.out⟩, (HU2.out.trans HN.out).trans (hA.trans hu)⟩
          · rw [q1] at HFI
            have hJ1 : J < o1 := by have := HXL.out; omega
            have hJI : ¬ (J : Int) < 0 := by omega
            have hJo : (J : Int) < (o1 : Int) := by omega
            obtain ⟨g, es, rfl, hrow, hel, hal, hcap, hmx⟩ := HNW.out.lit (by omega)
            have hJe : J < es.length := by omega
            obtain ⟨_, r1⟩ := ec_get es J hJe
            have c1' := (own_setk hrow (J * 2 + 1) (by rw [ec_length]; omega) undef).2.2.trans r1
            obtain ⟨k0, k1⟩ := hal.get J hJ hJe
            have HPU := Bx.mk (fun l' => putE_at Y ci J l' hJ q4 q3)
            have HY1 := Bx.mk q2
            have HY2 := Bx.mk (show es[J].1 = ci from k0.trans q3)
            have HSY := Bx.mk (HSX.out _ (List.getElem_mem hJ))
            have HYI := Bx.mk q3
            have HRW := Bx.mk hrow
            have HAL := Bx.mk hal
            have HEE := Bx.mk (rfl : es[J] = es[J])
            have HZK := Bx.mk (ec_setk es J hJe)
            have HC1 := Bx.mk c1'
            have HK1 := Bx.mk k1
            generalize hye : Y[J] = y at *
            generalize hee : es[J] = e at *
            obtain ⟨yi, yl⟩ := y
            obtain ⟨ei, z0, z1, z2⟩ := e
            dsimp only at HC1 HK1 HY2 HSY HZK HYI
            clear q1 q2 q3 q4 hrow hal r1 c1' k0 k1 hye hee
            go_upto_region 19 with (first
              | (go_at_call 21; (with_reducible refine (HFI.out).mono ?_); rintro ed wd ⟨rfl, hu⟩; dsimp only))
            have hz1 := (hA.trans hu).cell HC1.out (fun q => q)
            have HBD := Bx.mk (hu.blk HBX.out (fun q => q))
            have HNd := Bx.mk (HN.out.trans (hA.trans hu))
            have HRd := Bx.mk (own_new HRW.out (hA.trans hu))
            have HAd := Bx.mk (HAL.out.map fun _ _ q => q.new (hA.trans hu))
            have HKd := Bx.mk (Cz.new HK1.out (hA.trans hu))
            have HCN := Bx.mk (hcn.new (hA.trans hu))
            have HCS := Bx.mk (hcs.new (hA.trans hu))
            have HCd := Bx.mk hz1
            clear HBX HRW HAL HK1 HC1 hcn hcs hu hA HFI e0 e1 e2 e3 n0 n1 n2 n3 HNW
            generalize wz.heap.size = BC at *
            go_upto_block 4 with (fail)
            repeat' (first | fail | go_values | go_skip | go_guarded | go_step | go_upon | go_back)
            (refine wp_loopM [none, some 1, some 2, none, none, none, some 6, none, some 8, some 9, some 10, some 11, none, none, some 14, some 15, some 16, some 17, some 18, some 19, some 20, some 21, some 22, some 23, some 24, some 25, some 26, some 27, some 28, some 29, some 30, some 31, some 32, some 33, some 34, some 35, some 36, some 37, some 38, some 39, some 40, some 41, some 42, some 43, some 44, some 45, some 46, some 47, some 48, some 49, some 50, some 51, some 52, some 53, some 54, some 55, some 56, some 57, some 58, none, none, none, some 62, some 63, some 64, some 65, some 66, some 67, some 68, some 69, some 70, some 71, some 72, some 73, some 74, some 75, some 76, some 77, some 78, some 79, some 80, some 81, some 82, some 83, some 84, some 85, some 86, some 87, some 88, some 89, some 90, some 91, some 92, some 93, some 94, some 95, some 96, some 97, some 98, some 99, some 100, some 101, some 102, some 103, some 104, some 105, some 106, some 107, some 108, some 109, some 110, some 111, some 112, some 113, some 114, some 115, some 116, some 117, some 118, some 119, some 120, some 121, some 122, some 123, some 124, some 125, some 126, some 127, some 128, some 129, some 130, some 131, some 132, some 133, some 134, some 135, some 136, some 137, some 138, some 139, some 140, some 141, some 142, some 143, some 144, some 145, some 146, some 147, some 148, some 149, some 150, some 151, some 152, some 153, some 154, some 155, some 156, some 157, some 158, some 159, some 160, some 161, some 162, some 163, some 164, some 165, some 166, some 167, some 168, some 169, some 170, some 171, some 172, some 173, some 174, some 175, some 176, some 177, some 178, some 179, some 180, some 181, some 182, some 183, some 184, some 185, some 186, some 187, some 188, some 189, some 190, some 191, some 192, some 193, some 194] (fun fs wr dM => (fun lv kv wr dd => ∃ (m : Nat) (p0 : Option Addr) (p1 p2 : Nat) (l : List C4), kv = .int .u8 m ∧ lv = .slice p0 p1 p2 ∧ m ≤ 8 ∧ l.length ≤ yl.length ∧ Bx (Cz w2.heap.size wr (p0, p1, p2) l) ∧ Bx (rcL cl (List.range' m (8 - m)) l = rcL cl (List.range' 0 8) yl) ∧ Bx (∀ q ∈ l, q.k < 256) ∧ Bx (New wd wr) ∧ dd = 8 - m) (fs 14) (fs 76) wr dM) (by kernel_rfl) ?atStart ?round; (case' atStart => dsimp only [slotsOf, List.getD_cons_succ, List.getD_cons_zero]); (case' round => (intro dM_ J_ K_ fs wr hrel hJ_ hK_; simp only [Mix]; generalize fs 14 = u14 at hrel ⊢; generalize fs 76 = u76 at hrel ⊢; try dsimp only at hrel)))
            case atStart => exact ⟨_, 0, z0, z1, z2, yl, rfl, rfl, by omega, Nat.le_refl _, HKd, ⟨rfl⟩, ⟨HSY.out.2.2⟩, ⟨Upd.refl _ _⟩, rfl⟩
            case round =>
              clear hz1
              obtain ⟨m, p0, p1, p2, l, rfl, rfl, hm, hll, HCL, HRL, HKL, HQ, rfl⟩ := hrel
              by_cases hm8 : m < 8
              · have hm8I : (m : Int) < 8 := by omega
                obtain ⟨n0, n1, n2, n3, _⟩ := o4_at (HQ.out.blk HBD.out (fun q => q))
                have HST := Bx.mk (rcL_step cl m hm8 l)
                have hbm := bit_mod cl m
                have hyl9 : yl.length ≤ 700 := by have := HSY.out.2.1; have := HSL.out; have := HSU.out; omega
                cases hbit : cl.getLsbD m with
                | false =>
                  rw [hbit] at hbm HST
                  have HR2 := Bx.mk (show rcL cl (List.range' (m + 1) (8 - (m + 1))) l = rcL cl (List.range' 0 8) yl by rw [← HRL.out, HST.out, if_neg (by simp)])
                  clear hbit HST
                  simp only [Bool.not_false] at hbm
                  repeat' (first | fail | go_values | go_skip | go_guarded | go_step | go_upon | go_back)
                  (refine met_loop (by assumption) (by kernel_rfl) (by kernel_rfl) ?rel; (case' rel => try dsimp only [slotsOf, List.getD_cons_succ, List.getD_cons_zero]))
                  case rel => exact ⟨_, ⟨m + 1, p0, p1, p2, l, by go_num, rfl, by omega, hll, HCL, HR2, HKL, HQ, rfl⟩, by omega⟩
                | true =>
                  rw [hbit] at hbm HST
                  simp only [Bool.not_true] at hbm
                  have HFC := Bx.mk (refFindC_ix p0 p1 p2 l m wr HCL.out.co (by omega))
                  rcases idxC_or l m with ⟨q1, q2⟩ | ⟨J', q1, q2, q3⟩
                  · rw [q1] at HFC
                    have HNX := Bx.mk (show rcX ⟨ci, cl, cn, cs⟩ yl = none by
                      unfold rcX
                      dsimp only
                      rw [← HRL.out, HST.out, if_pos rfl, if_neg (by rw [q2]; exact Bool.false_ne_true)]; rfl)
                    have HNO := Bx.mk (show rcAll L D = none by unfold rcAll; rw [HRG.out, Option.bind_some, ← HRC.out, HDH.out, rcH, HY1.out, Option.bind_some, HNX.out]; rfl)
                    clear hbit HST q1 q2
                    repeat' (first | (go_at_call 34; (with_reducible refine (HFC.out).mono ?_); rintro ex wx ⟨rfl, hux⟩; dsimp only) | go_values | go_skip | go_guarded | go_step | go_upon | go_back)
                    go_returns
                    exact ⟨⟨_, _, _, _, rfl, PAns.no HNO.out⟩, HU2.out.trans (HNd.out.trans (HQ.out.trans hux))⟩
                  · rw [q1] at HFC
                    have HR2 := Bx.mk (show rcL cl (List.range' (m + 1) (8 - (m + 1))) (woC l m) = rcL cl (List.range' 0 8) yl by rw [← HRL.out, HST.out, if_pos rfl, if_pos q3]; rfl)
                    have hJ0 : ¬ (J' : Int) < 0 := by omega
                    have CWO := Bx.mk (fun (w' : World) (k : New wr w') => Without_any p0 p1 p2 l m w' (HCL.out.co.new k) (by omega))
                    clear hbit HST q1 q2 q3
                    repeat' (first | (first
                      | (go_at_call 34; (with_reducible refine (HFC.out).mono ?_); rintro ex wx ⟨rfl, hux⟩; dsimp only)
                      | (go_at_call 35; (with_reducible refine (CWO.out _ hux).mono ?_); rintro ey wy ⟨⟨⟨x0, x1, x2⟩, rfl, hcy⟩, huy⟩; dsimp only)) | go_values | go_skip | go_guarded | go_step | go_upon | go_back)
                    (refine met_loop (by assumption) (by kernel_rfl) (by kernel_rfl) ?rel; (case' rel => try dsimp only [slotsOf, List.getD_cons_succ, List.getD_cons_zero]))
                    case rel => exact ⟨_, ⟨m + 1, x0, x1, x2, woC l m, by go_num, rfl, by omega, Nat.le_trans (woC_len _ _) hll, ⟨.inl (hcy.lower (Nat.le_trans HNd.out.size (HQ.out.trans hux).size))⟩, HR2, ⟨fun q hq => HKL.out q (List.mem_filter.1 hq).1⟩, ⟨HQ.out.trans (hux.trans huy)⟩, rfl⟩, by omega⟩
              · obtain rfl : m = 8 := by omega
                have hm8I : ¬ ((8 : Nat) : Int) < 8 := by omega
                have HLL := Bx.mk (show rcL cl (List.range' 0 8) yl = some l by rw [← HRL.out]; rfl)
                obtain ⟨n0, n1, n2, n3, _⟩ := o4_at (HQ.out.blk HBD.out (fun q => q))
                have hyl9 : yl.length ≤ 400 + sumH (D.chg.take j) := HSY.out.2.1
                have hsu9 := HSU.out
                have hsl9 := HSL.out
                have hcn9 := HLN.out
                have hcs9 := HLS.out
                have HB9 := Bx.mk (show yl.length + s1 + u1 ≤ 400 + sumH (D.chg.take (j + 1)) ∧ yl.length + s1 + u1 ≤ 700 by omega)
                clear hyl9 hsu9 hsl9 hcn9 hcs9 hm8 hm
                repeat' (first | fail | go_values | go_skip | go_guarded | go_step | go_upon | go_back)
                (refine wp_loopM [none, some 1, some 2, none, none, none, some 6, none, some 8, some 9, some 10, some 11, none, none, some 14, some 15, some 16, some 17, some 18, some 19, some 20, some 21, some 22, some 23, some 24, some 25, some 26, some 27, some 28, some 29, some 30, some 31, some 32, some 33, some 34, some 35, some 36, some 37, some 38, some 39, some 40, some 41, some 42, some 43, some 44, some 45, some 46, some 47, some 48, some 49, some 50, some 51, some 52, some 53, some 54, some 55, some 56, some 57, some 58, none, none, none, some 62, some 63, some 64, some 65, some 66, some 67, some 68, some 69, some 70, some 71, some 72, some 73, some 74, some 75, some 76, some 77, some 78, some 79, some 80, some 81, some 82, some 83, some 84, some 85, some 86, some 87, some 88, some 89, some 90, some 91, some 92, some 93, none, none, some 96, some 97, some 98, some 99, some 100, some 101, some 102, some 103, some 104, some 105, some 106, some 107, some 108, some 109, some 110, some 111, some 112, some 113, some 114, some 115, some 116, some 117, some 118, some 119, some 120, some 121, some 122, some 123, some 124, some 125, some 126, some 127, some 128, some 129, some 130, some 131, some 132, some 133, some 134, some 135, some 136, some 137, some 138, some 139, some 140, some 141, some 142, some 143, some 144, some 145, some 146, some 147, some 148, some 149, some 150, some 151, some 152, some 153, some 154, some 155, some 156, some 157, some 158, some 159, some 160, some 161, some 162, some 163, some 164, some 165, some 166, some 167, some 168, some 169, some 170, some 171, some 172, some 173, some 174, some 175, some 176, some 177, some 178, some 179, some 180, some 181, some 182, some 183, some 184, some 185, some 186, some 187, some 188, some 189, some 190, some 191, some 192, some 193, some 194] (fun fs wr dM => (fun lv mv wr dd => ∃ (m : Nat) (p0 : Option Addr) (p1 p2 : Nat) (l' : List C4), mv = .int .i64 m ∧ lv = .slice p0 p1 p2 ∧ m ≤ s1 ∧ l'.length ≤ yl.length + m ∧ Bx (Cz w2.heap.size wr (p0, p1, p2) l') ∧ Bx (rcN yl (cn.drop m) l' = rcN yl cn l) ∧ Bx (∀ q ∈ l', q.k < 256) ∧ Bx (New wd wr) ∧ dd = s1 - m) (fs 14) (fs 96) wr dM) (by kernel_rfl) ?atStart ?round; (case' atStart => dsimp only [slotsOf, List.getD_cons_succ, List.getD_cons_zero]); (case' round => (intro dM_ J_ K_ fs wr hrel hJ_ hK_; simp only [Mix]; generalize fs 14 = u14 at hrel ⊢; generalize fs 96 = u96 at hrel ⊢; try dsimp only at hrel)))
                case atStart => exact ⟨_, 0, p0, p1, p2, l, rfl, rfl, by omega, by omega, HCL, ⟨rfl⟩, HKL, HQ, rfl⟩
                case round =>
                  clear n0 n1 n2 n3 HCL HKL HQ HRL hll
                  obtain ⟨m, p0, p1, p2, l', rfl, rfl, hm, hll, HCL, HRN, HKL, HQ, rfl⟩ := hrel
                  by_cases hms : m < s1
                  · have hmI : (m : Int) < (s1 : Int) := by omega
                    have hmL : m < cn.length := by rw [HLN.out]; exact hms
                    obtain ⟨b4, o4, rfl, t0, t1, t2, t3⟩ := (HCN.out.new HQ.out).rd.four m hmL
                    have HDN := Bx.mk (show cn.drop m = cn[m] :: cn.drop (m + 1) from List.drop_eq_getElem_cons hmL)
                    have HKQ := Bx.mk (HKK.out.1 _ (List.getElem_mem hmL))
                    generalize cn[m] = q at *
                    obtain ⟨kk, ka, kb, kc⟩ := q
                    dsimp only at t0 t1 t2 t3 HKQ
                    have hA := (Upd.refl Nowhere wr).alloc (.cells #[.int .u8 kk, .int .i32 ka, .int .i32 kb, .int .i32 kc] 46)
                    have HBQ := Bx.mk (heap_alloc_new wr (.cells #[.int .u8 kk, .int .i32 ka, .int .i32 kb, .int .i32 kc] 46))
                    go_upto_region 31 with (fail)
                    generalize wr.alloc (.cells #[.int .u8 kk, .int .i32 ka, .int .i32 kb, .int .i32 kc] 46) = wv at *
                    generalize wr.heap.size = BQ at *
                    have HQv := Bx.mk (HQ.out.trans hA)
                    have HAv := Bx.mk hA
                    obtain ⟨v0, _, _, _, _⟩ := o4_at HBQ.out
                    have g1' : ∀ x : After wv, x.to.cell? ⟨g, J * 2 + 1, none⟩ = some (.slice z0 z1 z2) := fun x => (HQv.out.trans x.h).cell HCd.out (fun q => q)
                    have g2' : ∀ x : After wv, x.to.cell? ⟨BQ, 0, none⟩ = some (.int .u8 kk) := fun x => x.h.cell v0 (fun q => q)
                    have KA := Bx.mk (fun x : After wv => refFindC_ix z0 z1 z2 yl kk x.to (HKd.out.co.new (HQv.out.trans x.h)) (by have := HB9.out; omega))
                    have hbl9 := HB9.out
                    clear t0 t1 t2 t3 hA v0
                    rcases idxC_or yl kk with ⟨q1, q2⟩ | ⟨J', q1, q2, q3⟩
                    · rw [q1] at KA
                      have HR2 := Bx.mk (show rcN yl (cn.drop (m + 1)) (wiG false l' ⟨kk, ka, kb, kc⟩) = rcN yl cn l by rw [← HRN.out, HDN.out, rcN, if_neg (by rw [q2]; exact Bool.false_ne_true)])
                      clear q1 q2
                      (refine wp_region_calm (by kernel_rfl) (by kernel_rfl) ?_; (repeat (go_big_quiet_step ((go_at_call 34; (with_reducible refine Calls.calm (KA.out _)))))); refine wpQuiet_nil ?_; intro wq hq)
                      have HBq := Bx.mk (hq.blk HBQ.out (fun q => q))
                      obtain ⟨v0, v1, v2, v3, _⟩ := o4_at HBq.out
                      have CWI := Bx.mk (With_any p0 p1 p2 l' ⟨kk, ka, kb, kc⟩ wq ((HCL.out.co.new HAv.out).new hq) (by omega))
                      dsimp only at CWI
                      repeat' (first | (go_at_call 36; (with_reducible refine (CWI.out).mono ?_); rintro ey wy ⟨⟨⟨x0, x1, x2⟩, rfl, hcy⟩, huy⟩; dsimp only) | go_values | go_skip | go_guarded | go_step | go_upon | go_back)
                      (refine met_loop (by assumption) (by kernel_rfl) (by kernel_rfl) ?rel; (case' rel => try dsimp only [slotsOf, List.getD_cons_succ, List.getD_cons_zero]))
                      case rel => exact ⟨_, ⟨m + 1, x0, x1, x2, _, by go_num, rfl, by omega, Nat.le_trans (wiG_len _ _ _) (by omega), ⟨.inl (hcy.lower (Nat.le_trans HNd.out.size (HQv.out.trans hq).size))⟩, HR2, ⟨wiG_k HKL.out HKQ.out⟩, ⟨(HQv.out.trans hq).trans huy⟩, rfl⟩, by omega⟩
                    · rw [q1] at KA
                      have HNX := Bx.mk (show rcX ⟨ci, cl, cn, cs⟩ yl = none by
                        unfold rcX
                        dsimp only
                        rw [HLL.out, Option.bind_some, ← HRN.out, HDN.out, rcN, if_pos q3]; rfl)
                      have HNO := Bx.mk (show rcAll L D = none by unfold rcAll; rw [HRG.out, Option.bind_some, ← HRC.out, HDH.out, rcH, HY1.out, Option.bind_some, HNX.out]; rfl)
                      have hJ0 : (0 : Int) ≤ (J' : Int) := by omega
                      clear q1 q2 q3
                      (refine wp_region_calm (by kernel_rfl) (by kernel_rfl) ?_; (repeat (go_big_quiet_step ((go_at_call 34; (with_reducible refine Calls.calm (KA.out _)))))); refine wpQuiet_nil ?_; intro wq hq)
                      repeat' (first | fail | go_values | go_skip | go_guarded | go_step | go_upon | go_back)
                      go_returns
                      exact ⟨⟨_, _, _, _, rfl, PAns.no HNO.out⟩, HU2.out.trans (HNd.out.trans (HQv.out.trans hq))⟩
                  · obtain rfl : s1 = m := by omega
                    have hmI : ¬ (s1 : Int) < (s1 : Int) := by omega
                    have HNN := Bx.mk (show rcN yl cn l = some l' by rw [← HRN.out, List.drop_of_length_le (by rw [HLN.out]; exact Nat.le_refl _), rcN])
                    obtain ⟨n0, n1, n2, n3, _⟩ := o4_at (HQ.out.blk HBD.out (fun q => q))
                    clear hms HRN
                    repeat' (first | fail | go_values | go_skip | go_guarded | go_step | go_upon | go_back)
                    (refine wp_loopM [none, some 1, some 2, none, none, none, some 6, none, some 8, some 9, some 10, some 11, none, none, some 14, some 15, some 16, some 17, some 18, some 19, some 20, some 21, some 22, some 23, some 24, some 25, some 26, some 27, some 28, some 29, some 30, some 31, some 32, some 33, some 34, some 35, some 36, some 37, some 38, some 39, some 40, some 41, some 42, some 43, some 44, some 45, some 46, some 47, some 48, some 49, some 50, some 51, some 52, some 53, some 54, some 55, some 56, some 57, some 58, none, none, none, some 62, some 63, some 64, some 65, some 66, some 67, some 68, some 69, some 70, some 71, some 72, some 73, some 74, some 75, some 76, some 77, some 78, some 79, some 80, some 81, some 82, some 83, some 84, some 85, some 86, some 87, some 88, some 89, some 90, some 91, some 92, some 93, some 94, some 95, some 96, some 97, some 98, some 99, some 100, some 101, some 102, some 103, some 104, some 105, some 106, some 107, some 108, some 109, some 110, some 111, some 112, some 113, none, none, some 116, some 117, some 118, some 119, some 120, some 121, some 122, some 123, some 124, some 125, some 126, some 127, some 128, some 129, some 130, some 131, some 132, some 133, some 134, some 135, some 136, some 137, some 138, some 139, some 140, some 141, some 142, some 143, some 144, some 145, some 146, some 147, some 148, some 149, some 150, some 151, some 152, some 153, some 154, some 155, some 156, some 157, some 158, some 159, some 160, some 161, some 162, some 163, some 164, some 165, some 166, some 167, some 168, some 169, some 170, some 171, some 172, some 173, some 174, some 175, some 176, some 177, some 178, some 179, some 180, some 181, some 182, some 183, some 184, some 185, some 186, some 187, some 188, some 189, some 190, some 191, some 192, some 193, some 194] (fun fs wr dM => (fun lv mv wr dd => ∃ (m : Nat) (p0 : Option Addr) (p1 p2 : Nat) (l4 : List C4), mv = .int .i64 m ∧ lv = .slice p0 p1 p2 ∧ m ≤ u1 ∧ l4.length ≤ yl.length + s1 + m ∧ Bx (Cz w2.heap.size wr (p0, p1, p2) l4) ∧ Bx (rcS (cs.drop m) l4 = rcS cs l') ∧ Bx (∀ q ∈ l4, q.k < 256) ∧ Bx (New wd wr) ∧ dd = u1 - m) (fs 14) (fs 116) wr dM) (by kernel_rfl) ?atStart ?round; (case' atStart => dsimp only [slotsOf, List.getD_cons_succ, List.getD_cons_zero]); (case' round => (intro dM_ J_ K_ fs wr hrel hJ_ hK_; simp only [Mix]; generalize fs 14 = u14 at hrel ⊢; generalize fs 116 = u116 at hrel ⊢; try dsimp only at hrel)))
                    case atStart => exact ⟨_, 0, p0, p1, p2, l', rfl, rfl, by omega, by omega, HCL, ⟨rfl⟩, HKL, HQ, rfl⟩
                    case round =>
                      clear n0 n1 n2 n3 HCL HKL HQ hll
                      obtain ⟨m, p0, p1, p2, l4, rfl, rfl, hm, hll, HCL, HRS, HKL, HQ, rfl⟩ := hrel
                      have hbl9 := HB9.out
                      by_cases hms : m < u1
                      · have hmI : (m : Int) < (u1 : Int) := by omega
                        have hmL : m < cs.length := by rw [HLS.out]; exact hms
                        obtain ⟨b4, o4, rfl, t0, t1, t2, t3⟩ := (HCS.out.new HQ.out).rd.four m hmL
                        have HDN := Bx.mk (show cs.drop m = cs[m] :: cs.drop (m + 1) from List.drop_eq_getElem_cons hmL)
                        have HKQ := Bx.mk (HKK.out.2 _ (List.getElem_mem hmL))
                        generalize cs[m] = q at *
                        obtain ⟨kk, ka, kb, kc⟩ := q
                        dsimp only at t0 t1 t2 t3 HKQ
                        have hA := (Upd.refl Nowhere wr).alloc (.cells #[.int .u8 kk, .int .i32 ka, .int .i32 kb, .int .i32 kc] 46)
                        have HBQ := Bx.mk (heap_alloc_new wr (.cells #[.int .u8 kk, .int .i32 ka, .int .i32 kb, .int .i32 kc] 46))
                        go_upto_region 38 with (fail)
                        generalize wr.alloc (.cells #[.int .u8 kk, .int .i32 ka, .int .i32 kb, .int .i32 kc] 46) = wv at *
                        generalize wr.heap.size = BQ at *
                        have HQv := Bx.mk (HQ.out.trans hA)
                        have HAv := Bx.mk hA
                        obtain ⟨v0, v1, v2, v3, _⟩ := o4_at HBQ.out
                        have HFC := Bx.mk (refFindC_ix p0 p1 p2 l4 kk wv (HCL.out.co.new hA) (by omega))
                        clear t0 t1 t2 t3 hA
                        rcases idxC_or l4 kk with ⟨q1, q2⟩ | ⟨J', q1, q2, q3⟩
                        · rw [q1] at HFC
                          have HNX := Bx.mk (show rcX ⟨ci, cl, cn, cs⟩ yl = none by
                            unfold rcX
                            dsimp only
                            rw [HLL.out, Option.bind_some, HNN.out, Option.bind_some, ← HRS.out, HDN.out, rcS, if_neg (by rw [q2]; exact Bool.false_ne_true)])
                          have HNO := Bx.mk (show rcAll L D = none by unfold rcAll; rw [HRG.out, Option.bind_some, ← HRC.out, HDH.out, rcH, HY1.out, Option.bind_some, HNX.out]; rfl)
                          clear q1 q2
                          repeat' (first | (go_at_call 34; (with_reducible refine (HFC.out).mono ?_); rintro ex wx ⟨rfl, hux⟩; dsimp only) | go_values | go_skip | go_guarded | go_step | go_upon | go_back)
                          go_returns
                          exact ⟨⟨_, _, _, _, rfl, PAns.no HNO.out⟩, HU2.out.trans (HNd.out.trans (HQv.out.trans hux))⟩
                        · rw [q1] at HFC
                          have HR2 := Bx.mk (show rcS (cs.drop (m + 1)) (wiG false l4 ⟨kk, ka, kb, kc⟩) = rcS cs l' by rw [← HRS.out, HDN.out, rcS, if_pos q3])
                          have hJ0 : ¬ (J' : Int) < 0 := by omega
                          have CWI := Bx.mk (fun (w' : World) (k : New wv w') => With_any p0 p1 p2 l4 ⟨kk, ka, kb, kc⟩ w' ((HCL.out.co.new HAv.out).new k) (by omega))
                          dsimp only at CWI
                          clear q1 q2 q3
                          repeat' (first | (first
                            | (go_at_call 34; (with_reducible refine (HFC.out).mono ?_); rintro ex wx ⟨rfl, hux⟩; obtain ⟨y0, y1, y2, y3, _⟩ := o4_at (hux.blk HBQ.out (fun q => q)); dsimp only)
                            | (go_at_call 36; (with_reducible refine (CWI.out _ hux).mono ?_); rintro ey wy ⟨⟨⟨x0, x1, x2⟩, rfl, hcy⟩, huy⟩; dsimp only)) | go_values | go_skip | go_guarded | go_step | go_upon | go_back)
                          (refine met_loop (by assumption) (by kernel_rfl) (by kernel_rfl) ?rel; (case' rel => try dsimp only [slotsOf, List.getD_cons_succ, List.getD_cons_zero]))
                          case rel => exact ⟨_, ⟨m + 1, x0, x1, x2, _, by go_num, rfl, by omega, Nat.le_trans (wiG_len _ _ _) (by omega), ⟨.inl (hcy.lower (Nat.le_trans HNd.out.size (HQv.out.trans hux).size))⟩, HR2, ⟨wiG_k HKL.out HKQ.out⟩, ⟨(HQv.out.trans hux).trans huy⟩, rfl⟩, by omega⟩
                      · obtain rfl : u1 = m := by omega
                        have hmI : ¬ (u1 : Int) < (u1 : Int) := by omega
                        have HSS := Bx.mk (show rcX ⟨ci, cl, cn, cs⟩ yl = some l4 by
                          unfold rcX
                          dsimp only
                          rw [HLL.out, Option.bind_some, HNN.out, Option.bind_some, ← HRS.out, List.drop_of_length_le (by rw [HLS.out]; exact Nat.le_refl _), rcS])
                        have HR2 := Bx.mk (show rcH (D.chg.drop (j + 1)) (Y.set J (ci, l4)) = rcH D.chg X by rw [← HRC.out, HDH.out, rcH, HY1.out, Option.bind_some, HSS.out, Option.bind_some]; dsimp only; rw [HPU.out])
                        have HRq := Bx.mk (own_new HRd.out HQ.out)
                        have HAq := Bx.mk (HAd.out.map fun _ _ q => q.new HQ.out)
                        obtain ⟨w1', w2', w3'⟩ := own_setk HRq.out (J * 2 + 1) (by rw [ec_length]; omega) (.slice p0 p1 p2)
                        have c1' := HQ.out.cell HCd.out (fun q => q)
                        have HW1 := Bx.mk w1'
                        have hfz : wr.frozen? ⟨g, J * 2 + 1, none⟩ = false := w2'
                        clear hms HRS w1' w2' w3'
                        have hbg := own_ge HRq.out g rfl
                        obtain ⟨csg, hcg⟩ := own_type HRq.out (show (Value.slice (some ⟨g, 0, none⟩) o1 o2).ownBlock = some g from rfl)
                        have HU := Bx.mk (upd_set wr g (J * 2 + 1) (.slice p0 p1 p2))
                        have HOE := Bx.mk (Only.of_obj hcg HU.out)
                        have HNWn := Bx.mk (show Nw w2.heap.size (wr.setCell ⟨g, J * 2 + 1, none⟩ (.slice p0 p1 p2)) (some ⟨g, 0, none⟩) o1 o2 (Y.set J (ci, l4)) from
                          ⟨_, by have := HW1.out; rw [← HZK.out (p0, p1, p2)] at this; exact this, by rw [List.length_set]; exact hel,
                            Al.set J _ _ (HAq.out.map fun _ _ q => q.only HOE.out _ HU.out (fun b hb => by rw [hb]; exact hbg)) HY2.out (HCL.out.only HOE.out _ HU.out (fun b hb => by rw [hb]; exact hbg))⟩)
                        have HSXn := Bx.mk (show Sx (400 + sumH (D.chg.take (j + 1))) (Y.set J (ci, l4)) by
                          intro x hx
                          rcases List.mem_or_eq_of_mem_set hx with hx | rfl
                          · have := HSX.out x hx
                            have h9 := HSU.out
                            exact ⟨this.1, by omega, this.2.2⟩
                          · exact ⟨by rw [← HYI.out]; exact HSY.out.1, by have := HB9.out.1; dsimp only; omega, HKL.out⟩)
                        clear hcg
                        repeat' (first | fail | go_values | go_skip | go_guarded | go_step | go_upon | go_back)
                        (refine met_loop (by assumption) (by kernel_rfl) (by kernel_rfl) ?rel; (case' rel => try dsimp only [slotsOf, List.getD_cons_succ, List.getD_cons_zero]))
                        case rel => exact ⟨_, ⟨j + 1, _, o1, o2, _, by go_num, rfl, by omega, ho4, HNWn, HR2, HSXn, ⟨(HNd.out.trans HQ.out).setCell (p := ⟨g, J * 2 + 1, none⟩) (.inr hbg) _⟩, rfl⟩, by omega⟩
        · obtain rfl : h1 = j := by omega
          have hjI : ¬ (h1 : Int) < (h1 : Int) := by omega
          have HRH := Bx.mk (show (rcG D.gone L).bind (rcH D.chg) = some Y by rw [HRG.out, Option.bind_some, ← HRC.out, List.drop_of_length_le (by rw [HH1.out]; exact Nat.le_refl _), rcH])
          have HSY := Bx.mk (show Sx 700 Y from fun x hx => by
            have h7 := HSX.out x hx
            have h8 := Nat.le_trans (sumH_le D.chg h1) HSM.out.hs
            exact ⟨h7.1, by omega, h7.2.2⟩)
          obtain ⟨d0, d1, d2, _⟩ := o3_at (HN.out.blk H3.out (fun q => q))
          clear HRC HRG HSX hlt
          repeat' (first | fail | go_values | go_skip | go_guarded | go_step | go_upon | go_back)
          (refine wp_loopM [none, some 1, some 2, none, none, none, some 6, some 7, some 8, some 9, some 10, some 11, some 12, some 13, some 14, some 15, some 16, some 17, some 18, some 19, some 20, some 21, some 22, some 23, some 24, some 25, some 26, some 27, some 28, some 29, some 30, some 31, some 32, some 33, some 34, some 35, some 36, some 37, some 38, some 39, some 40, some 41, some 42, some 43, some 44, some 45, some 46, some 47, some 48, some 49, some 50, some 51, some 52, some 53, some 54, some 55, some 56, some 57, some 58, some 59, some 60, some 61, some 62, some 63, some 64, some 65, some 66, some 67, some 68, some 69, some 70, some 71, some 72, some 73, some 74, some 75, some 76, some 77, some 78, some 79, some 80, some 81, some 82, some 83, some 84, some 85, some 86, some 87, some 88, some 89, some 90, some 91, some 92, some 93, some 94, some 95, some 96, some 97, some 98, some 99, some 100, some 101, some 102, some 103, some 104, some 105, some 106, some 107, some 108, some 109, some 110, some 111, some 112, some 113, some 114, some 115, some 116, some 117, some 118, some 119, some 120, some 121, some 122, some 123, some 124, some 125, some 126, some 127, some 128, some 129, some 130, some 131, some 132, some 133, some 134, some 135, none, none, some 138, some 139, some 140, some 141, some 142, some 143, some 144, some 145, some 146, some 147, some 148, some 149, some 150, some 151, some 152, some 153, some 154, some 155, some 156, some 157, some 158, some 159, some 160, some 161, some 162, some 163, some 164, some 165, some 166, some 167, some 168, some 169, some 170, some 171, some 172, some 173, some 174, some 175, some 176, some 177, some 178, some 179, some 180, some 181, some 182, some 183, some 184, some 185, some 186, some 187, some 188, some 189, some 190, some 191, some 192, some 193, some 194] (fun fs wr dM => (fun xv iv wr dd => ∃ (j : Nat) (o0 : Option Addr) (o1 o2 : Nat) (Z : List Et), iv = .int .i64 j ∧ xv = .slice o0 o1 o2 ∧ j ≤ c1 ∧ o1 ≤ 400 + j ∧ Bx (Nw w2.heap.size wr o0 o1 o2 Z) ∧ Bx (rcC L (D.come.drop j) Z = rcC L D.come Y) ∧ Bx (Sx 700 Z) ∧ Bx (New w2 wr) ∧ dd = c1 - j) (fs 7) (fs 138) wr dM) (by kernel_rfl) ?atStart ?round; (case' atStart => dsimp only [slotsOf, List.getD_cons_succ, List.getD_cons_zero]); (case' round => (intro dM_ J_ K_ fs wr hrel hJ_ hK_; simp only [Mix]; generalize fs 7 = u7 at hrel ⊢; generalize fs 138 = u138 at hrel ⊢; try dsimp only at hrel)))
          case atStart => exact ⟨_, 0, o0, o1, o2, Y, rfl, rfl, Nat.zero_le _, by omega, HNW, ⟨rfl⟩, HSY, HN, rfl⟩
          case round =>
            clear d0 d1 d2 HNW HSY HN
            obtain ⟨j, o0, o1, o2, Z, rfl, rfl, hj, ho4, HNW, HRC, HSZ, HN, rfl⟩ := hrel
            rename World => wz
            by_cases hlt : j < c1
            · have hjI : (j : Int) < (c1 : Int) := by omega
              have hjL : j < D.come.length := by rw [HC1.out]; exact hlt
              obtain ⟨b8, b9, s0, s1, s2, rfl, e0, e1, hcz⟩ := HD2.out.come.elz HN.out j hjL
              have HDC := Bx.mk (show D.come.drop j = D.come[j] :: D.come.drop (j + 1) from List.drop_eq_getElem_cons hjL)
              have HSE := Bx.mk (HSM.out.cs _ (List.getElem_mem hjL))
              generalize D.come[j] = x at *
              obtain ⟨xi, xl⟩ := x
              dsimp only at e0 e1 hcz HSE
              have hA := (Upd.refl Nowhere wz).alloc (.cells #[.int .u32 xi, .slice s0 s1 s2] 43)
              have HBX := Bx.mk (heap_alloc_new wz (.cells #[.int .u32 xi, .slice s0 s1 s2] 43))
              obtain ⟨n0, n1⟩ := e2_new wz xi s0 s1 s2
              have HFI := Bx.mk (refFindE_ix A n p L xi _ (HX2.out.new (HN.out.trans hA)) (by rw [HHL.out]; omega))
              rcases idxE_or L xi with ⟨q1, q2⟩ | ⟨J, hJ, q1, q2, _, _⟩
              rotate_left
              · rw [q1] at HFI
                have HNO := Bx.mk (show rcAll L D = none by unfold rcAll; rw [HRH.out, Option.bind_some, ← HRC.out, HDC.out, rcC]; dsimp only; rw [q2]; rfl)
                have hJ0 : (0 : Int) ≤ (J : Int) := by omega
                clear q1 q2
                repeat' (first | (go_at_call 21; (with_reducible refine (HFI.out).mono ?_); rintro ed wd ⟨rfl, hu⟩; dsimp only) | go_values | go_skip | go_guarded | go_step | go_upon | go_back)
                go_returns
                exact ⟨⟨_, _, _, _, rfl, PAns.no HNO.out⟩, (HU2.out.trans HN.out).trans (hA.trans hu)⟩
              · rw [q1] at HFI
                have HR2 := Bx.mk (show rcC L (D.come.drop (j + 1)) (inG false Z (xi, xl)) = rcC L D.come Y by rw [← HRC.out, HDC.out, rcC]; dsimp only; rw [q2]; rfl)
                clear q1 q2
                go_upto_block 12 with (first
                  | (go_at_call 21; (with_reducible refine (HFI.out).mono ?_); rintro ed wd ⟨rfl, hu⟩; dsimp only))
                have HNd := Bx.mk (HN.out.trans (hA.trans hu))
                have HZd := Bx.mk (HNW.out.new (hA.trans hu))
                have HXd := Bx.mk (Cz.new hcz (hA.trans hu))
                have HBd := Bx.mk (hu.blk HBX.out (fun q => q))
                have HZL := Bx.mk HNW.out.len
                have HBW := Bx.mk HNd.out.size
                clear e0 e1 hcz hA HBX n0 n1 HFI HN HNW hu HRC
                generalize wz.heap.size = BC at *
                repeat' (first | fail | go_values | go_skip | go_guarded | go_step | go_upon | go_back)
                (refine wp_loopM [none, some 1, some 2, none, none, none, some 6, none, some 8, some 9, some 10, some 11, some 12, some 13, some 14, some 15, some 16, some 17, some 18, some 19, some 20, none, some 22, some 23, some 24, some 25, some 26, some 27, some 28, some 29, some 30, some 31, some 32, some 33, some 34, some 35, some 36, some 37, some 38, some 39, some 40, some 41, some 42, some 43, some 44, some 45, some 46, some 47, some 48, some 49, some 50, some 51, some 52, some 53, some 54, some 55, some 56, some 57, some 58, some 59, some 60, some 61, some 62, some 63, some 64, some 65, some 66, some 67, some 68, some 69, some 70, some 71, some 72, some 73, some 74, some 75, some 76, some 77, some 78, some 79, some 80, some 81, some 82, some 83, some 84, some 85, some 86, some 87, some 88, some 89, some 90, some 91, some 92, some 93, some 94, some 95, some 96, some 97, some 98, some 99, some 100, some 101, some 102, some 103, some 104, some 105, some 106, some 107, some 108, some 109, some 110, some 111, some 112, some 113, some 114, some 115, some 116, some 117, some 118, some 119, some 120, some 121, some 122, some 123, some 124, some 125, some 126, some 127, some 128, some 129, some 130, some 131, some 132, some 133, some 134, some 135, none, none, none, some 139, some 140, some 141, some 142, some 143, some 144, some 145, some 146, none, none, some 149, some 150, some 151, some 152, some 153, some 154, some 155, some 156, some 157, some 158, some 159, some 160, some 161, some 162, some 163, some 164, some 165, some 166, some 167, some 168, some 169, some 170, some 171, some 172, some 173, some 174, some 175, some 176, some 177, some 178, some 179, some 180, some 181, some 182, some 183, some 184, some 185, some 186, some 187, some 188, some 189, some 190, some 191, some 192, some 193, some 194] (fun fs wr dM => (fun ov dv mv wr dd => ∃ (m : Nat) (d : Bool) (x0 : Option Addr) (x1 x2 : Nat) (vs : List E4) (V : List Et), mv = .int .i64 m ∧ dv = .bool d ∧ ov = .slice x0 x1 x2 ∧ m ≤ o1 ∧ x1 ≤ 2 * m ∧ vs.length = x1 ∧ Bx (wr.ownsRow wd.heap.size 43 2 (.slice x0 x1 x2) x1 (ec vs)) ∧ Bx (Al (Cz w2.heap.size wr) vs V) ∧ Bx (V ++ inG d (Z.drop m) (xi, xl) = inG false Z (xi, xl)) ∧ Bx (New wd wr) ∧ dd = o1 - m) (fs 22) (fs 23) (fs 149) wr dM) (by kernel_rfl) ?atStart ?round; (case' atStart => dsimp only [slotsOf, List.getD_cons_succ, List.getD_cons_zero]); (case' round => (intro dM_ J_ K_ fs wr hrel hJ_ hK_; simp only [Mix]; generalize fs 22 = u22 at hrel ⊢; generalize fs 23 = u23 at hrel ⊢; generalize fs 149 = u149 at hrel ⊢; try dsimp only at hrel)))
                case atStart => exact ⟨_, 0, false, none, 0, 0, [], [], rfl, rfl, rfl, Nat.zero_le _, Nat.zero_le _, rfl, ⟨World.ownsRow_nil _ _ _ _⟩, ⟨trivial⟩, ⟨rfl⟩, ⟨Upd.refl _ _⟩, rfl⟩
                case round =>
                  obtain ⟨m, d, x0, x1, x2, vs, V, rfl, rfl, rfl, hm, hx1, hvl, HO, HAV, HE, HQ, rfl⟩ := hrel
                  by_cases hmo : m < o1
                  · have hmI : (m : Int) < (o1 : Int) := by omega
                    have hmL : m < Z.length := by rw [HZL.out]; exact hmo
                    obtain ⟨g, y0, y1, y2, rfl, c0', c1', hcy⟩ := (HZd.out.new HQ.out).elz m hmL
                    have HT := Bx.mk (inG_step d Z (xi, xl) m hmL)
                    dsimp only at HT
                    generalize Z[m] = q at *
                    obtain ⟨i, l⟩ := q
                    dsimp only at c0' c1' hcy HT
                    have hA := (Upd.refl Nowhere wr).alloc (.cells #[.int .u32 i, .slice y0 y1 y2] 43)
                    have HBQ := Bx.mk (heap_alloc_new wr (.cells #[.int .u32 i, .slice y0 y1 y2] 43))
                    have HLT := Bx.mk (fun b (hb : (Value.slice x0 x1 x2).ownBlock = some b) => (World.ownsRow.lt HO.out b hb).2)
                    have HGE := Bx.mk (fun b (hb : (Value.slice x0 x1 x2).ownBlock = some b) => (World.ownsRow.lt HO.out b hb).1)
                    have HO1 := Bx.mk (own_new HO.out hA)
                    have HA1 := Bx.mk (HAV.out.map fun _ _ q => q.new hA)
                    have HN1 := Bx.mk (HQ.out.trans hA)
                    have HC1 := Bx.mk (Cz.new hcy hA)
                    go_upto_region 54 with (fail)
                    generalize wr.alloc (.cells #[.int .u32 i, .slice y0 y1 y2] 43) = wv at *
                    generalize wr.heap.size = BQ at *
                    have HBP := Bx.mk (HN1.out.blk HBd.out (fun q => q))
                    obtain ⟨p0, p1, _⟩ := o2_at HBP.out
                    obtain ⟨n0, n1, _⟩ := o2_at HBQ.out
                    clear c0' c1' hcy HO hA HAV HQ
                    obtain ⟨E, hE⟩ : ∃ E, (!d && decide (xi ≤ i)) = E := ⟨_, rfl⟩
                    rw [hE] at HT
                    obtain ⟨d', hd'⟩ : ∃ E, (d || decide (xi ≤ i)) = E := ⟨_, rfl⟩
                    rw [hd'] at HT
                    have HDD := Bx.mk (show d' = (d || E) by rw [← hd', ← hE]; cases d <;> simp)
                    have HEE := Bx.mk hE
                    clear hE hd'
                    (refine wp_cutM [none, some 1, some 2, none, none, none, some 6, none, some 8, some 9, some 10, some 11, some 12, some 13, some 14, some 15, some 16, some 17, some 18, some 19, some 20, none, none, none, some 24, none, some 26, some 27, some 28, some 29, some 30, some 31, some 32, some 33, some 34, some 35, some 36, some 37, some 38, some 39, some 40, some 41, some 42, some 43, some 44, some 45, some 46, some 47, some 48, some 49, some 50, some 51, some 52, some 53, some 54, some 55, some 56, some 57, some 58, some 59, some 60, some 61, some 62, some 63, some 64, some 65, some 66, some 67, some 68, some 69, some 70, some 71, some 72, some 73, some 74, some 75, some 76, some 77, some 78, some 79, some 80, some 81, some 82, some 83, some 84, some 85, some 86, some 87, some 88, some 89, some 90, some 91, some 92, some 93, some 94, some 95, some 96, some 97, some 98, some 99, some 100, some 101, some 102, some 103, some 104, some 105, some 106, some 107, some 108, some 109, some 110, some 111, some 112, some 113, some 114, some 115, some 116, some 117, some 118, some 119, some 120, some 121, some 122, some 123, some 124, some 125, some 126, some 127, some 128, some 129, some 130, some 131, some 132, some 133, some 134, some 135, none, none, none, some 139, some 140, some 141, some 142, some 143, some 144, some 145, some 146, none, none, none, some 150, some 151, some 152, some 153, some 154, some 155, some 156, some 157, some 158, some 159, some 160, some 161, some 162, some 163, some 164, some 165, some 166, some 167, some 168, some 169, some 170, some 171, some 172, some 173, some 174, some 175, some 176, some 177, some 178, some 179, some 180, some 181, some 182, some 183, some 184, some 185, some 186, some 187, some 188, some 189, some 190, some 191, some 192, some 193, some 194] (fun fs wx => (fun v wx => v = .bool E ∧ wx = wv) (fs 161) wx) ?first ?rest; (case' first => intro _ _ _ _); (case' rest => (intro fs wc hcut; simp only [Mix]; generalize fs 161 = u161 at hcut ⊢; try dsimp only at hcut)))
                    case first =>
                      have hE := HEE.out
                      cases d with
                      | true =>
                        obtain rfl : E = false := by rw [← hE]; rfl
                        repeat' (first | fail | go_values | go_skip | go_guarded | go_step | go_upon | go_back)
                        (refine met_cut (by assumption) (by kernel_rfl) (by kernel_rfl) ?rel; (case' rel => try dsimp only [slotsOf, List.getD_cons_succ, List.getD_cons_zero]))
                        case rel => exact ⟨rfl, rfl⟩
                      | false =>
                        by_cases hk : xi ≤ i
                        · have hkI : (xi : Int) ≤ (i : Int) := by omega
                          obtain rfl : E = true := by rw [← hE, decide_eq_true hk]; rfl
                          clear hE hk
                          repeat' (first | fail | go_values | go_skip | go_guarded | go_step | go_upon | go_back)
                          (refine met_cut (by assumption) (by kernel_rfl) (by kernel_rfl) ?rel; (case' rel => try dsimp only [slotsOf, List.getD_cons_succ, List.getD_cons_zero]))
                          case rel => exact ⟨rfl, rfl⟩
                        · have hkI : ¬ (xi : Int) ≤ (i : Int) := by omega
                          obtain rfl : E = false := by rw [← hE, decide_eq_false hk]; rfl
                          clear hE hk
                          repeat' (first | fail | go_values | go_skip | go_guarded | go_step | go_upon | go_back)
                          (refine met_cut (by assumption) (by kernel_rfl) (by kernel_rfl) ?rel; (case' rel => try dsimp only [slotsOf, List.getD_cons_succ, List.getD_cons_zero]))
                          case rel => exact ⟨rfl, rfl⟩
                    case rest =>
                      obtain ⟨rfl, hw⟩ := hcut
                      have hw' := hw.symm
                      subst hw'
                      clear hw
                      go_upto_if 161 with (fail)
                      (refine wp_cutM [none, some 1, some 2, none, none, none, some 6, none, some 8, some 9, some 10, some 11, some 12, some 13, some 14, some 15, some 16, some 17, some 18, some 19, some 20, none, some 22, some 23, some 24, none, some 26, some 27, some 28, some 29, some 30, some 31, some 32, some 33, some 34, some 35, some 36, some 37, some 38, some 39, some 40, some 41, some 42, some 43, some 44, some 45, some 46, some 47, some 48, some 49, some 50, some 51, some 52, some 53, some 54, some 55, some 56, some 57, some 58, some 59, some 60, some 61, some 62, some 63, some 64, some 65, some 66, some 67, some 68, some 69, some 70, some 71, some 72, some 73, some 74, some 75, some 76, some 77, some 78, some 79, some 80, some 81, some 82, some 83, some 84, some 85, some 86, some 87, some 88, some 89, some 90, some 91, some 92, some 93, some 94, some 95, some 96, some 97, some 98, some 99, some 100, some 101, some 102, some 103, some 104, some 105, some 106, some 107, some 108, some 109, some 110, some 111, some 112, some 113, some 114, some 115, some 116, some 117, some 118, some 119, some 120, some 121, some 122, some 123, some 124, some 125, some 126, some 127, some 128, some 129, some 130, some 131, some 132, some 133, some 134, some 135, none, none, none, some 139, some 140, some 141, some 142, some 143, some 144, some 145, some 146, none, none, none, some 150, some 151, some 152, some 153, some 154, some 155, some 156, some 157, some 158, some 159, some 160, some 161, some 162, some 163, some 164, some 165, some 166, some 167, some 168, some 169, some 170, some 171, some 172, some 173, some 174, some 175, some 176, some 177, some 178, some 179, some 180, some 181, some 182, some 183, some 184, some 185, some 186, some 187, some 188, some 189, some 190, some 191, some 192, some 193, some 194] (fun fs wx => (fun ov dv wx => ∃ (z0 : Option Addr) (z1 z2 : Nat) (us : List E4) (U : List Et), ov = .slice z0 z1 z2 ∧ dv = .bool d' ∧ z1 ≤ 2 * m + 1 ∧ us.length = z1 ∧ Bx (U = V ++ if E = true then [(xi, xl)] else []) ∧ Bx (wx.ownsRow wd.heap.size 43 2 (.slice z0 z1 z2) z1 (ec us)) ∧ Bx (Al (Cz w2.heap.size wx) us U) ∧ Bx (wx.heap[BQ]? = some (.cells #[.int .u32 i, .slice y0 y1 y2] 43 (0, 0))) ∧ Bx (Cz w2.heap.size wx (y0, y1, y2) l) ∧ Bx (New wd wx)) (fs 22) (fs 23) wx) ?first ?rest; (case' first => intro _ _ _ _); (case' rest => (intro fs wc hcut; simp only [Mix]; generalize fs 22 = u22 at hcut ⊢; generalize fs 23 = u23 at hcut ⊢; try dsimp only at hcut)))
                      case first =>
                        cases E with
                        | false =>
                          have hd := HDD.out
                          rw [Bool.or_false] at hd
                          subst hd
                          repeat' (first | fail | go_values | go_skip | go_guarded | go_step | go_upon | go_back)
                          (refine met_cut (by assumption) (by kernel_rfl) (by kernel_rfl) ?rel; (case' rel => try dsimp only [slotsOf, List.getD_cons_succ, List.getD_cons_zero]))
                          case rel => exact ⟨x0, x1, x2, vs, V, rfl, rfl, by omega, hvl, ⟨by simp⟩, HO1, HA1, HBQ, HC1, HN1⟩
                        | true =>
                          have hd := HDD.out
                          rw [Bool.or_true] at hd
                          subst hd
                          have hA2 := (Upd.refl Nowhere wv).alloc (.cells #[.int .u32 xi, .slice s0 s1 s2] 43)
                          have ho1 := own_new HO1.out hA2
                          have hvN := HN1.out.trans hA2
                          have hsr := src_one (P := Try.prog) (w := wv) Try.underlying22 [.int .u32 xi, .slice s0 s1 s2] 2 rfl (by intro u hu; simp at hu; rcases hu with rfl | rfl <;> rfl)
                          have HB4 := Bx.mk (hA2.blk HBQ.out (fun q => q))
                          have HC4 := Bx.mk (Cz.new HC1.out hA2)
                          have HA4 := Bx.mk (HA1.out.map fun _ _ q => q.new hA2)
                          have HX4 := Bx.mk (Cz.new HXd.out hvN)
                          repeat' (first | (at_builtin; refine wpList_appN _ rfl _ _ 22 22 rfl _ 43 (.agg #[.int .u32 0, .slice none 0 0]) 2 32 Try.underlying22 infoE rfl _ _ _ ho1 rfl _ _ _ hsr rfl _ hvN ?c1 ?c2 ?_; (case c1 => unfold maxLen; omega); (case c2 => omega); intro v5 w5 ho5 hu5 hk5 hv5); (obtain ⟨A5, c5, rfl, _⟩ := own_rd ho5) | go_values | go_skip | go_guarded | go_step | go_upon | go_back)
                          have HG := Bx.mk (grow_ent2 ho1 HA4.out HBW.out xi xl s0 s1 s2 HX4.out ho5 hk5)
                          have HC5 := Bx.mk (HC4.out.only (Only.of_app ho1 hk5) _ hk5 (fun b hb => Nat.le_trans HBW.out (own_ge ho1 b hb)))
                          have HB5 := Bx.mk (hk5.blk HB4.out (fun q => by have := HLT.out _ q; exact absurd this (Nat.lt_irrefl _)))
                          clear ho5 hk5 hv5 ho1 hsr
                          (refine met_cut (by assumption) (by kernel_rfl) (by kernel_rfl) ?rel; (case' rel => try dsimp only [slotsOf, List.getD_cons_succ, List.getD_cons_zero]))
                          case rel => exact ⟨A5, _, c5, vs ++ [(xi, s0, s1, s2)], V ++ [(xi, xl)], rfl, rfl, by omega, by rw [List.length_append, hvl]; rfl, ⟨by rw [if_pos rfl]⟩, ⟨HG.out.1⟩, ⟨HG.out.2⟩, HB5, HC5, ⟨hu5⟩⟩
                      case rest =>
                        obtain ⟨z0, z1, z2, us, U, rfl, rfl, hz1, hul, HU, HO2, HA2, HBQ2, HC2, HN2⟩ := hcut
                        rename World => wy
                        have HE2 := Bx.mk (show (U ++ [(i, l)]) ++ inG d' (Z.drop (m + 1)) (xi, xl) = inG false Z (xi, xl) by rw [← HE.out, HT.out, HU.out]; simp)
                        clear HO1 HA1 HN1 HC1 HBQ HLT HGE n0 n1 p0 p1 HBP HT
                        obtain ⟨n0, n1, _⟩ := o2_at HBQ2.out
                        have hA2 := (Upd.refl Nowhere wy).alloc (.cells #[.int .u32 i, .slice y0 y1 y2] 43)
                        have ho1 := own_new HO2.out hA2
                        have hvN := HN2.out.trans hA2
                        have hsr := src_one (P := Try.prog) (w := wy) Try.underlying22 [.int .u32 i, .slice y0 y1 y2] 2 rfl (by intro u hu; simp at hu; rcases hu with rfl | rfl <;> rfl)
                        have HC4 := Bx.mk (Cz.new HC2.out hA2)
                        have HA4 := Bx.mk (HA2.out.map fun _ _ q => q.new hA2)
                        repeat' (first | (at_builtin; refine wpList_appN _ rfl _ _ 22 22 rfl _ 43 (.agg #[.int .u32 0, .slice none 0 0]) 2 32 Try.underlying22 infoE rfl _ _ _ ho1 rfl _ _ _ hsr rfl _ hvN ?c1 ?c2 ?_; (case c1 => unfold maxLen; omega); (case c2 => omega); intro v5 w5 ho5 hu5 hk5 hv5); (obtain ⟨A5, c5, rfl, _⟩ := own_rd ho5) | go_values | go_skip | go_guarded | go_step | go_upon | go_back)
                        have HG := Bx.mk (grow_ent2 ho1 HA4.out HBW.out i l y0 y1 y2 HC4.out ho5 hk5)
                        clear ho5 hk5 hv5 ho1 hsr
                        (refine met_loop (by assumption) (by kernel_rfl) (by kernel_rfl) ?rel; (case' rel => try dsimp only [slotsOf, List.getD_cons_succ, List.getD_cons_zero]))
                        case rel => exact ⟨_, ⟨m + 1, d', A5, _, c5, us ++ [(i, y0, y1, y2)], U ++ [(i, l)], by go_num, rfl, rfl, by omega, by omega, by rw [List.length_append, hul]; rfl, ⟨HG.out.1⟩, ⟨HG.out.2⟩, HE2, ⟨hu5⟩, rfl⟩, by omega⟩
                  · obtain rfl : o1 = m := by omega
                    have hmI : ¬ (o1 : Int) < (o1 : Int) := by omega
                    have HDR0 := Bx.mk (show Z.drop o1 = [] from List.drop_of_length_le (by rw [HZL.out]; exact Nat.le_refl _))
                    rw [HDR0.out] at HE
                    have HSN := Bx.mk (show Sx 700 (inG false Z (xi, xl)) by
                      intro x hx
                      rcases (inG_mem Z (xi, xl) x).1 hx with rfl | hx
                      · exact ⟨HSE.out.1, Nat.le_trans HSE.out.2.1 (by omega), HSE.out.2.2⟩
                      · exact HSZ.out x hx)
                    have HLN := Bx.mk (show (inG false Z (xi, xl)).length ≤ o1 + 1 by have := inG_len false Z (xi, xl); rw [HZL.out] at this; exact this)
                    have HVL := Bx.mk (show vs.length = V.length from HAV.out.len)
                    obtain ⟨e0, e1, _⟩ := o2_at (HQ.out.blk HBd.out (fun q => q))
                    clear hmo HDR0
                    cases d with
                    | true =>
                      have HV := Bx.mk (show V = inG false Z (xi, xl) by rw [← HE.out, inG]; simp)
                      have hx9 : x1 ≤ o1 + 1 := by have := HLN.out; rw [← HV.out] at this; have := HVL.out; omega
                      have HNWn := Bx.mk (show Nw w2.heap.size wr x0 x1 x2 (inG false Z (xi, xl)) from ⟨vs, own_lower HO.out HBW.out, hvl, by rw [← HV.out]; exact HAV.out⟩)
                      repeat' (first | fail | go_values | go_skip | go_guarded | go_step | go_upon | go_back)
                      (refine met_loop (by assumption) (by kernel_rfl) (by kernel_rfl) ?rel; (case' rel => try dsimp only [slotsOf, List.getD_cons_succ, List.getD_cons_zero]))
                      case rel => exact ⟨_, ⟨j + 1, x0, x1, x2, _, by go_num, rfl, by omega, by omega, HNWn, HR2, HSN, ⟨HNd.out.trans HQ.out⟩, rfl⟩, by omega⟩
                    | false =>
                      have HV := Bx.mk (show V ++ [(xi, xl)] = inG false Z (xi, xl) by rw [← HE.out, inG]; simp)
                      have hx9 : x1 + 1 ≤ o1 + 1 := by have := HLN.out; rw [← HV.out, List.length_append, List.length_singleton] at this; have := HVL.out; omega
                      have hA2 := (Upd.refl Nowhere wr).alloc (.cells #[.int .u32 xi, .slice s0 s1 s2] 43)
                      have ho1 := own_new HO.out hA2
                      have hvN := HQ.out.trans hA2
                      have hsr := src_one (P := Try.prog) (w := wr) Try.underlying22 [.int .u32 xi, .slice s0 s1 s2] 2 rfl (by intro u hu; simp at hu; rcases hu with rfl | rfl <;> rfl)
                      have HA4 := Bx.mk (HAV.out.map fun _ _ q => q.new hA2)
                      have HX4 := Bx.mk (Cz.new HXd.out hvN)
                      repeat' (first | (at_builtin; refine wpList_appN _ rfl _ _ 22 22 rfl _ 43 (.agg #[.int .u32 0, .slice none 0 0]) 2 32 Try.underlying22 infoE rfl _ _ _ ho1 rfl _ _ _ hsr rfl _ hvN ?c1 ?c2 ?_; (case c1 => unfold maxLen; omega); (case c2 => omega); intro v5 w5 ho5 hu5 hk5 hv5); (obtain ⟨A5, c5, rfl, _⟩ := own_rd ho5) | go_values | go_skip | go_guarded | go_step | go_upon | go_back)
                      have HG := Bx.mk (grow_ent2 ho1 HA4.out HBW.out xi xl s0 s1 s2 HX4.out ho5 hk5)
                      clear ho5 hk5 hv5 ho1 hsr
                      have HNWn := Bx.mk (show Nw w2.heap.size w5 A5 (x1 + 1) c5 (inG false Z (xi, xl)) from ⟨_, own_lower HG.out.1 HBW.out, by rw [List.length_append, hvl]; rfl, by rw [← HV.out]; exact HG.out.2⟩)
                      (refine met_loop (by assumption) (by kernel_rfl) (by kernel_rfl) ?rel; (case' rel => try dsimp only [slotsOf, List.getD_cons_succ, List.getD_cons_zero]))
                      case rel => exact ⟨_, ⟨j + 1, A5, _, c5, _, by go_num, rfl, by omega, by omega, HNWn, HR2, HSN, ⟨HNd.out.trans hu5⟩, rfl⟩, by omega⟩
            · obtain rfl : c1 = j := by omega
              have hjI : ¬ (c1 : Int) < (c1 : Int) := by omega
              have HRR := Bx.mk (show rcAll L D = some Z by unfold rcAll; rw [HRH.out, Option.bind_some, ← HRC.out, List.drop_of_length_le (by rw [HC1.out]; exact Nat.le_refl _), rcC])
              have HZE := Bx.mk HNW.out.enl
              have hZL := HNW.out.len
              have HSZm := Bx.mk (HSZ.out.sm (show 700 ≤ 1000 by omega))
              have HSLm := Bx.mk (HSM.out.x.sm (show 400 ≤ 1000 by omega))
              have CD := Bx.mk (refDiff_any A n p L o0 o1 o2 Z wz (HX2.out.new HN.out) HZE.out (by omega) (by omega) HSLm.out HSZm.out)
              have HDE := Bx.mk (show diffE L Z = frm 0 Z by unfold diffE; rw [if_neg (by simp [HZ.out])])
              rw [HDE.out] at CD
              have HSD := Bx.mk (diffD_smD (a := L) (b := Z) (by rw [HHL.out]; omega) (by omega) HSZm.out)
              have HDD := Bx.mk (fun (h : frm 0 Z = 0) => show diffD L Z = mrg L Z by unfold diffD; rw [HDE.out, if_pos h])
              clear HRC HRH hlt HDE
              go_upto_region 64 with (first
                | (go_at_call 19; (with_reducible refine (CD.out).mono ?_); rintro e8 w8 ⟨⟨gg, cc, hh, rfl, hdn⟩, hu8⟩; obtain ⟨a0, a2, b0, b2, f0, f2, rfl, rfl, rfl, hdr⟩ := hdn.r; dsimp only))
              have hX := (Upd.refl Nowhere w8).alloc (.cells #[.slice a0 (diffD L Z).gone.length a2, .slice b0 (diffD L Z).come.length b2, .slice f0 (diffD L Z).chg.length f2] 26)
              have hN8 := (HN.out.trans hu8).trans hX
              obtain ⟨z0, z1, z2, _⟩ := o3_at (heap_alloc_new w8 (.cells #[.slice a0 (diffD L Z).gone.length a2, .slice b0 (diffD L Z).come.length b2, .slice f0 (diffD L Z).chg.length f2] 26))
              obtain ⟨x0, x1, x2, _⟩ := o3_at (hN8.blk H3.out (fun q => q))
              have HSA := Bx.mk (refSame_any a0 _ a2 b0 _ b2 f0 _ f2 (diffD L Z) g0 g1 g2 c0 c1 c2 h0 h1 h2 D _ (hdr.new hX) (HD2.out.new hN8) HSD.out)
              have HZ8 := Bx.mk (HZE.out.new (hu8.trans hX))
              have HN8 := Bx.mk hN8
              clear hdr hdn hu8 hX hN8 CD
              generalize w8.alloc (.cells #[.slice a0 (diffD L Z).gone.length a2, .slice b0 (diffD L Z).come.length b2, .slice f0 (diffD L Z).chg.length f2] 26) = w9 at *
              generalize (diffD L Z).gone.length = ga at *
              generalize (diffD L Z).come.length = gb at *
              generalize (diffD L Z).chg.length = gc at *
              by_cases hf : frm 0 Z = 0
              · rw [hf]
                have HF := Bx.mk hf
                have HQ := Bx.mk (HDD.out hf)
                rw [HQ.out] at HSA
                clear hf HDD
                by_cases he : mrg L Z = D
                · rw [decide_eq_true he] at HSA
                  have HE := Bx.mk he
                  have CT := Bx.mk (fun (w' : World) (k : New w9 w') => Twins_any o0 o1 o2 Z w' (HZ8.out.new k) (by omega) (fun x hx => (HSZm.out x hx).len))
                  clear he
                  repeat' (first | (first
                    | (go_at_call 16; (with_reducible refine (HSA.out).mono ?_); rintro ea wa ⟨rfl, hua⟩; dsimp only)
                    | (go_at_call 11; (with_reducible refine (CT.out _ hua).mono ?_); rintro eb wb ⟨vb, rfl, henb, hub⟩; dsimp only)) | go_values | go_skip | go_guarded | go_step | go_upon | go_back)
                  go_returns
                  obtain ⟨A', c', rfl, hl⟩ := henb.enl
                  exact ⟨⟨_, _, _, _, rfl, .inl ⟨Z, HRR.out, HF.out, HE.out, rfl, hl⟩⟩, HU2.out.trans (HN8.out.trans (hua.trans hub))⟩
                · rw [decide_eq_false he] at HSA
                  have HE := Bx.mk he
                  clear he
                  repeat' (first | (go_at_call 16; (with_reducible refine (HSA.out).mono ?_); rintro ea wa ⟨rfl, hua⟩; dsimp only) | go_values | go_skip | go_guarded | go_step | go_upon | go_back)
                  go_returns
                  exact ⟨⟨_, _, _, _, rfl, .inr ⟨fun N hN hq => HE.out (by rw [HRR.out] at hN; obtain rfl := Option.some.inj hN; exact hq.2), rfl, rfl, rfl, rfl⟩⟩, HU2.out.trans (HN8.out.trans hua)⟩
              · have hfb : (frm 0 Z != 0) = true := by rw [bne_iff_ne]; exact hf
                have HF := Bx.mk hf
                obtain ⟨f, hff⟩ : ∃ f, frm 0 Z = f := ⟨_, rfl⟩
                rw [hff] at hfb ⊢
                clear hff hf HDD
                repeat' (first | fail | go_values | go_skip | go_guarded | go_step | go_upon | go_back)
                go_returns
                exact ⟨⟨_, _, _, _, rfl, .inr ⟨fun N hN hq => HF.out (by rw [HRR.out] at hN; obtain rfl := Option.some.inj hN; exact hq.1), rfl, rfl, rfl, rfl⟩⟩, HU2.out.trans HN8.out⟩
end Go.Proofs.Ytdnkdmdmekdfkaa
namespace Go.Proofs.Ytdnkdmdmekdfkaa
open Go.RowKit
set_option maxRecDepth 4000 in
set_option maxHeartbeats 16000000 in
theorem TwinD_any (g0 : Option Addr) (g1 g2 : Nat) (c0 : Option Addr) (c1 c2 : Nat) (h0 : Option Addr) (h1 h2 : Nat) (D : Dl) (w : World) (hd : DlR w g0 g1 g2 c0 c1 h0 h1 D) (hg : g1 ≤ 1000) (hc : c1 ≤ 1000) (hcs : ∀ x ∈ D.come, x.2.length ≤ 1000) (hh : h1 ≤ 1000) (hhs : ∀ c ∈ D.chg, c.nw.length ≤ 1000 ∧ c.st.length ≤ 1000) :
    Calls Try.prog 12 #[.agg #[.slice g0 g1 g2, .slice c0 c1 c2, .slice h0 h1 h2]] w fun e w' => (∃ gv cv hv : Value, e = .returned (.agg #[gv, cv, hv]) ∧ DlN w.heap.size w' gv cv hv D) ∧ New w w' := by
  have U1 := (Upd.refl Nowhere w).alloc (.cells #[.slice g0 g1 g2, .slice c0 c1 c2, .slice h0 h1 h2] 26)
  have hb1 := heap_alloc_new w (.cells #[.slice g0 g1 g2, .slice c0 c1 c2, .slice h0 h1 h2] 26)
  have U2 := (Upd.refl Nowhere (w.alloc (.cells #[.slice g0 g1 g2, .slice c0 c1 c2, .slice h0 h1 h2] 26))).alloc (.cells #[.slice none 0 0, .slice none 0 0, .slice none 0 0] 26)
  have hb2 := heap_alloc_new (w.alloc (.cells #[.slice g0 g1 g2, .slice c0 c1 c2, .slice h0 h1 h2] 26)) (.cells #[.slice none 0 0, .slice none 0 0, .slice none 0 0] 26)
  have e1 : (w.alloc (.cells #[.slice g0 g1 g2, .slice c0 c1 c2, .slice h0 h1 h2] 26)).heap.size = w.heap.size + 1 := by simp
  rw [e1] at hb2
  have HOB := Bx.mk (U2.blk hb1 (fun q => q))
  have HRB := Bx.mk hb2
  have HU := Bx.mk (U1.trans U2)
  have HD1 := Bx.mk (hd.new (U1.trans U2))
  have HB0 := Bx.mk (show w.heap.size ≤ w.heap.size + 1 by omega)
  have HG1 := Bx.mk (show D.gone.length = g1 from hd.gone.len)
  have HH1 := Bx.mk hd.chg.len
  clear hb1 hb2 e1 U1 U2 hd
  go_enter Try.func12, Try.ntmps12
  go_upto_region 1 with (fail)
  generalize (w.alloc (.cells #[.slice g0 g1 g2, .slice c0 c1 c2, .slice h0 h1 h2] 26)).alloc (.cells #[.slice none 0 0, .slice none 0 0, .slice none 0 0] 26) = w1 at *
  generalize w.heap.size + 1 = B2 at *
  generalize hB1 : w.heap.size = B1 at *
  have HB1 := Bx.mk hB1
  clear hB1
  have HTW := Bx.mk (fun (w' : World) (k : New w1 w') => Twins_any c0 c1 c2 D.come w' (HD1.out.come.new k) (by omega) hcs)
  go_cut [3] (fun v wx => ∃ (B5 : Nat) (x0 : Option Addr) (x2 : Nat) (y0 : Option Addr) (y1 y2 : Nat), v = .pointer (some ⟨B5, 0, none⟩) ∧ w1.heap.size ≤ B5 ∧ Bx (wx.heap[B5]? = some (.cells #[.slice x0 g1 x2, .slice y0 y1 y2, .slice none 0 0] 26 (0, 0))) ∧ Bx (DlN w1.heap.size wx (.slice x0 g1 x2) (.slice y0 y1 y2) (.slice none 0 0) ⟨D.gone, D.come, []⟩) ∧ Bx (New w1 wx))
  case first =>
    refine wp_region_any (by kernel_rfl) ?_
    refine wp_free 9 37 (PhiOf [fun v w' => ∃ B, v = .slice (some ⟨B, 0, none⟩) 0 0 ∧ w'.heap[B]? = some (.cells #[] 40 (0, 0)) ∧ w1.heap.size ≤ B, fun v _ => v = .pointer (some ⟨B1, 0, none⟩), fun v _ => v = .slice g0 g1 g2, fun v w' => w'.ownsRow w1.heap.size 40 1 v g1 (u32s D.gone), fun v _ => v = .pointer (some ⟨B1, 1, none⟩), fun v _ => v = .slice c0 c1 c2, fun v w' => EnN w1.heap.size w' v D.come, fun v w' => ∃ g c, v = .agg #[g, c, .slice none 0 0] ∧ w'.ownsRow w1.heap.size 40 1 g g1 (u32s D.gone) ∧ EnN w1.heap.size w' c D.come, fun v w' => ∃ B5, v = .pointer (some ⟨B5, 0, none⟩) ∧ w1.heap.size ≤ B5 ∧ w'.heap[B5]? = some (.cells #[.slice none 0 0, .slice none 0 0, .slice none 0 0] 26 (0, 0))]) (PhiOf_stable ⟨fun _ _ _ hn ⟨B, h1, h2, h3⟩ => ⟨B, h1, hn.blk h2 (fun q => q), h3⟩, fun _ _ _ _ h => h, fun _ _ _ _ h => h, fun _ _ _ hn h => own_new h hn, fun _ _ _ _ h => h, fun _ _ _ _ h => h, fun _ _ _ hn h => h.new hn, fun _ _ _ hn ⟨g, c, h1, h2, h3⟩ => ⟨g, c, h1, own_new h2 hn, h3.new hn⟩, fun _ _ _ hn ⟨B, h1, h2, h3⟩ => ⟨B, h1, h2, hn.blk h3 (fun q => q)⟩, trivial⟩) (by kernel_rfl) (by kernel_rfl) (by kernel_rfl) (by kernel_rfl) ?_ ?_
    · intro a w' K i o hi ho met hK
      have hi' : i = 0 ∨ i = 1 ∨ i = 2 ∨ i = 3 ∨ i = 4 ∨ i = 5 ∨ i = 6 ∨ i = 7 ∨ i = 8 := by have := (mem_heads.1 hi).1; omega
      have hN := met.new
      have hN' : New w1 w' := ((Upd.refl Nowhere w1).drew).trans hN
      obtain ⟨q0, q1, q2, _⟩ := o3_at (hN'.blk HOB.out (fun q => q))
      rcases hi' with rfl | rfl | rfl | rfl | rfl | rfl | rfl | rfl | rfl
      all_goals cases ho
      · refine free_run (.slice (some ⟨w'.heap.size, 0, none⟩) 0 0) (w'.alloc (.cells #[] 40)) (by unfold execOp; go_simp) (hK _ _ ((Upd.refl _ _).alloc _) ⟨_, rfl, heap_alloc_new _ _, hN'.size⟩)
      · have e1 := met.b 1 _ rfl (by kernel_rfl)
        refine free_run (.pointer (some ⟨B1, 0, none⟩)) w' (by unfold execOp; go_simp) (hK _ _ (Upd.refl _ _) rfl)
      · have e7 : a.tmps[7]?.getD undef = .pointer (some ⟨B1, 0, none⟩) := met.d 1 7 (by kernel_rfl)
        refine free_run (.slice g0 g1 g2) w' (by unfold execOp; go_simp) (hK _ _ (Upd.refl _ _) rfl)
      · have e6 : (fun v w' => ∃ B, v = .slice (some ⟨B, 0, none⟩) 0 0 ∧ w'.heap[B]? = some (.cells #[] 40 (0, 0)) ∧ w1.heap.size ≤ B) (a.tmps[6]?.getD undef) w' := met.d 0 6 (by kernel_rfl)
        have e8 : a.tmps[8]?.getD undef = .slice g0 g1 g2 := met.d 2 8 (by kernel_rfl)
        obtain ⟨B, hb, hb2, hb3⟩ := e6
        have hsr := ((HD1.out.gone.rd.new hN').src (P := Try.prog) (n := g1) (c := g2) (size := 1) (tx := 23) Try.underlying23 HD1.out.gone.nil (by rw [u32s_length, HG1.out, Nat.mul_one]) (u32s_one _))
        obtain ⟨i0, hi0, hz0, hs0, hb0⟩ := info_parts infoI
        obtain ⟨v', w'', hr, ho, hN2⟩ := run_append_lit0 (P := Try.prog) (w := w') w1.heap.size B 23 23 23 40 i0 _ 1 4 hs0 hb0 rfl hb2 hb3 _ g1 _ (Src.app Try.underlying23 hi0 hz0 (hs0.symm ▸ hsr)) (by unfold maxLen; omega) (by omega) hN'.size
        refine free_run v' w'' (by unfold execOp; simp only [List.getElem_toArray, List.getElem_cons_succ, List.getElem_cons_zero, resolve, invoke, builtin, Sem.run_bind, Sem.run_pure, Result.andThen_ok, List.map_toArray, List.map_cons, List.map_nil, eval_tmp, hb, e8, hr]) (hK _ _ hN2 ho)
      · have e1 := met.b 1 _ rfl (by kernel_rfl)
        refine free_run (.pointer (some ⟨B1, 1, none⟩)) w' (by unfold execOp; go_simp) (hK _ _ (Upd.refl _ _) rfl)
      · have e10 : a.tmps[10]?.getD undef = .pointer (some ⟨B1, 1, none⟩) := met.d 4 10 (by kernel_rfl)
        refine free_run (.slice c0 c1 c2) w' (by unfold execOp; go_simp) (hK _ _ (Upd.refl _ _) rfl)
      · have e11 : a.tmps[11]?.getD undef = .slice c0 c1 c2 := met.d 5 11 (by kernel_rfl)
        unfold Oper.wp execOp
        go_simp
        (first | (go_at_call 11; (with_reducible refine (HTW.out _ hN').mono ?_); rintro e2 w2 ⟨v2, rfl, k1, k2⟩; dsimp only))
        exact hK _ _ k2 (k1.lower hN'.size)
      · have e9 : (fun v w' => w'.ownsRow w1.heap.size 40 1 v g1 (u32s D.gone)) (a.tmps[9]?.getD undef) w' := met.d 3 9 (by kernel_rfl)
        have e12 : (fun v w' => EnN w1.heap.size w' v D.come) (a.tmps[12]?.getD undef) w' := met.d 6 12 (by kernel_rfl)
        obtain ⟨A6, p6, h6, _⟩ := own_rd e9
        obtain ⟨A7, p7, h7, _⟩ := EnN.enl e12
        refine free_run (.agg #[.slice A6 g1 p6, .slice A7 D.come.length p7, .slice none 0 0]) w' (by unfold execOp; go_simp) (hK _ _ (Upd.refl _ _) ⟨_, _, rfl, by rw [← h6]; exact e9, by rw [← h7]; exact e12⟩)
      · refine free_run (.pointer (some ⟨w'.heap.size, 0, none⟩)) (w'.alloc (.cells #[.slice none 0 0, .slice none 0 0, .slice none 0 0] 26)) (by unfold execOp; go_simp) (hK _ _ ((Upd.refl _ _).alloc _) ⟨_, rfl, hN'.size, heap_alloc_new _ _⟩)
    · intro vs w' hw hΦ
      have vp0 : (fun v w' => ∃ B, v = .slice (some ⟨B, 0, none⟩) 0 0 ∧ w'.heap[B]? = some (.cells #[] 40 (0, 0)) ∧ w1.heap.size ≤ B) (vs 0) w' := hΦ 0 (by simp [heads])
      have vp1 : vs 1 = .pointer (some ⟨B1, 0, none⟩) := hΦ 1 (by simp [heads])
      have vp2 : vs 2 = .slice g0 g1 g2 := hΦ 2 (by simp [heads])
      have vp3 : (fun v w' => w'.ownsRow w1.heap.size 40 1 v g1 (u32s D.gone)) (vs 3) w' := hΦ 3 (by simp [heads])
      have vp4 : vs 4 = .pointer (some ⟨B1, 1, none⟩) := hΦ 4 (by simp [heads])
      have vp5 : vs 5 = .slice c0 c1 c2 := hΦ 5 (by simp [heads])
      have vp6 : (fun v w' => EnN w1.heap.size w' v D.come) (vs 6) w' := hΦ 6 (by simp [heads])
      have vp7 : (fun v w' => ∃ g c, v = .agg #[g, c, .slice none 0 0] ∧ w'.ownsRow w1.heap.size 40 1 g g1 (u32s D.gone) ∧ EnN w1.heap.size w' c D.come) (vs 7) w' := hΦ 7 (by simp [heads])
      have vp8 : (fun v w' => ∃ B5, v = .pointer (some ⟨B5, 0, none⟩) ∧ w1.heap.size ≤ B5 ∧ w'.heap[B5]? = some (.cells #[.slice none 0 0, .slice none 0 0, .slice none 0 0] 26 (0, 0))) (vs 8) w' := hΦ 8 (by simp [heads])
      refine tail_at [(0, some 6), (1, some 7), (2, some 8), (3, some 9), (4, some 10), (5, some 11), (6, some 12), (7, some 13), (8, some 3)] vs (by kernel_rfl) ?_
      simp only [List.map, putAll]
      clear hΦ
      generalize vs 0 = v0 at *
      generalize vs 1 = v1 at *
      generalize vs 2 = v2 at *
      generalize vs 3 = v3 at *
      generalize vs 4 = v4 at *
      generalize vs 5 = v5 at *
      generalize vs 6 = v6 at *
      generalize vs 7 = v7 at *
      generalize vs 8 = v8 at *
      subst vp1
      subst vp2
      subst vp4
      subst vp5
      obtain ⟨B5, rfl, hB5, hob5⟩ := vp8
      obtain ⟨gg, cc, rfl, hg, hc⟩ := vp7
      have hN' : New w1 w' := ((Upd.refl Nowhere w1).drew).trans hw
      obtain ⟨A6, p6, rfl, _⟩ := own_rd hg
      obtain ⟨A7, p7, rfl, _⟩ := hc.enl
      obtain ⟨z0, z1, z2, zf⟩ := o3_at hob5
      clear vp0 vp3 vp6
      have HOB5 := Bx.mk hob5
      have HDL := Bx.mk (show DlN w1.heap.size w' (.slice A6 g1 p6) (.slice A7 D.come.length p7) (.slice none 0 0) ⟨D.gone, D.come, []⟩ from ⟨by unfold GoN; dsimp only; rw [HG1.out]; exact hg, hc, [], World.ownsRow_nil _ _ _ _, trivial⟩)
      clear hob5 hg hc
      simp only [List.drop_succ_cons, List.drop_zero]
      go_frame
      repeat' (first | fail | go_values | go_skip | go_guarded | go_step | go_upon | go_back)
      go_meet
      case rel => exact ⟨B5, A6, p6, A7, D.come.length, p7, rfl, hB5, ⟨o3_set HOB5.out _ _ _⟩, ⟨(Only.of_obj HOB5.out (upd_set3 _ _ _ _ _)).dl HDL.out (by decide) (by decide) (by decide) (by decide)⟩, ⟨((hN'.setCell (p := ⟨B5, 0, none⟩) (.inr hB5) _).setCell (p := ⟨B5, 1, none⟩) (.inr hB5) _).setCell (p := ⟨B5, 2, none⟩) (.inr hB5) _⟩⟩
  case rest =>
    obtain ⟨B5, x0, x2, y0, y1, y2, rfl, hB5, HO5, HDN, HN⟩ := hcut
    rename World => wc
    obtain ⟨q0, q1, q2, _⟩ := o3_at (HN.out.blk HOB.out (fun q => q))
    clear HTW
    repeat' (first | fail | go_values | go_skip | go_guarded | go_step | go_upon | go_back)
    go_loopw [17] (fun iv wr => ∃ (j : Nat) (m0 : Option Addr) (m1 m2 : Nat), iv = .int .i64 j ∧ j ≤ h1 ∧ Bx (wr.heap[B5]? = some (.cells #[.slice x0 g1 x2, .slice y0 y1 y2, .slice m0 m1 m2] 26 (0, 0))) ∧ Bx (DlN w1.heap.size wr (.slice x0 g1 x2) (.slice y0 y1 y2) (.slice m0 m1 m2) ⟨D.gone, D.come, D.chg.take j⟩) ∧ Bx (New w1 wr)) (fun iv _ => h1 - (intOf iv).toNat)
    case atStart => exact ⟨0, none, 0, 0, rfl, Nat.zero_le _, HO5, HDN, HN⟩
    case round =>
      clear q0 q1 q2 HO5 HDN HN
      obtain ⟨j, m0, m1, m2, rfl, hj, HO5, HDN, HN⟩ := hrel
      by_cases hlt : j < h1
      · have hjI : (j : Int) < (h1 : Int) := by omega
        have hjL : j < D.chg.length := by rw [HH1.out]; exact hlt
        obtain ⟨b8, b9, s0, s1, s2, u0, u1, u2, rfl, e0, e1, e2, e3, hcn, hcq⟩ := (HD1.out.chg.new HN.out).el j hjL
        have HTK := Bx.mk (List.take_succ_eq_append_getElem hjL)
        have HSZ := Bx.mk (hhs _ (List.getElem_mem hjL))
        have htl : (D.chg.take j).length ≤ j := by rw [List.length_take]; exact Nat.min_le_left _ _
        generalize D.chg[j] = x at *
        obtain ⟨ci, cl, nq, sq⟩ := x
        dsimp only at e0 e1 e2 e3 hcn hcq HSZ
        generalize D.chg.take j = CH at *
        obtain ⟨LO, hLO⟩ : ∃ z, cl.toNat = z := ⟨_, rfl⟩
        rw [hLO] at e1
        have HLO := Bx.mk hLO
        have hA := (Upd.refl Nowhere wr).alloc (.cells #[.int .u32 ci, .int .u8 LO, .slice s0 s1 s2, .slice u0 u1 u2] 57)
        have HBX := Bx.mk (heap_alloc_new wr (.cells #[.int .u32 ci, .int .u8 LO, .slice s0 s1 s2, .slice u0 u1 u2] 57))
        have CT1 := Bx.mk (fun (w' : World) (k : New (wr.alloc (.cells #[.int .u32 ci, .int .u8 LO, .slice s0 s1 s2, .slice u0 u1 u2] 57)) w') => TwinC_any s0 s1 s2 nq w' (hcn.new (hA.trans k)) HSZ.out.1)
        have CT2 := Bx.mk (fun (w' : World) (k : New (wr.alloc (.cells #[.int .u32 ci, .int .u8 LO, .slice s0 s1 s2, .slice u0 u1 u2] 57)) w') => TwinC_any u0 u1 u2 sq w' (hcq.new (hA.trans k)) HSZ.out.2)
        have HNv := Bx.mk (HN.out.trans hA)
        have HNw := Bx.mk hA
        clear hcn hcq hLO hA
        go_upto_region 5 with (fail)
        generalize wr.alloc (.cells #[.int .u32 ci, .int .u8 LO, .slice s0 s1 s2, .slice u0 u1 u2] 57) = wv at *
        obtain ⟨BX, hBX⟩ : ∃ x, wr.heap.size = x := ⟨_, rfl⟩
        have hBXw : wr.heap.size ≤ BX := Nat.le_of_eq hBX
        rw [hBX] at HBX ⊢
        clear e0 e1 e2 e3 hBX
        go_cut [] (fun wx => ∃ (x0 : Option Addr) (x1 x2 : Nat) (y0 : Option Addr) (y1 y2 : Nat), Bx (wx.heap[BX]? = some (.cells #[.int .u32 ci, .int .u8 LO, .slice x0 x1 x2, .slice y0 y1 y2] 57 (0, 0))) ∧ Bx (Cn w1.heap.size wx (x0, x1, x2) nq) ∧ Bx (Cn w1.heap.size wx (y0, y1, y2) sq) ∧ Bx (New wr wx))
        case first =>
          refine wp_region_any (by kernel_rfl) ?_
          refine wp_free 7 37 (PhiOf [fun v _ => v = .pointer (some ⟨BX, 2, none⟩), fun v _ => v = .slice s0 s1 s2, fun v w' => ∃ s : Sl, v = .slice s.1 s.2.1 s.2.2 ∧ Cn w1.heap.size w' s nq, fun v _ => v = .pointer (some ⟨BX, 3, none⟩), fun v _ => v = .slice u0 u1 u2, fun v w' => ∃ s : Sl, v = .slice s.1 s.2.1 s.2.2 ∧ Cn w1.heap.size w' s sq, fun v _ => v = .pointer (some ⟨BX, 2, none⟩)]) (PhiOf_stable ⟨fun _ _ _ _ h => h, fun _ _ _ _ h => h, fun _ _ _ hn ⟨s, h1, h2⟩ => ⟨s, h1, h2.new hn⟩, fun _ _ _ _ h => h, fun _ _ _ _ h => h, fun _ _ _ hn ⟨s, h1, h2⟩ => ⟨s, h1, h2.new hn⟩, fun _ _ _ _ h => h, trivial⟩) (by kernel_rfl) (by kernel_rfl) (by kernel_rfl) (by kernel_rfl) ?_ ?_
          · intro a w' K i o hi ho met hK
            have hi' : i = 0 ∨ i = 1 ∨ i = 2 ∨ i = 3 ∨ i = 4 ∨ i = 5 ∨ i = 6 := by have := (mem_heads.1 hi).1; omega
            have hN := met.new
            have hN' : New wv w' := ((Upd.refl Nowhere wv).drew).trans hN
            obtain ⟨_, _, q2, q3, _⟩ := o4_at (hN'.blk HBX.out (fun q => q))
            rcases hi' with rfl | rfl | rfl | rfl | rfl | rfl | rfl
            all_goals cases ho
            · have e5 := met.b 5 _ rfl (by kernel_rfl)
              refine free_run (.pointer (some ⟨BX, 2, none⟩)) w' (by unfold execOp; go_simp) (hK _ _ (Upd.refl _ _) rfl)
            · have e21 : a.tmps[21]?.getD undef = .pointer (some ⟨BX, 2, none⟩) := met.d 0 21 (by kernel_rfl)
              refine free_run (.slice s0 s1 s2) w' (by unfold execOp; go_simp) (hK _ _ (Upd.refl _ _) rfl)
            · have e22 : a.tmps[22]?.getD undef = .slice s0 s1 s2 := met.d 1 22 (by kernel_rfl)
              unfold Oper.wp execOp
              go_simp
              (first | (go_at_call 23; (with_reducible refine (CT1.out _ hN').mono ?_); rintro e2 w2 ⟨s, rfl, k1, k2⟩; dsimp only))
              exact hK _ _ k2 ⟨s, rfl, k1.lower (Nat.le_trans HNv.out.size hN'.size)⟩
            · have e5 := met.b 5 _ rfl (by kernel_rfl)
              refine free_run (.pointer (some ⟨BX, 3, none⟩)) w' (by unfold execOp; go_simp) (hK _ _ (Upd.refl _ _) rfl)
            · have e24 : a.tmps[24]?.getD undef = .pointer (some ⟨BX, 3, none⟩) := met.d 3 24 (by kernel_rfl)
              refine free_run (.slice u0 u1 u2) w' (by unfold execOp; go_simp) (hK _ _ (Upd.refl _ _) rfl)
            · have e25 : a.tmps[25]?.getD undef = .slice u0 u1 u2 := met.d 4 25 (by kernel_rfl)
              unfold Oper.wp execOp
              go_simp
              (first | (go_at_call 23; (with_reducible refine (CT2.out _ hN').mono ?_); rintro e2 w2 ⟨s, rfl, k1, k2⟩; dsimp only))
              exact hK _ _ k2 ⟨s, rfl, k1.lower (Nat.le_trans HNv.out.size hN'.size)⟩
            · have e5 := met.b 5 _ rfl (by kernel_rfl)
              refine free_run (.pointer (some ⟨BX, 2, none⟩)) w' (by unfold execOp; go_simp) (hK _ _ (Upd.refl _ _) rfl)
          · intro vs w' hw hΦ
            have vp0 : vs 0 = .pointer (some ⟨BX, 2, none⟩) := hΦ 0 (by simp [heads])
            have vp1 : vs 1 = .slice s0 s1 s2 := hΦ 1 (by simp [heads])
            have vp2 : (fun v w' => ∃ s : Sl, v = .slice s.1 s.2.1 s.2.2 ∧ Cn w1.heap.size w' s nq) (vs 2) w' := hΦ 2 (by simp [heads])
            have vp3 : vs 3 = .pointer (some ⟨BX, 3, none⟩) := hΦ 3 (by simp [heads])
            have vp4 : vs 4 = .slice u0 u1 u2 := hΦ 4 (by simp [heads])
            have vp5 : (fun v w' => ∃ s : Sl, v = .slice s.1 s.2.1 s.2.2 ∧ Cn w1.heap.size w' s sq) (vs 5) w' := hΦ 5 (by simp [heads])
            have vp6 : vs 6 = .pointer (some ⟨BX, 2, none⟩) := hΦ 6 (by simp [heads])
            refine tail_at [(0, some 21), (1, some 22), (2, some 23), (3, some 24), (4, some 25), (5, some 26), (6, some 27)] vs (by kernel_rfl) ?_
            simp only [List.map, putAll]
            clear hΦ
            generalize vs 0 = v0 at *
            generalize vs 1 = v1 at *
            generalize vs 2 = v2 at *
            generalize vs 3 = v3 at *
            generalize vs 4 = v4 at *
            generalize vs 5 = v5 at *
            generalize vs 6 = v6 at *
            subst vp0
            subst vp1
            subst vp3
            subst vp4
            subst vp6
            obtain ⟨⟨x0, x1, x2⟩, rfl, hcx⟩ := vp2
            obtain ⟨⟨y0, y1, y2⟩, rfl, hcy⟩ := vp5
            have hN' : New wv w' := ((Upd.refl Nowhere wv).drew).trans hw
            have hbx := hN'.blk HBX.out (fun q => q)
            obtain ⟨z0, z1, z2, z3, zf⟩ := o4_at hbx
            have HBW := Bx.mk hbx
            clear hbx
            simp only [List.drop_succ_cons, List.drop_zero]
            go_frame
            repeat' (first | fail | go_values | go_skip | go_guarded | go_step | go_upon | go_back)
            go_meet
            case rel => exact ⟨x0, x1, x2, y0, y1, y2, ⟨heap_setCell_same _ BX 3 _ _ _ (heap_setCell_same w' BX 2 _ _ _ HBW.out)⟩, ⟨(Only.of_obj HBW.out ((upd_set w' BX 2 _).trans (upd_set _ BX 3 _))).cn hcx (by decide)⟩, ⟨(Only.of_obj HBW.out ((upd_set w' BX 2 _).trans (upd_set _ BX 3 _))).cn hcy (by decide)⟩, ⟨((HNw.out.trans hN').setCell (p := ⟨BX, 2, none⟩) (.inr hBXw) _).setCell (p := ⟨BX, 3, none⟩) (.inr hBXw) _⟩⟩
        case rest =>
          obtain ⟨p0, p1, p2, r0, r1, r2, HBY, HCX, HCY, HNY⟩ := hcut
          rename World => wy
          obtain ⟨k0, k1, k2, k3, _⟩ := o4_at HBY.out
          obtain ⟨d1, d2, d3, df⟩ := o3_at (HNY.out.blk HO5.out (fun q => q))
          obtain ⟨hs, hrh, hah⟩ := (HDN.out.new HNY.out).chg.ex
          try dsimp only at hrh hah
          have HAH := Bx.mk hah
          have hu3 : New wr (wy.alloc (.cells #[.int .u32 ci, .int .u8 LO, .slice p0 p1 p2, .slice r0 r1 r2] 57)) := HNY.out.alloc _
          have hu3' : New wy (wy.alloc (.cells #[.int .u32 ci, .int .u8 LO, .slice p0 p1 p2, .slice r0 r1 r2] 57)) := (Upd.refl _ _).alloc _
          have hu4 := HN.out.trans hu3
          have ho2 := own_new hrh hu3'
          have hs3 := src_one (P := Try.prog) (w := wy) Try.underlying24 [.int .u32 ci, .int .u8 LO, .slice p0 p1 p2, .slice r0 r1 r2] 4 rfl (by intro u hu; simp at hu; rcases hu with rfl | rfl | rfl | rfl <;> rfl)
          clear hrh hah
          repeat' (first | (at_builtin; refine wpList_appN _ rfl _ _ 24 24 rfl _ 57 (.agg #[.int .u32 0, .int .u8 0, .slice none 0 0, .slice none 0 0]) 4 56 Try.underlying24 infoH rfl _ _ _ ho2 rfl _ _ _ hs3 rfl _ hu4 ?c1 ?c2 ?_; (case c1 => unfold maxLen; omega); (case c2 => omega); intro v5 w5 ho5 hu5 hk5 hv5); (obtain ⟨A5, c5, rfl, _⟩ := own_rd ho5; have HX5 := Bx.mk ((Only.of_app ho2 hk5).heap (hu3.blk HO5.out (fun q => q)) (by decide)); obtain ⟨x0', x1', x2', xf⟩ := o3_at HX5.out) | go_values | go_skip | go_guarded | go_step | go_upon | go_back)
          have HD5 := Bx.mk (DlN.grow3 (x := ⟨ci, cl, nq, sq⟩) (HDN.out.new hu3) ho2 (HAH.out.map fun _ _ q => Cn.new q hu3') (p0, p1, p2) (r0, r1, r2) (HCX.out.new hu3') (HCY.out.new hu3') (by first | (dsimp only; rw [HLO.out]; exact ho5) | (rw [HLO.out]; exact ho5)) hk5)
          have HD6 := Bx.mk ((Only.of_obj HX5.out (upd_set w5 B5 2 (.slice A5 (CH.length + 1) c5))).dl HD5.out (by decide) (by decide) (by decide) (by decide))
          clear ho5 hk5 hv5 hs3 ho2 HD5
          go_roundw
          case rel => exact ⟨j + 1, A5, _, c5, by go_num, by omega, ⟨heap_setCell_same w5 B5 2 _ _ _ HX5.out⟩, (by rw [HTK.out]; exact HD6), ⟨hu5.setCell (p := ⟨B5, 2, none⟩) (.inr hB5) _⟩⟩
          case measure => simp [intOf]; omega
      · obtain rfl : h1 = j := by omega
        have hjI : ¬ (h1 : Int) < (h1 : Int) := by omega
        have HT := Bx.mk (show D.chg.take h1 = D.chg from List.take_of_length_le (by rw [HH1.out]; exact Nat.le_refl _))
        rw [HT.out] at HDN
        obtain ⟨z0, z1, z2, zf⟩ := o3_at HO5.out
        have HR := Bx.mk (HN.out.blk HRB.out (fun q => q))
        obtain ⟨r0, r1, r2, rf⟩ := o3_at HR.out
        have hB2w : B1 ≤ B2 := HB0.out
        clear hlt HT
        repeat' (first | fail | go_values | go_skip | go_guarded | go_step | go_upon | go_back)
        refine bodyPost_ret (results_cell_row Try.results12 _ _ B2 _ _ (0, 0) _ rfl (o3_set HR.out _ _ _) Try.underlying26 rfl (by kernel_rfl)) rfl ?_
        have hDN2 := (Only.of_obj HR.out (upd_set3 wr B2 (.slice x0 g1 x2) (.slice y0 y1 y2) (.slice m0 m1 m2))).dl HDN.out (by decide) (by decide) (by decide) (by decide)
        refine ⟨⟨_, _, _, rfl, hDN2.lower HU.out.size⟩, ?_⟩
        exact (((HU.out.trans HN.out).setCell (p := ⟨B2, 0, none⟩) (.inr (by rw [HB1.out]; exact hB2w)) _).setCell (p := ⟨B2, 1, none⟩) (.inr (by rw [HB1.out]; exact hB2w)) _).setCell (p := ⟨B2, 2, none⟩) (.inr (by rw [HB1.out]; exact hB2w)) _
end Go.Proofs.Ytdnkdmdmekdfkaa
