/- CellsParts: the law, walked. -/
import Derived.Test.YtaliadekdpbfdaaCaL3
import Derived.Deep.DeepCutAuto
import Derived.Deep.CutBlock
namespace Go.Proofs.Ytaliadekdpbfdaa
open Go.RowKit Go.Maps
theorem runM_in (L : List OpQ) : ∀ {M : Nat → Option (Int × Int)}, CIn M → CIn (runM L M) := by
  induction L with
  | nil => intro M c; exact c
  | cons q L ih => intro M c; exact ih (c.put _ _ _)
/-- two lists that make up a third one, all by rising numbers -/
structure Mrg (l a b : List Nat) : Prop where
  sl : l.Pairwise (· < ·)
  sa : a.Pairwise (· < ·)
  sb : b.Pairwise (· < ·)
  mem : ∀ i, i ∈ l ↔ i ∈ a ∨ i ∈ b
  dis : ∀ i, i ∈ a → i ∉ b
theorem head_of {l t : List Nat} {x h : Nat} (hl : (x :: l).Pairwise (· < ·)) (ha : (h :: t).Pairwise (· < ·)) (hx : x ∈ h :: t) (hh : h ∈ x :: l) : h = x := by
  rcases List.mem_cons.1 hx with e | hx2
  · exact e.symm
  · have h1 := (List.pairwise_cons.1 ha).1 x hx2
    rcases List.mem_cons.1 hh with e | hh2
    · exact e
    · have h2 := (List.pairwise_cons.1 hl).1 h hh2
      omega
theorem Mrg.step {l a b : List Nat} {x : Nat} (h : Mrg (x :: l) a b) : (∃ t, a = x :: t ∧ Mrg l t b) ∨ (∃ t, b = x :: t ∧ Mrg l a t ∧ (∀ y t, a = y :: t → y ≠ x)) := by
  have hxl : x ∉ l := fun q => Nat.lt_irrefl _ ((List.pairwise_cons.1 h.sl).1 x q)
  have hx := (h.mem x).1 (List.mem_cons_self ..)
  rcases hx with hx | hx
  · left
    cases a with
    | nil => cases hx
    | cons y t =>
      obtain rfl := head_of h.sl h.sa hx ((h.mem y).2 (.inl (List.mem_cons_self ..)))
      have hyt : y ∉ t := fun q => Nat.lt_irrefl _ ((List.pairwise_cons.1 h.sa).1 y q)
      refine ⟨t, rfl, (List.pairwise_cons.1 h.sl).2, (List.pairwise_cons.1 h.sa).2, h.sb, fun i => ?_, fun i hi => h.dis i (List.mem_cons_of_mem _ hi)⟩
      constructor
      · intro hi
        rcases (h.mem i).1 (List.mem_cons_of_mem _ hi) with q | q
        · rcases List.mem_cons.1 q with e | q
          · exact absurd (e ▸ hi) hxl
          · exact .inl q
        · exact .inr q
      · rintro (q | q)
        · rcases List.mem_cons.1 ((h.mem i).2 (.inl (List.mem_cons_of_mem _ q))) with e | r
          · exact absurd (e ▸ q) hyt
          · exact r
        · rcases List.mem_cons.1 ((h.mem i).2 (.inr q)) with e | r
          · exact absurd (e ▸ q) (h.dis y (List.mem_cons_self ..))
          · exact r
  · right
    have hxa : x ∉ a := fun q => h.dis x q hx
    cases b with
    | nil => cases hx
    | cons y t =>
      obtain rfl := head_of h.sl h.sb hx ((h.mem y).2 (.inr (List.mem_cons_self ..)))
      have hyt : y ∉ t := fun q => Nat.lt_irrefl _ ((List.pairwise_cons.1 h.sb).1 y q)
      refine ⟨t, rfl, ⟨(List.pairwise_cons.1 h.sl).2, h.sa, (List.pairwise_cons.1 h.sb).2, fun i => ?_, fun i hi q => h.dis i hi (List.mem_cons_of_mem _ q)⟩, fun z u e q => hxa (by rw [e, q]; exact List.mem_cons_self ..)⟩
      constructor
      · intro hi
        rcases (h.mem i).1 (List.mem_cons_of_mem _ hi) with q | q
        · exact .inl q
        · rcases List.mem_cons.1 q with e | q
          · exact absurd (e ▸ hi) hxl
          · exact .inr q
      · rintro (q | q)
        · rcases List.mem_cons.1 ((h.mem i).2 (.inl q)) with e | r
          · exact absurd (e ▸ q) hxa
          · exact r
        · rcases List.mem_cons.1 ((h.mem i).2 (.inr (List.mem_cons_of_mem _ q))) with e | r
          · exact absurd (e ▸ q) hyt
          · exact r
theorem Mrg.len {l a b : List Nat} (h : Mrg l a b) : a.length + b.length = l.length := by
  have nd : ∀ {x : List Nat}, x.Pairwise (· < ·) → x.Nodup := fun q => q.imp fun {a b} q => Nat.ne_of_lt q
  have : (a ++ b).Perm l := (List.perm_ext_iff_of_nodup (List.nodup_append.2 ⟨nd h.sa, nd h.sb, fun x hx y hy e => h.dis x hx (e ▸ hy)⟩) (nd h.sl)).2 fun i => by rw [List.mem_append, h.mem]
  rw [← this.length_eq, List.length_append]
/-- a list of IDs that is read -/
def IdL (w : World) (v : Value) (L : List Nat) : Prop := ∃ A c, v = .slice A L.length c ∧ L.length ≤ c ∧ c ≤ maxLen ∧ Rd w A (idv L)
theorem IdL.new {w w' : World} {v : Value} {L : List Nat} (h : IdL w v L) (u : New w w') : IdL w' v L := by
  obtain ⟨A, c, e, h1, h2, h3⟩ := h
  exact ⟨A, c, e, h1, h2, h3.new u⟩
/-- the list behind the first one -/
theorem IdL.tail {w : World} {A : Option Addr} {x c : Nat} {L : List Nat} (h : Rd w A (idv (x :: L))) (hc : L.length + 1 ≤ c) (hm : c ≤ maxLen) : IdL w (.slice (if c = 1 then A else A.map (·.add 1)) L.length (c - 1)) L := by
  refine ⟨_, _, rfl, by omega, by omega, ?_⟩
  exact h.drop 1 c (by rw [idv_length]; simpa using hc)
set_option maxRecDepth 20000 in
set_option maxHeartbeats 16000000 in
theorem CellsParts_any (A : Option Addr) (n c : Nat) (L : List OpQ) (w : World) (hn : L.length = n) (hsz : n ≤ 9223372036854775807) (hr : Rd w A (L.flatMap opC)) (hok : ∀ q ∈ L, opOk q) (at_ : Int) (hat : -128 ≤ at_ ∧ at_ ≤ 127) (tall : Bool) :
    Calls Try.prog 6 #[.slice A n c, .int .i8 at_, .bool tall] w fun e w' => e = .returned (.bool true) ∧ New w w' := by
  have CA := Bx.mk (fun w => awake16_any w)
  have CN := Bx.mk (fun {w' : World} (u : New w w') => newG w.heap.size w' u.size)
  have HN := Bx.mk hn
  have HR := Bx.mk hr
  have HO := Bx.mk hok
  clear hn hr hok
  go_enter Try.func6, Try.ntmps6
  repeat' (first | (first | (go_at_call 9; (with_reducible refine (CA.out _).mono ?_); rintro e w1 ⟨rfl, U1⟩; dsimp only) | (have _m := U1; (go_at_call 11; (with_reducible refine (CN.out U1).mono ?_); rintro e w2 ⟨g, rfl, G2, V2, hg⟩; dsimp only))) | go_values | go_skip | go_guarded | go_step | go_upon | go_back)
  have U2 := Bx.mk (U1.trans V2)
  have G2' := Bx.mk G2
  clear U1 V2 G2 _m CN CA
  go_loopw [21] (fun iv wr => ∃ (j : Nat), iv = .int .i64 j ∧ j ≤ n ∧ Bx (GR w.heap.size wr g (runM (L.take (min j 80)) M0)) ∧ Bx (New w wr)) (fun iv _ => n - (intOf iv).toNat)
  case atStart => exact ⟨0, rfl, Nat.zero_le _, by simpa [runM] using G2', U2⟩
  case round =>
    clear G2' U2
    obtain ⟨j, rfl, hj, HG, HU⟩ := hrel
    by_cases hlt : j < n
    · have hltI : (j : Int) < (n : Int) := by omega
      have hjL : j < L.length := by rw [HN.out]; exact hlt
      obtain ⟨b, o, rfl, e0, e1, e2, e3⟩ := op_at (HR.out.new HU.out) j hjL
      have hq := HO.out L[j] (List.getElem_mem hjL)
      by_cases h80 : j < 80
      · have h80I : (j : Int) < 80 := by omega
        have HM := Bx.mk (show runM (L.take (min (j + 1) 80)) M0 = putM (runM (L.take (min j 80)) M0) L[j].2.1 L[j].2.2.1 L[j].2.2.2 by rw [take_min_step L j 80 hjL h80, runM_snoc])
        have HF := few_run L j
        generalize runM (L.take (min j 80)) M0 = M at *
        obtain ⟨⟨d0, i0, x0, y0⟩, hq0⟩ : ∃ q, L[j] = q := ⟨_, rfl⟩
        rw [hq0] at e0 e1 e2 e3 hq
        have HM2 := HM.out
        rw [hq0] at HM2
        have HM3 := Bx.mk HM2
        obtain ⟨_, q1, q2, q3⟩ := hq
        have AL := (Upd.refl Nowhere wr).alloc (.cells #[.int .u8 d0, .int .u32 i0, .int .i32 x0, .int .i32 y0] 31)
        have CP := Bx.mk (putG (HG.out.new AL) HF (by omega) i0 i0 rfl q1 x0 y0 q2 q3 _ rfl)
        have b1 := box_at wr #[.int .u8 d0, .int .u32 i0, .int .i32 x0, .int .i32 y0] 31 1 _ rfl
        have b2 := box_at wr #[.int .u8 d0, .int .u32 i0, .int .i32 x0, .int .i32 y0] 31 2 _ rfl
        have b3 := box_at wr #[.int .u8 d0, .int .u32 i0, .int .i32 x0, .int .i32 y0] 31 3 _ rfl
        obtain ⟨E, hE⟩ : ∃ E, putE i0 x0 y0 = E := ⟨_, rfl⟩
        rw [hE] at CP
        have BAL := Bx.mk AL
        clear hq0 HM HM2 q1 q2 q3 AL HF hE
        repeat' (first | (go_at_call 12; (with_reducible refine (CP.out).mono ?_); rintro e w3 ⟨rfl, V3, G3⟩; dsimp only) | go_values | go_skip | go_guarded | go_step | go_upon | go_back)
        go_roundw
        case rel => exact ⟨j + 1, by go_num, by omega, ⟨by rw [HM3.out]; exact G3⟩, ⟨GUpd.now (HU.out.trans BAL.out) V3⟩⟩
        case measure => simp [intOf]; omega
      · have h80I : ¬ (j : Int) < 80 := by omega
        have HM := Bx.mk (show runM (L.take (min (j + 1) 80)) M0 = runM (L.take (min j 80)) M0 by rw [take_min_same L j 80 (by omega)])
        obtain ⟨⟨d0, i0, x0, y0⟩, hq0⟩ : ∃ q, L[j] = q := ⟨_, rfl⟩
        rw [hq0] at e0 e1 e2 e3
        have AL := Bx.mk ((Upd.refl Nowhere wr).alloc (.cells #[.int .u8 d0, .int .u32 i0, .int .i32 x0, .int .i32 y0] 31))
        clear hq0 hq
        repeat' (first | fail | go_values | go_skip | go_guarded | go_step | go_upon | go_back)
        go_roundw
        case rel => exact ⟨j + 1, by go_num, by omega, ⟨by rw [HM.out]; exact HG.out.new AL.out⟩, ⟨HU.out.trans AL.out⟩⟩
        case measure => simp [intOf]; omega
    · have hltI : ¬ (j : Int) < (n : Int) := by omega
      have HF := few_run L j
      have HC : CIn (runM (L.take (min j 80)) M0) := runM_in _ (fun i s h => by cases h)
      generalize runM (L.take (min j 80)) M0 = M at *
      obtain ⟨k, hk⟩ : ∃ k, at_.tmod 32 = k := ⟨_, rfl⟩
      have hk2 : -31 ≤ k ∧ k ≤ 31 := by
        rw [← hk]
        by_cases q : 0 ≤ at_
        · rw [Int.tmod_eq_emod_of_nonneg q]; omega
        · rw [show at_ = -(-at_) from by omega, Int.neg_tmod, Int.tmod_eq_emod_of_nonneg (by omega)]; omega
      have e0 : IntKind.i64.wrap at_ = at_ := by rw [IntKind.wrap_i64]; omega
      have e1 : IntKind.i64.wrap k = k := by rw [IntKind.wrap_i64]; omega
      have e2 : IntKind.i64.wrap (k + 1) = k + 1 := by rw [IntKind.wrap_i64]; omega
      have SX : ∀ (p : Int × Int → Prop), ∃ xs : List Nat, xs.Pairwise (· < ·) ∧ (∀ i, i ∈ xs ↔ ∃ s, M i = some s ∧ p s) ∧ xs.length ≤ 80 := fun p => by
        obtain ⟨xs, h1, h2⟩ := sorted_ex (fun i => ∃ s, M i = some s ∧ p s) (fun i ⟨s, hi, _⟩ => (HG.out.dom hi).1)
        exact ⟨xs, h1, h2, few_len HF (h1.imp fun {a b} q => Nat.ne_of_lt q) (fun i hi => by obtain ⟨s, hs, _⟩ := (h2 i).1 hi; exact ⟨s, hs⟩)⟩
      obtain ⟨la, sa1, sa2, sa3⟩ := SX (fun s => s.1 ≤ k)
      obtain ⟨lb, sb1, sb2, sb3⟩ := SX (fun s => ¬ s.1 ≤ k)
      obtain ⟨lc, sc1, sc2, sc3⟩ := SX (fun s => s.2 ≤ k)
      obtain ⟨ld, sd1, sd2, sd3⟩ := SX (fun s => ¬ s.2 ≤ k)
      obtain ⟨ll, sl1, sl2, sl3⟩ := SX (fun _ => True)
      have MG : ∀ (p : Int × Int → Prop) (a b : List Nat), a.Pairwise (· < ·) → b.Pairwise (· < ·) → (∀ i, i ∈ a ↔ ∃ s, M i = some s ∧ p s) → (∀ i, i ∈ b ↔ ∃ s, M i = some s ∧ ¬ p s) → Mrg ll a b := fun p a b h1 h2 h3 h4 => by
        refine ⟨sl1, h1, h2, fun i => ?_, fun i hi hj => ?_⟩
        · rw [sl2, h3, h4]
          constructor
          · rintro ⟨s, hs, _⟩
            by_cases q : p s
            · exact .inl ⟨s, hs, q⟩
            · exact .inr ⟨s, hs, q⟩
          · rintro (⟨s, hs, _⟩ | ⟨s, hs, _⟩) <;> exact ⟨s, hs, trivial⟩
        · obtain ⟨s, hs, q⟩ := (h3 i).1 hi
          obtain ⟨t, ht, r⟩ := (h4 i).1 hj
          rw [hs] at ht; cases ht
          exact r q
      have m1 := Bx.mk (MG (fun s => s.1 ≤ k) la lb sa1 sb1 sa2 sb2)
      have m2 := Bx.mk (MG (fun s => s.2 ≤ k) lc ld sc1 sd1 sc2 sd2)
      have bxs : inI64 (-32) ∧ inI64 31 ∧ inI64 k ∧ inI64 (k + 1) := by unfold inI64; omega
      obtain ⟨bi1, bi2, bi3, bi4⟩ := bxs
      have BQ : ∀ (x0 y0 x1 y1 : Int) (xs : List Nat) (p : Int × Int → Prop), inI64 x0 → inI64 y0 → inI64 x1 → inI64 y1 → xs.Pairwise (· < ·) → xs.length ≤ 80 → (∀ i, i ∈ xs ↔ ∃ s, M i = some s ∧ p s) → (∀ i s, M i = some s → (p s ↔ (max x0 (-32) ≤ s.1 ∧ s.1 ≤ min x1 31 ∧ max y0 (-32) ≤ s.2 ∧ s.2 ≤ min y1 31))) → ∀ {w' : World}, GR w.heap.size w' g M →
          Calls Try.prog 19 #[.pointer (some ⟨g, 0, none⟩), .int .i64 x0, .int .i64 y0, .int .i64 x1, .int .i64 y1] w' fun e w2 => ∃ v, e = .returned v ∧ IdL w2 v xs ∧ New w' w2 := fun x0 y0 x1 y1 xs p b1 b2 b3 b4 h1 hl h2 h3 w' hG => by
        refine (boxG hG HF (by omega) x0 y0 x1 y1 ⟨b1, b2, b3, b4⟩ xs h1 (fun i => (h2 i).trans ⟨fun ⟨s, a, b⟩ => ⟨s, a, (h3 i s a).1 b⟩, fun ⟨s, a, b⟩ => ⟨s, a, (h3 i s a).2 b⟩⟩) xs.length rfl).mono ?_
        rintro e w2 ⟨A, rfl, hr, _, hu⟩
        exact ⟨_, rfl, ⟨A, _, rfl, Nat.le_refl _, by unfold maxLen; omega, hr⟩, hu⟩
      have Q1 := Bx.mk (@BQ (-32) (-32) k 31 la _ bi1 bi1 bi3 bi2 sa1 sa3 sa2 (fun i s hs => by have := HC i s hs; omega))
      have Q2 := Bx.mk (@BQ (k + 1) (-32) 31 31 lb _ bi4 bi1 bi2 bi2 sb1 sb3 sb2 (fun i s hs => by have := HC i s hs; omega))
      have Q3 := Bx.mk (@BQ (-32) (-32) 31 k lc _ bi1 bi1 bi2 bi3 sc1 sc3 sc2 (fun i s hs => by have := HC i s hs; omega))
      have Q4 := Bx.mk (@BQ (-32) (k + 1) 31 31 ld _ bi1 bi4 bi2 bi2 sd1 sd3 sd2 (fun i s hs => by have := HC i s hs; omega))
      have Q5 := Bx.mk (@BQ (-32) (-32) 31 31 ll _ bi1 bi1 bi2 bi2 sl1 sl3 sl2 (fun i s hs => by have := HC i s hs; simp only [true_iff]; omega))
      have CL := Bx.mk (fun {w' : World} (h : GR w.heap.size w' g M) => lenG h ll (sl1.imp fun {a b} q => Nat.ne_of_lt q) (fun i => (sl2 i).trans ⟨fun ⟨s, a, _⟩ => ⟨s, a⟩, fun ⟨s, a⟩ => ⟨s, a, trivial⟩⟩) ll.length rfl)
      clear BQ MG SX sa1 sa2 sb1 sb2 sc1 sc2 sd1 sd2 sl1 sl2 HC HF HN HR HO bi1 bi2 bi3 bi4
      go_upto_if 47 with (first
        | (have _m := I3; (go_at_call 19; (with_reducible refine (Q2.out (HG.out.new U3)).mono ?_); rintro e w4 ⟨v4, rfl, I4, U4⟩; dsimp only))
        | ((go_at_call 19; (with_reducible refine (Q1.out HG.out).mono ?_); rintro e w3 ⟨v3, rfl, I3, U3⟩; dsimp only)))
      have BI3 := Bx.mk (I3.new U4)
      have BI4 := Bx.mk I4
      have G4 := Bx.mk ((HG.out.new U3).new U4)
      have N4 := Bx.mk ((HU.out.trans U3).trans U4)
      clear I3 I4 U3 U4 HG HU Q1 Q2
      go_cut [11, 12] (fun s11 s12 wx => ∃ a b, Bx (IdL wx s11 a) ∧ Bx (IdL wx s12 b) ∧ Bx (Mrg ll a b) ∧ Bx (GR w.heap.size wx g M) ∧ Bx (New w wx) ∧ a.length ≤ 80 ∧ b.length ≤ 80)
      case first =>
        cases tall with
        | false =>
          repeat' (first | fail | go_values | go_skip | go_guarded | go_step | go_upon | go_back)
          go_meet
          case rel => exact ⟨la, lb, BI3, BI4, m1, G4, N4, sa3, sb3⟩
        | true =>
          repeat' (first | (first
            | (have _m := I5; (go_at_call 19; (with_reducible refine (Q4.out (G4.out.new U5)).mono ?_); rintro e w6 ⟨v6, rfl, I6, U6⟩; dsimp only))
            | ((go_at_call 19; (with_reducible refine (Q3.out G4.out).mono ?_); rintro e w5 ⟨v5, rfl, I5, U5⟩; dsimp only))) | go_values | go_skip | go_guarded | go_step | go_upon | go_back)
          go_meet
          case rel => exact ⟨lc, ld, ⟨I5.new U6⟩, ⟨I6⟩, m2, ⟨(G4.out.new U5).new U6⟩, ⟨(N4.out.trans U5).trans U6⟩, sc3, sd3⟩
      case rest =>
        clear BI3 BI4 G4 N4 m1 m2 Q3 Q4 sa3 sb3 sc3 sd3
        obtain ⟨a, b, IA, IB, MM, HG, HU, ha80, hb80⟩ := hcut
        have hml := MM.out.len
        obtain ⟨A1, ca, rfl, hca1, hca2, hra⟩ := IA.out
        obtain ⟨B1, cb, rfl, hcb1, hcb2, hrb⟩ := IB.out
        obtain ⟨na, hna⟩ : ∃ n, a.length = n := ⟨_, rfl⟩
        obtain ⟨nb, hnb⟩ : ∃ n, b.length = n := ⟨_, rfl⟩
        obtain ⟨nl, hnl⟩ : ∃ n, ll.length = n := ⟨_, rfl⟩
        have e5 : IntKind.i64.wrap ((na : Int) + (nb : Int)) = (nl : Int) := by rw [IntKind.wrap_i64]; omega
        have HNA := Bx.mk hna
        have HNB := Bx.mk hnb
        have HNL := Bx.mk hnl
        rw [hna] at hca1 ha80 ⊢
        rw [hnb] at hcb1 hb80 ⊢
        rw [hnl] at CL sl3
        have RA := Bx.mk hra
        have RB := Bx.mk hrb
        clear hna hnb hnl hml hra hrb IA IB
        repeat' (first | (first
          | (have _m := I6; (go_at_call 18; (with_reducible refine (CL.out (HG.out.new U6)).mono ?_); rintro e w7 ⟨rfl, rfl⟩; dsimp only))
          | ((go_at_call 19; (with_reducible refine (Q5.out HG.out).mono ?_); rintro e w6 ⟨v6, rfl, I6, U6⟩; obtain ⟨A6, c6, rfl, h61, h62, h6r⟩ := I6; rw [HNL.out] at h61; rw [HNL.out]; have I6 := h6r; dsimp only))) | go_values | go_skip | go_guarded | go_step | go_upon | go_back)
        have BI6 := Bx.mk I6
        have R6 := Bx.mk (HU.out.trans U6)
        have RA6 := Bx.mk (IdL.new ⟨A1, ca, by rw [HNA.out], by rw [HNA.out]; exact hca1, hca2, RA.out⟩ U6 : IdL w7 (.slice A1 na ca) a)
        have RB6 := Bx.mk (IdL.new ⟨B1, cb, by rw [HNB.out], by rw [HNB.out]; exact hcb1, hcb2, RB.out⟩ U6 : IdL w7 (.slice B1 nb cb) b)
        clear I6 h6r U6 RA RB HU CL Q5 e5 HG
        go_loopw [11, 12, 74] (fun va vb kv wr => ∃ (k : Nat) (a b : List Nat), kv = .int .i64 k ∧ k ≤ nl ∧ Bx (IdL wr va a) ∧ Bx (IdL wr vb b) ∧ Bx (Mrg (ll.drop k) a b) ∧ Bx (New w7 wr)) (fun _ _ kv _ => nl - (intOf kv).toNat)
        case atStart => exact ⟨0, a, b, rfl, Nat.zero_le _, RA6, RB6, by simpa using MM, ⟨Upd.refl _ _⟩⟩
        case round =>
          clear RA6 RB6 MM HNA HNB hca1 hca2 hcb1 hcb2 ha80 hb80
          obtain ⟨k, a, b, rfl, hk, IA, IB, MM, HU⟩ := hrel
          obtain ⟨A1, ca, rfl, hca1, hca2, hra⟩ := IA.out
          obtain ⟨B1, cb, rfl, hcb1, hcb2, hrb⟩ := IB.out
          by_cases hkl : k < nl
          · have hklI : (k : Int) < (nl : Int) := by omega
            have hkx : k < ll.length := by rw [HNL.out]; exact hkl
            obtain ⟨b4, o4, rfl, e4⟩ := idv_at (BI6.out.new HU.out) k hkx
            have hdr : ll.drop k = ll.getD k 0 :: ll.drop (k + 1) := by rw [List.getD_eq_getElem?_getD, List.getElem?_eq_getElem hkx, Option.getD_some]; exact List.drop_eq_getElem_cons hkx
            rw [hdr] at MM
            generalize ll.getD k 0 = x at *
            have wk : IntKind.i64.wrap ((k : Int) + 1) = ((k + 1 : Nat) : Int) := by rw [IntKind.wrap_i64]; omega
            rcases MM.out.step with ⟨t, rfl, M2⟩ | ⟨t, rfl, M2, hne⟩
            · obtain ⟨ba, oa, rfl, ea⟩ := idv_at hra 0 (by simp)
              rw [show (x :: t).getD 0 0 = x from rfl, Nat.add_zero] at ea
              have BT := Bx.mk (IdL.tail hra (by simpa using hca1) hca2)
              obtain ⟨nt, hnt⟩ : ∃ n, t.length = n := ⟨_, rfl⟩
              rw [show (x :: t).length = nt + 1 from by simp [hnt]] at hca1 ⊢
              rw [hnt] at BT
              have p0 : (0 : Int) < (nt : Int) + 1 := by omega
              have BM2 := Bx.mk M2
              clear M2 hnt MM hdr
              repeat' (first | fail | go_values | go_skip | go_guarded | go_step | go_upon | go_back)
              refine ⟨⟨k + 1, t, b, by go_num, by omega, ⟨by simpa [Addr.add] using BT.out⟩, IB, BM2, HU⟩, by simp [intOf]; omega⟩
            · obtain ⟨bb, ob, rfl, eb⟩ := idv_at hrb 0 (by simp)
              rw [show (x :: t).getD 0 0 = x from rfl, Nat.add_zero] at eb
              have BT := Bx.mk (IdL.tail hrb (by simpa using hcb1) hcb2)
              obtain ⟨nt, hnt⟩ : ∃ n, t.length = n := ⟨_, rfl⟩
              rw [show (x :: t).length = nt + 1 from by simp [hnt]] at hcb1 ⊢
              rw [hnt] at BT
              have p0 : (0 : Int) < (nt : Int) + 1 := by omega
              have BM2 := Bx.mk M2
              have BNE := Bx.mk hne
              clear M2 hnt MM hdr hne
              cases a with
              | nil =>
                repeat' (first | fail | go_values | go_skip | go_guarded | go_step | go_upon | go_back)
                refine ⟨⟨k + 1, [], t, by go_num, by omega, IA, ⟨by simpa [Addr.add] using BT.out⟩, BM2, HU⟩, by simp [intOf]; omega⟩
              | cons y u =>
                obtain ⟨ba, oa, rfl, ea⟩ := idv_at hra 0 (by simp)
                rw [show (y :: u).getD 0 0 = y from rfl, Nat.add_zero] at ea
                have hyx : ¬ (y : Int) = (x : Int) := by have := BNE.out y u rfl; omega
                have hyx2 : ((y : Int) == (x : Int)) = false := by simpa using hyx
                obtain ⟨nu, hnu⟩ : ∃ n, u.length = n := ⟨_, rfl⟩
                rw [show (y :: u).length = nu + 1 from by simp [hnu]] at hca1 ⊢
                have q0 : (0 : Int) < (nu : Int) + 1 := by omega
                have IA2 := Bx.mk (show IdL wr (.slice (some ⟨ba, oa, none⟩) (nu + 1) ca) (y :: u) by have := IA.out; rwa [show (y :: u).length = nu + 1 from by simp [hnu]] at this)
                clear hnu IA
                repeat' (first | fail | go_values | go_skip | go_guarded | go_step | go_upon | go_back)
                refine ⟨⟨k + 1, y :: u, t, by go_num, by omega, IA2, ⟨by simpa [Addr.add] using BT.out⟩, BM2, HU⟩, by simp [intOf]; omega⟩
          · have hklI : ¬ (k : Int) < (nl : Int) := by omega
            repeat' (first | fail | go_values | go_skip | go_guarded | go_step | go_upon | go_back)
            go_returns
            exact ⟨rfl, R6.out.trans HU.out⟩
end Go.Proofs.Ytaliadekdpbfdaa
