/- CellsPlays: the law, walked. -/
import Derived.Test.YtaliadekdpbfdaaCa5
import Derived.Test.YtaliadekdpbfdaaCa3
import Derived.Deep.DeepCutAuto
import Derived.Deep.CutBlock
namespace Go.Proofs.Ytaliadekdpbfdaa
open Go.RowKit Go.Maps
theorem SpL.nw {w w' : World} {v : Value} {L : List SpQ} (h : SpL w v L) (u : New w w') : SpL w' v L := by
  obtain ⟨A, c, e, h1, h2, h3⟩ := h
  exact ⟨A, c, e, h1, h2, h3.new u⟩
theorem op4 {w : World} {B : Nat} {a0 a1 a2 a3 : Value} (h : w.heap[B]? = some (.cells #[a0, a1, a2, a3] 31 (0, 0))) : w.cell? ⟨B, 0, none⟩ = some a0 ∧ w.cell? ⟨B, 1, none⟩ = some a1 ∧ w.cell? ⟨B, 2, none⟩ = some a2 ∧ w.cell? ⟨B, 3, none⟩ = some a3 := by
  refine ⟨?_, ?_, ?_, ?_⟩ <;> (rw [World.cell?, h]; rfl)
theorem refPutE {E : Int} (v : Value) (L : List SpQ) (id : Nat) (x y : Int) (w : World) (hv : SpL w v L) (hb : L.length ≤ 80) (hid : id < 4294967296) (hok : ∀ q ∈ L, spOk q) (hE : putE id x y = E) :
    Calls Try.prog 20 #[v, .int .u32 id, .int .i32 x, .int .i32 y] w fun e w' => ∃ v', e = .returned (.tuple #[v', .int .i64 E]) ∧ SpL w' v' (putL L id x y) ∧ New w w' := by
  subst hE
  exact refPut_any v L _ id x y w hv rfl (by omega) hid hok
theorem refDropE {E : Int} {M : Nat → Option (Int × Int)} (v : Value) (L : List SpQ) (id : Nat) (w : World) (hv : SpL w v L) (hb : L.length ≤ 80) (hid : id < 4294967296) (R : Rel M L) (hE : (if (M id).isSome then (0 : Int) else 7) = E) :
    Calls Try.prog 21 #[v, .int .u32 id] w fun e w' => ∃ v', e = .returned (.tuple #[v', .int .i64 E]) ∧ SpL w' v' (dropL L id) ∧ New w w' := by
  subst hE
  rw [← R.dropE id]
  exact refDrop_any v L _ id w hv rfl (by omega) hid fun q hq => (R.ok q hq).1
theorem len_same {us vs : List (Int × Int)} (h1 : us.Nodup) (h2 : vs.Nodup) (h : ∀ s, s ∈ us ↔ s ∈ vs) : us.length = vs.length := ((List.perm_ext_iff_of_nodup h1 h2).2 h).length_eq
theorem refUsedN {M : Nat → Option (Int × Int)} {L : List SpQ} (R : Rel M L) (hl : L.length ≤ 81) (us : List (Int × Int)) (h1 : us.Nodup) (h2 : ∀ s, s ∈ us ↔ ∃ i, M i = some s) (nu : Nat) (hn : us.length = nu) (v : Value) (w : World) (hS : SpL w v L) :
    Calls Try.prog 22 #[v] w fun e w' => e = .returned (.int .i64 nu) ∧ New w w' := by
  subst hn
  refine (refUsed_any v L (fun q hq => (R.ok q hq).1) (by omega) w hS).mono ?_
  rintro e w' ⟨vs, rfl, hc, hu⟩
  rw [len_same h1 hc.nd fun s => ?_]
  · exact ⟨rfl, hu⟩
  · rw [h2, hc.mem]
    constructor
    · rintro ⟨i, hi⟩
      obtain ⟨q, hq, _, e⟩ := (R.mem i s).1 hi
      exact ⟨q, hq, e.symm⟩
    · rintro ⟨q, hq, e⟩
      exact ⟨q.1, (R.mem _ _).2 ⟨q, hq, rfl, e.symm⟩⟩
theorem lenR {n0 : Nat} {w : World} {g : Nat} {M : Nat → Option (Int × Int)} {L : List SpQ} (h : GR n0 w g M) (R : Rel M L) (n : Nat) (hn : L.length = n) :
    Calls Try.prog 18 #[.pointer (some ⟨g, 0, none⟩)] w fun e w' => e = .returned (.int .i64 n) ∧ w' = w := by
  obtain ⟨xs, hx⟩ : ∃ xs : List Nat, L.map (·.1) = xs := ⟨_, rfl⟩
  have hs := R.ids
  rw [hx] at hs
  refine lenG h xs (hs.imp fun {a b} q => Nat.ne_of_lt q) (fun i => ?_) n (by rw [← hx, List.length_map, hn])
  rw [← hx]
  rw [List.mem_map]
  constructor
  · rintro ⟨q, hq, rfl⟩
    exact ⟨_, R.hit hq⟩
  · rintro ⟨s, hs⟩
    obtain ⟨q, hq, e, _⟩ := (R.mem i s).1 hs
    exact ⟨q, hq, e⟩
/-- the grid and the reference's list, alike -/
structure Pl (w wr : World) (g : Nat) (v : Value) (L : List SpQ) (M : Nat → Option (Int × Int)) : Prop where
  gr : GR w.heap.size wr g M
  sp : SpL wr v L
  rel : Rel M L
  new : New w wr
theorem Pl.next {w wr w' : World} {g : Nat} {v : Value} {L : List SpQ} {M : Nat → Option (Int × Int)} (h : Pl w wr g v L M) (u : New wr w') : Pl w w' g v L M := ⟨h.gr.new u, h.sp.nw u, h.rel, h.new.trans u⟩
theorem Pl.put {w wr w2 w3 : World} {g : Nat} {v v' : Value} {L : List SpQ} {M : Nat → Option (Int × Int)} {i : Nat} {x y : Int} (h : Pl w wr g v L M) (hi : i < 4294967296) (u : New wr w2) (s : SpL w2 v' (putL L i x y)) (u2 : GUpd w.heap.size w2 w3) (G : GR w.heap.size w3 g (putM M i x y)) : Pl w w3 g v' (putL L i x y) (putM M i x y) :=
  ⟨G, s.gn u2, h.rel.put i x y hi, GUpd.now (h.new.trans u) u2⟩
theorem Pl.drop {w wr w2 w3 : World} {g : Nat} {v v' : Value} {L : List SpQ} {M : Nat → Option (Int × Int)} {i : Nat} (h : Pl w wr g v L M) (u : New wr w2) (s : SpL w2 v' (dropL L i)) (u2 : GUpd w.heap.size w2 w3) (G : GR w.heap.size w3 g (mset M i none)) : Pl w w3 g v' (dropL L i) (mset M i none) :=
  ⟨G, s.gn u2, h.rel.drop i, GUpd.now (h.new.trans u) u2⟩
set_option maxRecDepth 100000 in
set_option maxHeartbeats 64000000 in
theorem CellsPlays_any (A : Option Addr) (n c : Nat) (S : List OpQ) (w : World) (hn : S.length = n) (hsz : n ≤ 9223372036854775807) (hr : Rd w A (S.flatMap opC)) (hok : ∀ q ∈ S, opOk q) (x0 y0 x1 y1 : Int) (hb0 : inI64 x0) (hb1 : inI64 y0) (hb2 : inI64 x1) (hb3 : inI64 y1) :
    Calls Try.prog 7 #[.slice A n c, .int .i64 x0, .int .i64 y0, .int .i64 x1, .int .i64 y1] w fun e w' => e = .returned (.bool true) ∧ New w w' := by
  have CA := Bx.mk (fun w => awake16_any w)
  have CN := Bx.mk (fun {w' : World} (u : New w w') => newG w.heap.size w' u.size)
  have HN := Bx.mk hn
  have HR := Bx.mk hr
  have HO := Bx.mk hok
  clear hn hr hok
  go_enter Try.func7, Try.ntmps7
  go_upto_block 0 with (first | (go_at_call 9; (with_reducible refine (CA.out _).mono ?_); rintro e w1 ⟨rfl, U1⟩; dsimp only) | (have _m := U1; (go_at_call 11; (with_reducible refine (CN.out U1).mono ?_); rintro e w2 ⟨g, rfl, G2, V2, hg⟩; dsimp only)))
  have P0 := Bx.mk (Pl.mk (v := .slice none 0 0) G2 ⟨none, 0, rfl, Nat.le_refl _, fun _ => rfl, .inl rfl⟩ Rel.nil (U1.trans V2))
  clear U1 V2 G2 _m CN CA
  go_cut [13] (fun lv wx => ∃ L M, L.length ≤ 80 ∧ Bx (Pl w wx g lv L M))
  case first =>
    repeat' (first | fail | go_values | go_skip | go_guarded | go_step | go_upon | go_back)
    go_loopw [13, 35] (fun lv iv wr => ∃ (j : Nat) (L : List SpQ) (M : Nat → Option (Int × Int)), iv = .int .i64 j ∧ j ≤ n ∧ L.length ≤ j ∧ L.length ≤ 80 ∧ Bx (Pl w wr g lv L M)) (fun _ iv _ => n - (intOf iv).toNat)
    case atStart => exact ⟨0, [], M0, rfl, Nat.zero_le _, Nat.zero_le _, Nat.zero_le _, P0⟩
    case round =>
      clear P0
      obtain ⟨j, L, M, rfl, hj, hl1, hl2, HP⟩ := hrel
      by_cases hlt : j < n
      · have hltI : (j : Int) < (n : Int) := by omega
        have hjS : j < S.length := by rw [HN.out]; exact hlt
        obtain ⟨b, o, rfl, e0, e1, e2, e3⟩ := op_at (HR.out.new HP.out.new) j hjS
        have hq := HO.out S[j] (List.getElem_mem hjS)
        obtain ⟨⟨d, id, x, y⟩, hq0⟩ : ∃ q, S[j] = q := ⟨_, rfl⟩
        rw [hq0] at e0 e1 e2 e3 hq
        obtain ⟨q0, q1, q2, q3⟩ := hq
        have AL := (Upd.refl Nowhere wr).alloc (.cells #[.int .u8 d, .int .u32 id, .int .i32 x, .int .i32 y] 31)
        have HP1 := Bx.mk (HP.out.next AL)
        have wk : IntKind.i64.wrap ((j : Int) + 1) = ((j + 1 : Nat) : Int) := by rw [IntKind.wrap_i64]; omega
        by_cases h80 : j < 80
        · have h80I : ¬ (j : Int) ≥ 80 := by omega
          go_upto_block 2 with (fail)
          have hB : (wr.alloc (.cells #[.int .u8 d, .int .u32 id, .int .i32 x, .int .i32 y] 31)).heap[wr.heap.size]? = some (.cells #[.int .u8 d, .int .u32 id, .int .i32 x, .int .i32 y] 31 (0, 0)) := heap_alloc_new ..
          generalize wr.alloc (.cells #[.int .u8 d, .int .u32 id, .int .i32 x, .int .i32 y] 31) = wB at *
          generalize wr.heap.size = ob at *
          have HB := Bx.mk hB
          clear hB AL HP e0 e1 e2 e3 hq0
          go_cut [13] (fun lv wx => ∃ L2 M2, L2.length ≤ L.length + 1 ∧ Bx (Pl w wx g lv L2 M2) ∧ Bx (wx.heap[ob]? = some (.cells #[.int .u8 d, .int .u32 id, .int .i32 x, .int .i32 y] 31 (0, 0))))
          case first =>
            obtain ⟨b0, b1, b2, b3⟩ := op4 HB.out
            have HF := HP1.out.rel.few
            have HOK : ∀ q ∈ L, spOk q := fun q hq => (HP1.out.rel.ok q hq).1
            by_cases hd : d < 4
            · have hdI : (d : Int) < 4 := by omega
              obtain ⟨E, hE⟩ : ∃ E, putE id x y = E := ⟨_, rfl⟩
              have CPR := Bx.mk (refPutE _ L id x y wB HP1.out.sp hl2 q1 HOK hE)
              have CPG := Bx.mk (fun {w' : World} (h : GR w.heap.size w' g M) => putG h HF (by omega) id id rfl q1 x y q2 q3 E hE)
              have CPN := Bx.mk (fun w i x y => putNil_any w i x y)
              have BQ1 := Bx.mk q1
              clear q0 q1 q2 q3 hE HOK HF
              repeat' (first | (first
                | (have _m := G3; (go_at_call 12; (with_reducible refine (CPN.out _ _ _ _).mono ?_); rintro e w4 ⟨rfl, rfl⟩; dsimp only))
                | (have _m := S2; (go_at_call 12; (with_reducible refine (CPG.out (HP1.out.gr.new U2)).mono ?_); rintro e w3 ⟨rfl, V3, G3⟩; have HB3 := Bx.mk (V3.blk HB2.out); (obtain ⟨b0, b1, b2, b3⟩ := op4 HB3.out); dsimp only))
                | ((go_at_call 20; (with_reducible refine (CPR.out).mono ?_); rintro e w2 ⟨v2, rfl, S2, U2⟩; have HB2 := Bx.mk ((GUpd.new (n0 := 0) U2).blk HB.out); (obtain ⟨b0, b1, b2, b3⟩ := op4 HB2.out); dsimp only))) | go_values | go_skip | go_guarded | go_step | go_upon | go_back)
              go_meet
              case rel => exact ⟨_, _, putL_len L id x y, ⟨HP1.out.put BQ1.out U2 S2 V3 G3⟩, HB3⟩
            · have hdI : ¬ (d : Int) < 4 := by omega
              by_cases hd4 : d = 4
              · subst hd4
                obtain ⟨E, hE⟩ : ∃ E, (if (M id).isSome then (0 : Int) else 7) = E := ⟨_, rfl⟩
                have CPR := Bx.mk (refDropE _ L id wB HP1.out.sp hl2 q1 HP1.out.rel hE)
                have CPG := Bx.mk (fun {w' : World} (h : GR w.heap.size w' g M) => dropG h id q1 E hE)
                have CPN := Bx.mk (fun w i => dropNil_any w i)
                clear q0 q1 q2 q3 hE HOK HF
                repeat' (first | (first
                  | (have _m := G3; (go_at_call 16; (with_reducible refine (CPN.out _ _).mono ?_); rintro e w4 ⟨rfl, rfl⟩; dsimp only))
                  | (have _m := S2; (go_at_call 16; (with_reducible refine (CPG.out (HP1.out.gr.new U2)).mono ?_); rintro e w3 ⟨rfl, V3, G3⟩; have HB3 := Bx.mk (V3.blk HB2.out); (obtain ⟨b0, b1, b2, b3⟩ := op4 HB3.out); dsimp only))
                  | ((go_at_call 21; (with_reducible refine (CPR.out).mono ?_); rintro e w2 ⟨v2, rfl, S2, U2⟩; have HB2 := Bx.mk ((GUpd.new (n0 := 0) U2).blk HB.out); (obtain ⟨b0, b1, b2, b3⟩ := op4 HB2.out); dsimp only))) | go_values | go_skip | go_guarded | go_step | go_upon | go_back)
                go_meet
                case rel => exact ⟨_, _, Nat.le_succ_of_le (dropL_le L id), ⟨HP1.out.drop U2 S2 V3 G3⟩, HB3⟩
              · have hd4I : ¬ (d : Int) = 4 := by omega
                have hd4B : ((d : Int) == 4) = false := by simpa using hd4I
                clear q0 q1 q2 q3 HOK HF
                repeat' (first | fail | go_values | go_skip | go_guarded | go_step | go_upon | go_back)
                go_meet
                case rel => exact ⟨L, M, Nat.le_succ _, HP1, HB⟩
          case rest =>
            clear HP1 HB HN HR HO hltI h80I
            obtain ⟨L2, M2, hl3, HP, HB⟩ := hcut
            have hl4 : L2.length ≤ 81 := by omega
            obtain ⟨b0, b1, b2, b3⟩ := op4 HB.out
            obtain ⟨⟨vx, vy⟩, hv⟩ : ∃ v, (M2 id).getD (0, 0) = v := ⟨_, rfl⟩
            obtain ⟨ok, hok⟩ : ∃ b, (M2 id).isSome = b := ⟨_, rfl⟩
            have CW := Bx.mk (whereG HP.out.gr id id rfl q1 (vx, vy) hv ok hok)
            have HIT := Bx.mk (fun q (hq : q ∈ L2) (e : q.1 = id) => show cell q.2.1 = vx ∧ cell q.2.2 = vy ∧ ok = true by
              have h := HP.out.rel.hit hq
              rw [e] at h
              rw [h] at hv hok
              simp only [Option.getD_some, Prod.mk.injEq] at hv
              exact ⟨hv.1, hv.2, hok.symm⟩)
            have HAS := Bx.mk ((HP.out.rel.has id).trans hok)
            have BQ1 := Bx.mk q1
            clear hv hok q0 q1 q2 q3
            obtain ⟨m, hm⟩ : ∃ m, L2.length = m := ⟨_, rfl⟩
            have HM := Bx.mk hm
            obtain ⟨us, hu1, hu2⟩ := cells_ex HP.out.rel.few
            obtain ⟨nu, hnu⟩ : ∃ nu, us.length = nu := ⟨_, rfl⟩
            have CU := Bx.mk (fun {w' : World} (h : GR w.heap.size w' g M2) => usedG h us hu1 hu2 nu hnu)
            have CRU := Bx.mk (fun {w' : World} {v : Value} (h : SpL w' v L2) => refUsedN HP.out.rel hl4 us hu1 hu2 nu hnu v w' h)
            have CL := Bx.mk (fun {w' : World} (h : GR w.heap.size w' g M2) => lenR h HP.out.rel m hm)
            have HO := Bx.mk (fun q (hq : q ∈ L2) => (HP.out.rel.ok q hq).1)
            obtain ⟨A2, c2, rfl, -, -, hr2⟩ := HP.out.sp
            have HR2 := Bx.mk hr2
            rw [hm] at HP ⊢
            clear hu1 hu2 hnu hr2
            repeat' (first | (go_at_call 17; (with_reducible refine (CW.out).mono ?_); rintro e w5 ⟨rfl, U5⟩; dsimp only) | go_values | go_skip | go_guarded | go_step | go_upon | go_back)
            have HP5 := Bx.mk (HP.out.next U5)
            have HR5 := Bx.mk (HR2.out.new U5)
            have HB5 := Bx.mk ((GUpd.new (n0 := 0) U5).blk HB.out)
            clear HP HR2 HB CW U5 b0 b1 b2 b3
            go_loopw [20, 112] (fun bv kv wr => ∃ (k : Nat), kv = .int .i64 k ∧ k ≤ m ∧ bv = .bool (hasL id (L2.take k)) ∧ Bx (New w5 wr)) (fun _ kv _ => m - (intOf kv).toNat)
            case atStart => exact ⟨0, rfl, Nat.zero_le _, rfl, ⟨Upd.refl _ _⟩⟩
            case round =>
              obtain ⟨k, rfl, hk, rfl, HU⟩ := hrel
              by_cases hkl : k < m
              · have hklI : (k : Int) < (m : Int) := by omega
                have hkL : k < L2.length := by rw [HM.out]; exact hkl
                obtain ⟨b, o, rfl, f0, f1, f2⟩ := sp_at (HR5.out.new HU.out) k hkL
                have hmem : L2[k] ∈ L2 := List.getElem_mem hkL
                have hit := HIT.out _ hmem
                have hq1 := HO.out _ hmem
                have hHT := hasL_take id L2 k hkL
                generalize L2[k] = qq at *
                obtain ⟨i1, u1, v1⟩ := qq
                dsimp only at f0 f1 f2 hit hq1 hHT
                obtain ⟨tx, htx⟩ : ∃ cx, cell u1 = cx := ⟨_, rfl⟩
                obtain ⟨ty, hty⟩ : ∃ cy, cell v1 = cy := ⟨_, rfl⟩
                have O1 := Bx.mk (fun w => crefOf_u u1 w hq1.2.1)
                have O2 := Bx.mk (fun w => crefOf_u v1 w hq1.2.2)
                rw [htx] at O1 hit
                rw [hty] at O2 hit
                have d0 := box_at' wr #[.int .u32 i1, .int .i32 u1, .int .i32 v1] 51 0 _ rfl
                have d1 := box_at' wr #[.int .u32 i1, .int .i32 u1, .int .i32 v1] 51 1 _ rfl
                have d2 := box_at' wr #[.int .u32 i1, .int .i32 u1, .int .i32 v1] 51 2 _ rfl
                have AL := (Upd.refl Nowhere wr).alloc (.cells #[.int .u32 i1, .int .i32 u1, .int .i32 v1] 51)
                obtain ⟨b0, b1, b2, b3⟩ := op4 ((GUpd.new (n0 := 0) (HU.out.trans AL)).blk HB5.out)
                have HU3 := Bx.mk (HU.out.trans AL)
                have wk2 : IntKind.i64.wrap ((k : Int) + 1) = ((k + 1 : Nat) : Int) := by rw [IntKind.wrap_i64]; omega
                have HHT := Bx.mk hHT
                obtain ⟨fk, hfk⟩ : ∃ f, hasL id (L2.take k) = f := ⟨_, rfl⟩
                rw [hfk] at HHT ⊢
                clear hmem hq1 htx hty AL hfk hHT
                by_cases g1 : i1 = id
                · subst g1
                  obtain ⟨rfl, rfl, rfl⟩ := hit rfl
                  clear hit
                  repeat' (first | (first
                    | ((go_at_call 10; (with_reducible refine (O1.out _).mono ?_); rintro e w0' ⟨rfl, rfl⟩; dsimp only))
                    | ((go_at_call 10; (with_reducible refine (O2.out _).mono ?_); rintro e w0' ⟨rfl, rfl⟩; dsimp only))) | go_values | go_skip | go_guarded | go_step | go_upon | go_back)
                  go_roundw
                  case rel => exact ⟨k + 1, by go_num, by omega, by rw [HHT.out]; simp, HU3⟩
                  case measure => simp [intOf]; omega
                · have g1I : ¬ (i1 : Int) = (id : Int) := by omega
                  have g1B : ((i1 : Int) == (id : Int)) = false := by simpa using g1I
                  clear hit
                  repeat' (first | fail | go_values | go_skip | go_guarded | go_step | go_upon | go_back)
                  go_roundw
                  case rel => exact ⟨k + 1, by go_num, by omega, by rw [HHT.out]; simp [g1], HU3⟩
                  case measure => simp [intOf]; omega
              · have hklI : ¬ (k : Int) < (m : Int) := by omega
                obtain rfl : k = m := by omega
                rw [show hasL id (L2.take k) = ok by rw [List.take_of_length_le (by rw [HM.out]; exact Nat.le_refl _), HAS.out]]
                have HP6 := Bx.mk (HP5.out.next HU.out)
                have okB : (ok != ok) = false := by simp
                clear HP5 HU HIT HAS HR5 HB5
                repeat' (first | (first
                  | ((go_at_call 22; (with_reducible refine (CRU.out HP6.out.sp).mono ?_); rintro e w7 ⟨rfl, U7⟩; dsimp only))
                  | ((go_at_call 14; (with_reducible refine (CU.out HP6.out.gr).mono ?_); rintro e w6 ⟨rfl, rfl⟩; dsimp only))
                  | ((go_at_call 18; (with_reducible refine (CL.out HP6.out.gr).mono ?_); rintro e w6 ⟨rfl, rfl⟩; dsimp only))) | go_values | go_skip | go_guarded | go_step | go_upon | go_back)
                go_roundw
                case rel => exact ⟨j + 1, L2, M2, by go_num, by omega, by rw [HM.out]; omega, by rw [HM.out]; omega, ⟨HP6.out.next U7⟩⟩
                case measure => simp [intOf]; omega
        · have h80I : (j : Int) ≥ 80 := by omega
          clear hq0 AL q0 q1 q2 q3
          repeat' (first | fail | go_values | go_skip | go_guarded | go_step | go_upon | go_back)
          go_meet
          case rel => exact ⟨L, M, hl2, HP1⟩
      · have hltI : ¬ (j : Int) < (n : Int) := by omega
        repeat' (first | fail | go_values | go_skip | go_guarded | go_step | go_upon | go_back)
        go_meet
        case rel => exact ⟨L, M, hl2, HP⟩
  case rest =>
    clear P0 HN HR HO
    obtain ⟨L, M, hl, HP⟩ := hcut
    have HF := HP.out.rel.few
    have HRL := HP.out.rel
    have HOK : ∀ q ∈ L, spOk q := fun q hq => (HRL.ok q hq).1
    -- both boxes, alike
    have QB : ∀ (x0 y0 x1 y1 : Int), inI64 x0 → inI64 y0 → inI64 x1 → inI64 y1 → ∃ xs : List Nat, ∃ nx, xs.length = nx ∧ nx ≤ 80 ∧
        (∀ {w' : World}, GR w.heap.size w' g M → Calls Try.prog 19 #[.pointer (some ⟨g, 0, none⟩), .int .i64 x0, .int .i64 y0, .int .i64 x1, .int .i64 y1] w' fun e w2 => ∃ A c, e = .returned (.slice A nx c) ∧ Rd w2 A (idv xs) ∧ New w' w2) ∧
        (∀ {w' : World} {v : Value}, SpL w' v L → Calls Try.prog 23 #[v, .int .i64 x0, .int .i64 y0, .int .i64 x1, .int .i64 y1] w' fun e w2 => ∃ A c, e = .returned (.slice A nx c) ∧ Rd w2 A (idv xs) ∧ New w' w2) := fun x0 y0 x1 y1 h0 h1 h2 h3 => by
      have hm : ∀ i, i ∈ selL (inBx x0 y0 x1 y1) L ↔ ∃ s, M i = some s ∧ max x0 (-32) ≤ s.1 ∧ s.1 ≤ min x1 31 ∧ max y0 (-32) ≤ s.2 ∧ s.2 ≤ min y1 31 := fun i => by
        rw [HRL.mem_sel]
        constructor
        · rintro ⟨s, hs, hp⟩
          have := HRL.cell_in hs
          unfold inBx at hp
          rw [decide_eq_true_iff] at hp
          exact ⟨s, hs, by omega⟩
        · rintro ⟨s, hs, hp⟩
          refine ⟨s, hs, ?_⟩
          unfold inBx
          rw [decide_eq_true_iff]
          omega
      refine ⟨selL (inBx x0 y0 x1 y1) L, (selL (inBx x0 y0 x1 y1) L).length, rfl, Nat.le_trans (sel_len _ _) hl, ?_, ?_⟩
      · intro w' hG
        refine (boxG hG HF (by omega) x0 y0 x1 y1 ⟨h0, h1, h2, h3⟩ (selL (inBx x0 y0 x1 y1) L) (HRL.sel_srt _) hm _ rfl).mono ?_
        rintro e w2 ⟨A, rfl, h1, _, h2⟩
        exact ⟨A, _, rfl, h1, h2⟩
      · intro w' v hS
        exact refBox_any v L HOK (by omega) w' hS x0 y0 x1 y1 _ rfl _ rfl
    have QA : ∀ (cx cy : Int), inI64 cx → inI64 cy → ∃ xs : List Nat, ∃ nx, xs.length = nx ∧ nx ≤ 80 ∧
        (∀ {w' : World}, GR w.heap.size w' g M → Calls Try.prog 13 #[.pointer (some ⟨g, 0, none⟩), .int .i64 cx, .int .i64 cy] w' fun e w2 => ∃ A c, e = .returned (.slice A nx c) ∧ Rd w2 A (idv xs) ∧ New w' w2) ∧
        (∀ {w' : World} {v : Value}, SpL w' v L → Calls Try.prog 23 #[v, .int .i64 cx, .int .i64 cy, .int .i64 cx, .int .i64 cy] w' fun e w2 => ∃ A c, e = .returned (.slice A nx c) ∧ Rd w2 A (idv xs) ∧ New w' w2) := fun cx cy h0 h1 => by
      have hm : ∀ i, i ∈ selL (inBx cx cy cx cy) L ↔ M i = some (cx, cy) := fun i => by
        rw [HRL.mem_sel]
        constructor
        · rintro ⟨⟨sx, sy⟩, hs, hp⟩
          unfold inBx at hp
          rw [decide_eq_true_iff] at hp
          dsimp only at hp
          obtain rfl : sx = cx := by omega
          obtain rfl : sy = cy := by omega
          exact hs
        · rintro hs
          refine ⟨(cx, cy), hs, ?_⟩
          unfold inBx
          rw [decide_eq_true_iff]
          simp only
          omega
      refine ⟨selL (inBx cx cy cx cy) L, (selL (inBx cx cy cx cy) L).length, rfl, Nat.le_trans (sel_len _ _) hl, ?_, ?_⟩
      · intro w' hG
        refine (atG hG HF (by omega) cx cy h0 h1 (selL (inBx cx cy cx cy) L) (HRL.sel_srt _) hm _ rfl).mono ?_
        rintro e w2 ⟨A, c, rfl, h1, _, h2⟩
        exact ⟨A, c, rfl, h1, h2⟩
      · intro w' v hS
        exact refBox_any v L HOK (by omega) w' hS cx cy cx cy _ rfl _ rfl
    have CS := Bx.mk (fun {xs : List Nat} {nx : Nat} (hx : xs.length = nx) (hb : nx ≤ 80) {A B : Option Addr} {c d : Nat} {w' : World} (h1 : Rd w' A (idv xs)) (h2 : Rd w' B (idv xs)) => (same_any A B nx nx c d xs xs w' h1 h2 hx hx (by omega)).mono (fun e w2 h => show e = .returned (.bool true) ∧ New w' w2 from ⟨h.1.trans (by simp), h.2⟩))
    have BQA := Bx.mk QA
    have BQB := Bx.mk QB
    have BOK := Bx.mk (fun q (hq : q ∈ L) => HRL.ok q hq)
    obtain ⟨m, hm⟩ : ∃ m, L.length = m := ⟨_, rfl⟩
    have HM := Bx.mk hm
    obtain ⟨A2, c2, rfl, -, -, hr2⟩ := HP.out.sp
    have HR2 := Bx.mk hr2
    rw [hm] at HP ⊢
    clear hm hr2 QA QB HRL HOK HF
    repeat' (first | fail | go_values | go_skip | go_guarded | go_step | go_upon | go_back)
    go_loopw [157] (fun kv wr => ∃ (k : Nat), kv = .int .i64 k ∧ k ≤ m ∧ Bx (Pl w wr g (.slice A2 m c2) L M) ∧ Bx (Rd wr A2 (spots L))) (fun kv _ => m - (intOf kv).toNat)
    case atStart => exact ⟨0, rfl, Nat.zero_le _, HP, HR2⟩
    case round =>
      clear HP HR2
      obtain ⟨k, rfl, hk, HP, HR2⟩ := hrel
      by_cases hkl : k < m
      · have hklI : (k : Int) < (m : Int) := by omega
        have hkL : k < L.length := by rw [HM.out]; exact hkl
        obtain ⟨b, o, rfl, f0, f1, f2⟩ := sp_at HR2.out k hkL
        have hq1 := BOK.out _ (List.getElem_mem hkL)
        generalize L[k] = qq at *
        obtain ⟨i1, u1, v1⟩ := qq
        dsimp only at f0 f1 f2 hq1
        obtain ⟨tx, htx⟩ : ∃ cx, cell u1 = cx := ⟨_, rfl⟩
        obtain ⟨ty, hty⟩ : ∃ cy, cell v1 = cy := ⟨_, rfl⟩
        have O1 := Bx.mk (fun w => crefOf_u u1 w hq1.1.2.1)
        have O2 := Bx.mk (fun w => crefOf_u v1 w hq1.1.2.2)
        have hin : inI64 tx ∧ inI64 ty := by have := hq1.2; unfold cell at htx hty; unfold inWorld at this; unfold inI64; omega
        rw [htx] at O1
        rw [hty] at O2
        obtain ⟨xs, nx, hnx, hnb, CA, CB⟩ := BQA.out tx ty hin.1 hin.2
        have BCA := Bx.mk @CA
        have BCB := Bx.mk @CB
        have BNX := Bx.mk (And.intro hnx hnb)
        have D1 := box_at' wr #[.int .u32 i1, .int .i32 u1, .int .i32 v1] 51 1 _ rfl
        have D2 := box_at' wr #[.int .u32 i1, .int .i32 u1, .int .i32 v1] 51 2 _ rfl
        have AL := (Upd.refl Nowhere wr).alloc (.cells #[.int .u32 i1, .int .i32 u1, .int .i32 v1] 51)
        have k1 : ∀ z : After (wr.alloc (.cells #[.int .u32 i1, .int .i32 u1, .int .i32 v1] 51)), z.to.cell? ⟨wr.heap.size, 1, none⟩ = some (.int .i32 u1) := fun z => z.h.cell D1 (fun q => q)
        have k2 : ∀ z : After (wr.alloc (.cells #[.int .u32 i1, .int .i32 u1, .int .i32 v1] 51)), z.to.cell? ⟨wr.heap.size, 2, none⟩ = some (.int .i32 v1) := fun z => z.h.cell D2 (fun q => q)
        have HP2 := Bx.mk (HP.out.next AL)
        have HR3 := Bx.mk (HR2.out.new AL)
        have wk2 : IntKind.i64.wrap ((k : Int) + 1) = ((k + 1 : Nat) : Int) := by rw [IntKind.wrap_i64]; omega
        clear hq1 htx hty hin CA CB hnx hnb D1 D2 AL HP HR2
        repeat' (first | fail | go_values | go_skip | go_guarded | go_step | go_upon | go_back)
        (refine wp_region_calm (by kernel_rfl) (by kernel_rfl) ?_; (repeat (go_big_quiet_step ((go_at_call 10; first | with_reducible refine Calls.calm_same (O1.out _) | with_reducible refine Calls.calm_same (O2.out _))))); refine wpQuiet_nil ?_; intro wq hq)
        clear k1 k2
        have HP4 := Bx.mk (HP2.out.next hq)
        have HR4 := Bx.mk (HR3.out.new hq)
        clear HP2 HR3 hq
        repeat' (first | (first
          | (have _m := I6; (go_at_call 15; (with_reducible refine (CS.out BNX.out.1 BNX.out.2 I5' I6).mono ?_); rintro e w7 ⟨rfl, U7⟩; dsimp only))
          | (have _m := I5; (go_at_call 23; (with_reducible refine (BCB.out (HP4.out.next U5).sp).mono ?_); rintro e w6 ⟨A6, c6, rfl, I6, U6⟩; have I5' := I5.new U6; dsimp only))
          | ((go_at_call 13; (with_reducible refine (BCA.out HP4.out.gr).mono ?_); rintro e w5 ⟨A5, c5, rfl, I5, U5⟩; dsimp only))) | go_values | go_skip | go_guarded | go_step | go_upon | go_back)
        go_roundw
        case rel => exact ⟨k + 1, by go_num, by omega, ⟨HP4.out.next ((U5.trans U6).trans U7)⟩, ⟨HR4.out.new ((U5.trans U6).trans U7)⟩⟩
        case measure => simp [intOf]; omega
      · have hklI : ¬ (k : Int) < (m : Int) := by omega
        obtain ⟨xs, nx, hnx, hnb, CA, CB⟩ := BQB.out x0 y0 x1 y1 hb0 hb1 hb2 hb3
        obtain ⟨ys, ny, hny, hny2, CC, CD⟩ := BQA.out x0 y0 hb0 hb1
        have B1 := Bx.mk @CA
        have B2 := Bx.mk @CB
        have B3 := Bx.mk @CC
        have B4 := Bx.mk @CD
        have BNX := Bx.mk (And.intro hnx hnb)
        have BNY := Bx.mk (And.intro hny hny2)
        have N1 := Bx.mk whereNil_any
        have N2 := Bx.mk atNil_any
        have N3 := Bx.mk bxNil_any
        have N4 := Bx.mk lenNil_any
        have N5 := Bx.mk usedNil_any
        clear CA CB CC CD hnx hnb hny hny2 BQA BQB HR2
        repeat' (first | (first
          | ((go_at_call 17; (with_reducible refine (N1.out _ _).mono ?_); rintro e w0' ⟨rfl, rfl⟩; dsimp only))
          | ((go_at_call 13; (with_reducible refine (N2.out _ _ _).mono ?_); rintro e w0' ⟨rfl, rfl⟩; dsimp only))
          | ((go_at_call 19; (with_reducible refine (N3.out _ _ _ _ _).mono ?_); rintro e w0' ⟨rfl, rfl⟩; dsimp only))
          | ((go_at_call 18; (with_reducible refine (N4.out _).mono ?_); rintro e w0' ⟨rfl, rfl⟩; dsimp only))
          | ((go_at_call 14; (with_reducible refine (N5.out _).mono ?_); rintro e w0' ⟨rfl, rfl⟩; dsimp only))
          | (have _m := J6; (go_at_call 15; (with_reducible refine (CS.out BNY.out.1 BNY.out.2 J5' J6).mono ?_); rintro e w10 ⟨rfl, U10⟩; dsimp only))
          | (have _m := J5; (go_at_call 23; (with_reducible refine (B4.out (HP7.out.next U8).sp).mono ?_); rintro e w9 ⟨A9, c9, rfl, J6, U9⟩; have J5' := J5.new U9; dsimp only))
          | (have _m := HP7; (go_at_call 13; (with_reducible refine (B3.out HP7.out.gr).mono ?_); rintro e w8 ⟨A8, c8, rfl, J5, U8⟩; dsimp only))
          | (have _m := I6; (go_at_call 15; (with_reducible refine (CS.out BNX.out.1 BNX.out.2 I5' I6).mono ?_); rintro e w7 ⟨rfl, U7⟩; have HP7 := Bx.mk (HP.out.next ((U5.trans U6).trans U7)); clear I6 I5'; dsimp only))
          | (have _m := I5; (go_at_call 23; (with_reducible refine (B2.out (HP.out.next U5).sp).mono ?_); rintro e w6 ⟨A6, c6, rfl, I6, U6⟩; have I5' := I5.new U6; clear I5; dsimp only))
          | ((go_at_call 19; (with_reducible refine (B1.out HP.out.gr).mono ?_); rintro e w5 ⟨A5, c5, rfl, I5, U5⟩; dsimp only))) | go_values | go_skip | go_guarded | go_step | go_upon | go_back)
        go_returns
        exact ⟨rfl, HP7.out.new.trans ((U8.trans U9).trans U10)⟩
end Go.Proofs.Ytaliadekdpbfdaa
