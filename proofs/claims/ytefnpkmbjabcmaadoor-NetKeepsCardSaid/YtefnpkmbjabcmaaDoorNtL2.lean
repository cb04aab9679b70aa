/- The law NetKeeps: walked. -/
import Derived.Test.YtefnpkmbjabcmaaDoorNtMap
import Derived.Deep.DeepCutAuto
import Derived.Deep.CutBlock
import Derived.StringKeys
import Derived.Maps.RangeWalk
namespace Go.Proofs.YtefnpkmbjabcmaaDoor
open Go.RowKit Go.Maps

theorem keyS : Keyed Tryd.prog 9 := string_keyed Tryd.underlying9
theorem zeroI (w : World) : (zeroValue 3).run Tryd.prog w = .ok (.int .i64 0) w := by kernel_rfl
theorem key_of (f : List (BitVec 8)) (h : f.length ≤ 1000) : keyOf Tryd.prog 9 (.string (strOf f)) = some (kf f) := Go.WideMaps.keyOf_string_mk Tryd.underlying9 (by rw [strOf_size]; unfold maxLen; omega)
theorem map_upd {S : Nat → Prop} {w w' : World} {b n : Nat} {D : DataW Unit} {k : TypeId} {R : Value → Option (DataW Unit × List MemPlace)} (h : w.ownsMap Tryd.prog k R b n D) (hu : Upd S w w') (hn : ¬ S b) : w'.ownsMap Tryd.prog k R b n D := by
  have hlt := h.lt
  obtain ⟨es, clock, hb, F, hs, hD⟩ := h
  exact ⟨es, clock, (hu.block b hlt hn).trans hb, F, hs, hD⟩
theorem upd_grown {w w' : World} {b : Nat} (h : w.grownBy w' (some b)) : Upd (fun k => k = b) w w' := ⟨h.os, h.tape, h.output, h.size, fun k hk hn => h.block k hk (fun e => hn (Option.some.inj e))⟩
/-- the state of the law: a bag, and a map that counts -/
structure Keeps (w0 w : World) (g b nn : Nat) (v : Value) (xs : List It) (D : DataW Unit) : Prop where
  held : Held w0 w g v 200 xs
  own : w.ownsMap Tryd.prog 9 (plainElem Tryd.prog 3) b nn D
  counts : Counts D xs
  fr : ∀ x ∈ xs, x.fr.length ≤ 40
  ge : w0.heap.size ≤ b
theorem map_obj {w : World} {b n : Nat} {D : DataW Unit} {k : TypeId} {R : Value → Option (DataW Unit × List MemPlace)} (h : w.ownsMap Tryd.prog k R b n D) : ∃ es clock, w.heap[b]? = some (.map es clock) := by
  obtain ⟨es, clock, hb, _⟩ := h; exact ⟨es, clock, hb⟩
theorem not_row {w : World} {b n g e size m : Nat} {D : DataW Unit} {k : TypeId} {R : Value → Option (DataW Unit × List MemPlace)} {v : Value} {cs : List Value} (h : w.ownsMap Tryd.prog k R b n D) (hr : w.ownsRow g e size v m cs) : ¬ v.ownBlock = some b := by
  intro hb
  obtain ⟨es, clock, ho⟩ := map_obj h
  obtain ⟨_, ⟨rfl, _⟩ | ⟨g', cap, cur, rfl, _, hh, _⟩⟩ := hr
  · cases hb
  · simp only [Value.ownBlock, Option.some.injEq] at hb
    subst hb
    rw [ho] at hh
    cases hh
theorem Keeps.neg {w0 w : World} {g b nn : Nat} {v : Value} {xs : List It} {D : DataW Unit} (h : Keeps w0 w g b nn v xs D) : b ≠ g := by
  intro e
  obtain ⟨es, clock, ho⟩ := map_obj h.own
  rw [e, h.held.bag.obj] at ho
  cases ho
theorem Keeps.next {w0 w w' : World} {g b nn : Nat} {v : Value} {xs : List It} {D : DataW Unit} (h : Keeps w0 w g b nn v xs D) (k : New w w') : Keeps w0 w' g b nn v xs D :=
  ⟨h.held.next k, map_upd h.own k (fun q => q), h.counts, h.fr, h.ge⟩
/-- the bag has turned; the map not yet -/
theorem Keeps.bag {w0 w w' : World} {g b nn : Nat} {v v' : Value} {xs ys : List It} {D : DataW Unit} (h : Keeps w0 w g b nn v xs D) (hb : IsBag w' g v' 200 ys) (hW : BagWrote g v v' w w') :
    Held w0 w' g v' 200 ys ∧ w'.ownsMap Tryd.prog 9 (plainElem Tryd.prog 3) b nn D :=
  ⟨h.held.step hb hW, map_upd h.own hW.upd (fun q => q.elim (fun e => h.neg e) (fun e => not_row h.own h.held.bag.row e))⟩
/-- .. and now the map, too -/
theorem Keeps.map {w0 w w' : World} {g b nn : Nat} {v : Value} {ys : List It} {D D' : DataW Unit} (hh : Held w0 w g v 200 ys) (ho : w.ownsMap Tryd.prog 9 (plainElem Tryd.prog 3) b nn D) (hg : w.grownBy w' (some b))
    (ho' : w'.ownsMap Tryd.prog 9 (plainElem Tryd.prog 3) b (nn + 1) D') (hc : Counts D' ys) (hf : ∀ x ∈ ys, x.fr.length ≤ 40) (hge : w0.heap.size ≤ b) : Keeps w0 w' g b (nn + 1) v ys D' := by
  have hu := upd_grown hg
  have hne : g ≠ b := by
    intro e
    obtain ⟨es, clock, ho2⟩ := map_obj ho
    rw [← e, hh.bag.obj] at ho2
    cases ho2
  exact ⟨⟨hh.new.then hu (fun k hk => .inr (hk ▸ hge)), hh.bag.upd hu hne (fun k hk q => not_row ho hh.bag.row ((show k = b from q) ▸ hk)) (fun x hx k hk q => not_row ho (hh.bag.frs x hx) ((show k = b from q) ▸ hk)), hh.ge, hh.own⟩, ho', hc, hf, hge⟩
theorem invKey (key : Value) (kl : Lit) (h : keyOf Tryd.prog 9 key = some kl) : ∃ x, key = Value.string x := by
  cases key <;> simp [keyOf, Tryd.underlying9, mapKey] at h
  exact ⟨_, rfl⟩
theorem invElem (v : Value) (y : DataW Unit × List MemPlace) (h : plainElem Tryd.prog 3 v = some y) : ∃ c, v = Value.int .i64 c := by
  obtain ⟨c, rfl, _⟩ := plainElem_int_inv Tryd.underlying3 h
  exact ⟨c, rfl⟩
/-- what was peeked, behind a turn of the bag -/
theorem peeked {w w' : World} {g most bx B n : Nat} {v v' a b : Value} {xs : List It} {f : List (BitVec 8)} {A : Option Addr} {c : Nat} (h : IsBag w g v most xs) (hbx : w.heap[bx]? = some (.cells #[a, b] 36 (0, 0))) (hn : ∀ k, v.ownBlock = some k → k ≠ bx) (hr : w.ownsRow B 5 1 (.slice A n c) n (u8s f)) (hW : BagWrote g v v' w w') :
    w'.heap[bx]? = some (.cells #[a, b] 36 (0, 0)) ∧ Rd w' A (u8s f) := by
  have hgb : bx ≠ g := by
    intro e
    have e2 := h.obj
    rw [← e, hbx] at e2
    injection e2 with e2
    injection e2 with _ e2
    exact absurd e2 (by decide)
  refine ⟨hW.upd.blk hbx (fun q => q.elim hgb (fun e => hn _ e rfl)), ?_⟩
  obtain ⟨A', c', hv, _, _, hrd, _⟩ := own_rd (own_upd hr hW.upd (fun k hk q => q.elim (fun e => obj_apart h.obj hr (by decide) (e ▸ hk)) (fun e => own_apart hr h.row (by decide) k hk e)))
  obtain ⟨rfl, -⟩ : A = A' ∧ c = c' := by simpa using hv
  exact hrd
theorem cnt_of {D : DataW Unit} {xs : List It} {P : List (BitVec 8)} {c : Int} (h : Counts D xs) (hat : D.atKey (kf P) (.lit (.int .i64 0)) = .lit (.int .i64 c)) : c = cnt xs P := by
  have := h.at_ P
  unfold z64 i64' at this
  rw [hat] at this
  simpa using this

set_option maxRecDepth 100000 in
set_option maxHeartbeats 8000000 in
theorem NetKeeps_any (A : Option Addr) (n c : Nat) (vs : List Value) (fs : List (List (BitVec 8))) (B : Option Addr) (m cb : Nat) (os : List (BitVec 8)) (w : World) (hl : fs.length = n) (hnc : n ≤ c) (hx : IsRows w A vs fs) (hol : os.length = m) (ho : Rd w B (u8s os)) (ht : IsTab w) :
    Calls Tryd.prog 4 #[.slice A n c, .slice B m cb] w fun e w' => e = .returned (.bool true) ∧ New w w' := by
  have HL := Bx.mk hl
  have HOL := Bx.mk hol
  have hmm := @run_makeMap Tryd.prog
  clear hl hol
  go_enter Tryd.func4, Tryd.ntmps4
  go_upto_block 0 with (first
    | (go_at_call 7; go_loud ((with_reducible refine (awake_any _ ht).mono ?_); rintro e w1 ⟨rfl, hu1⟩; dsimp only))
    | (go_at_call 11; go_loud ((with_reducible refine (NetNew_n 200 w1 (by decide) (by decide) 200 rfl).mono ?_); rintro e w2 ⟨rfl, hu2, hB2⟩; have hH2 := Held.made hu2 hB2; dsimp only)))
  have hK2 : Keeps w1 (w2.alloc (.map #[] 0)) w1.heap.size w2.heap.size 0 (.slice none 0 0) [] (.map []) :=
    ⟨hH2.next ((Upd.refl _ _).alloc _), World.ownsMap_made _ _ _ _, Counts.none, (fun x hx => by cases hx), hu2.size⟩
  clear hmm
  go_cut [] (fun wx => ∃ (v : Value) (xs : List It) (D : DataW Unit) (nn : Nat), Keeps w1 wx w1.heap.size w2.heap.size nn v xs D ∧ xs.length ≤ 30 ∧ nn ≤ 30)
  case first =>
    go_wp2
    go_loopw [31] (fun i wr => ∃ (j : Nat) (v : Value) (xs : List It) (D : DataW Unit), j ≤ n ∧ j ≤ 30 ∧ i = .int .i64 j ∧ xs.length = j ∧ Keeps w1 wr w1.heap.size w2.heap.size j v xs D) (fun i _ => n - (intOf i).toNat)
    case atStart => exact ⟨0, _, [], _, by omega, by omega, rfl, rfl, hK2⟩
    case round =>
      obtain ⟨j, v, xs, D, hj, hj30, rfl, hxl, hK⟩ := hrel
      have HXL := Bx.mk hxl
      clear hxl
      by_cases hlt : j < n
      · by_cases h30 : j = 30
        · subst h30
          have hni : (30 : Int) < (n : Int) := by omega
          obtain ⟨b0, off, Bf, cf, rfl, hcell0, -, -, -, -⟩ := hx.at_ 30 (by rw [HL.out]; exact hlt)
          have hcell := (hu1.trans hK.held.new).cell hcell0 (fun q => q)
          repeat' (first | fail | go_values | go_skip | go_guarded | go_step | go_upon | go_back)
          go_meet
          case rel => exact ⟨v, xs, D, 30, hK, by rw [HXL.out]; exact Nat.le_refl _, Nat.le_refl _⟩
        · have hj29 : j < 30 := by omega
          obtain ⟨b0, off, Bf, cf, rfl, hcell0, hcf, hBf, hrB0, hbig⟩ := hx.at_ j (by rw [HL.out]; exact hlt)
          generalize fs.getD j [] = f at *
          have hnw := hu1.trans hK.held.new
          have hcell := hnw.cell hcell0 (fun q => q)
          obtain ⟨k, hk⟩ : ∃ k, min f.length 40 = k := ⟨_, rfl⟩
          have hmin : min (f.length : Int) 40 = (k : Int) := by omega
          have hk40 : k ≤ 40 := by omega
          have hkf : (k : Int) ≤ (f.length : Int) := by omega
          have hkc : (k : Int) ≤ (cf : Int) := by omega
          have hr0 := hrB0.take k
          rw [← u8s_take] at hr0
          have HPL := Bx.mk (show (f.take k).length = k by rw [List.length_take]; omega)
          have HBN := Bx.mk (show Bf = none → k = 0 from fun h => by have := hBf h; omega)
          generalize f.take k = P at *
          generalize f.length = lf at *
          have hr1 := hr0.new hnw
          have HCF := Bx.mk (show cnt xs P ≤ 30 by have := cnt_le xs P; have := HXL.out; omega)
          clear hbig hBf hrB0 hcf hk
          have hl0 := own_lower (own_lit0 wr wr.heap.size 5 1 (Nat.le_refl _)) hK.held.new.size
          have hs := (hr1.new ((Upd.refl _ wr).alloc (.cells #[] 5))).src (P := Tryd.prog) (n := k) (c := cf) (size := 1) Tryd.underlying22 HBN.out (by rw [u8s_length, HPL.out, Nat.mul_one]) (u8s_one P)
          obtain ⟨q, hq⟩ : ∃ q, cnt xs P = q := ⟨_, rfl⟩
          have hq30 : q ≤ 30 := by have := HCF.out; omega
          have hq30i : (q : Int) ≤ 30 := by omega
          have HQ := Bx.mk hq
          clear hq
          have hx200 : xs.length < 200 := by have := HXL.out; omega
          have hji : (j : Int) < 30 := by omega
          repeat' (first | (first
            | ((with_reducible refine at_wpList ?_); refine wpList_min rfl _ _ _ _ rfl _ _ _ _ _ hmin rfl rfl ?_)
            | (at_builtin; go_loud (refine wpList_appN _ rfl _ _ 22 22 rfl _ 5 (.int .u8 0) 1 1 Tryd.underlying22 info8 rfl _ _ _ hl0 rfl _ _ _ hs rfl _ (hK.held.new.alloc _) ?c1 ?c2 ?_; (case c1 => unfold maxLen; omega); (case c2 => omega); intro v2 w3 ho3 hu3 hk3 hv3; simp only [Nat.zero_add, List.nil_append] at ho3; (obtain ⟨A2, c2, rfl, _, _, hr3, _⟩ := own_rd ho3)))
            | (have hn3 := lit_new hk3; (go_at_call 12; go_loud ((with_reducible refine (Put_ok (hK.next hn3).held.bag hx200 (by decide) _ j A2 k c2 P rfl HPL.out (by omega) hr3).mono ?_); rintro e w4 ⟨rfl, v4, y, hy1, hy2, -, hB4, hW4⟩; obtain ⟨hH4, hM4⟩ := (hK.next hn3).bag hB4 hW4; have hcv := conv_str (P := Tryd.prog) (c := cf) Tryd.underlying22 Tryd.underlying5 Tryd.underlying9 (hr0.new (hu1.trans hH4.new)) HPL.out; have hcnt : ∀ c', D.atKey (kf P) (.lit (.int .i64 0)) = .lit (.int .i64 c') → c' = q := (fun c' h => (by rw [cnt_of hK.counts h, HQ.out])); dsimp only)))
            | (at_lookup; refine wpList_lookup_own_int _ rfl _ _ 33 rfl 9 3 .i64 keyS Tryd.underlying33 Tryd.underlying3 (zeroI _) w2.heap.size j D rfl hM4 _ _ rfl (key_of P (by rw [HPL.out]; omega)) ?_; intro cc hat hwc; obtain rfl := hcnt cc hat; clear hat hwc)
            | (at_mapUpdate; refine wpList_mapUpdate_own _ rfl _ _ _ 33 rfl 9 3 keyS Tryd.underlying33 _ w2.heap.size j D rfl hM4 (by unfold maxLen; omega) _ _ _ rfl rfl (key_of P (by rw [HPL.out]; omega)) _ [] (plainElem_int Tryd.underlying3 (WalkArith.wf_i64 (by omega))) ?_; intro w5 hown5 hg5)) | go_values | go_skip | go_guarded | go_step | go_upon | go_back)
          go_roundw
          case rel =>
            refine ⟨j + 1, v4, xs ++ [y], _, by omega, by omega, by go_num, by rw [List.length_append, HXL.out]; rfl, Keeps.map hH4 hM4 hg5 hown5 ?_ ?_ hK.ge⟩
            · have := hK.counts.plus (y := y) (hK.own.tidy keyS)
              rw [hy2, HQ.out] at this
              exact this
            · intro x hx
              rcases List.mem_append.1 hx with hx | hx
              · exact hK.fr x hx
              · obtain rfl := List.mem_singleton.1 hx
                rw [hy2, HPL.out]; exact hk40
          case measure => simp [intOf]; omega
      · obtain rfl : j = n := by omega
        repeat' (first | fail | go_values | go_skip | go_guarded | go_step | go_upon | go_back)
        go_meet
        case rel => exact ⟨v, xs, D, j, hK, by rw [HXL.out]; exact hj30, hj30⟩
  case rest =>
    obtain ⟨v, xs, D, nn, hK, hx30, hn30⟩ := hcut
    clear hK2 hH2 hB2
    go_upto_block 2 with (fail)
    go_cut [] (fun wx => ∃ (v : Value) (xs : List It) (D : DataW Unit) (nn : Nat), Keeps w1 wx w1.heap.size w2.heap.size nn v xs D ∧ xs.length ≤ 90 ∧ nn ≤ 90)
    case first =>
      go_wp2
      go_loopw [59] (fun i wr => ∃ (q : Nat) (v : Value) (xs : List It) (D : DataW Unit) (nn : Nat), q ≤ m ∧ q ≤ 60 ∧ i = .int .i64 q ∧ Bx (xs.length ≤ 30 + q) ∧ Bx (nn ≤ 30 + q) ∧ Keeps w1 wr w1.heap.size w2.heap.size nn v xs D) (fun i _ => m - (intOf i).toNat)
      case atStart => exact ⟨0, v, xs, D, nn, by omega, by omega, rfl, ⟨by omega⟩, ⟨by omega⟩, hK⟩
      case round =>
        clear hK hx30 hn30
        obtain ⟨q, v, xs, D, nn, hq, hq60, rfl, HX90, HN90, hK⟩ := hrel
        by_cases hlt : q < m
        · obtain ⟨b0, off, rfl, hcell0⟩ := u8s_at ho q (by rw [HOL.out]; exact hlt)
          have hcell := (hu1.trans hK.held.new).cell hcell0 (fun e => e)
          have hob := (os[q]'(by rw [HOL.out]; exact hlt)).isLt
          generalize (os[q]'(by rw [HOL.out]; exact hlt)).toNat = ob at *
          by_cases h60 : q = 60
          · subst h60
            have hni : (60 : Int) < (m : Int) := by omega
            repeat' (first | fail | go_values | go_skip | go_guarded | go_step | go_upon | go_back)
            go_meet
            case rel => exact ⟨v, xs, D, nn, hK, HX90.out, HN90.out⟩
          · have hq59 : q < 60 := by omega
            have hqi : (q : Int) < 60 := by omega
            rcases Nat.eq_zero_or_pos xs.length with hz | hpos
            · obtain rfl := List.eq_nil_of_length_eq_zero hz
              clear hz
              repeat' (first | (go_at_call 13; go_loud ((with_reducible refine (BagLen_e hK.held.bag 0 rfl 0 rfl).mono ?_); rintro e w3 ⟨rfl, rfl⟩; dsimp only)) | go_values | go_skip | go_guarded | go_step | go_upon | go_back)
              go_meet
              case rel => exact ⟨v, [], D, nn, hK, Nat.zero_le _, by have := HN90.out; omega⟩
            · obtain ⟨l, hl⟩ : ∃ l, xs.length = l := ⟨_, rfl⟩
              have hl90 : l ≤ 89 := by have := HX90.out; omega
              have hl1 : 1 ≤ l := by omega
              have hli : (1 : Int) ≤ (l : Int) := by omega
              have hli9 : (l : Int) < 200 := by omega
              have HXL := Bx.mk hl
              obtain ⟨k, hk⟩ : ∃ k, ob / 2 % l = k := ⟨_, rfl⟩
              have hkl : k < l := by rw [← hk]; exact Nat.mod_lt _ (by omega)
              have hki : ((ob : Int) / 2 % (l : Int)) = (k : Int) := by rw [← hk, Int.natCast_emod, Int.natCast_ediv]; rfl
              have hkxs : k < xs.length := by omega
              have hl0b : ((l : Int) == 0) = false := by rw [beq_eq_false_iff_ne]; omega
              have hob255 : (ob : Int) ≤ 255 := by omega
              obtain ⟨x, hxe⟩ : ∃ x, xs[k] = x := ⟨_, rfl⟩
              have hxk : xs[k]? = some x := by rw [List.getElem?_eq_getElem hkxs, hxe]
              have hx40 : x.fr.length ≤ 40 := hK.fr x (hxe ▸ List.getElem_mem hkxs)
              have hcp := hK.counts.pos hkxs
              have hcl := cnt_le xs xs[k].fr
              rw [hxe] at hcp hcl
              have HCM := Bx.mk (fun (D : DataW Unit) (h : Counts D xs) (hD : Tidy D) => Counts.minus hkxs h hD)
              rw [hxe] at HCM
              obtain ⟨cq, hcq⟩ : ∃ cq, cnt xs x.fr = cq := ⟨_, rfl⟩
              have hcq1 : (1 : Int) ≤ (cq : Int) := by omega
              have hcq2 : (cq : Int) ≤ 200 := by omega
              have hcq0 : ((cq : Int) == 0) = false := by rw [beq_eq_false_iff_ne]; omega
              have HCQ := Bx.mk hcq
              have hnn90 : nn ≤ 89 := by have := HN90.out; omega
              have hcnt : Bx (∀ c', D.atKey (kf x.fr) (.lit (.int .i64 0)) = .lit (.int .i64 c') → c' = cq) := ⟨fun c' h => by rw [cnt_of hK.counts h, HCQ.out]⟩
              have HXK := Bx.mk hxk
              clear hl hpos hk hxe hxk hcq hcp hcl
              rcases Nat.mod_two_eq_zero_or_one ob with ho2 | ho2
              · have ho2i : (((ob : Int) % 2) == 1) = false := by rw [beq_eq_false_iff_ne]; omega
                clear ho2
                repeat' (first | (first
                  | (go_at_call 13; go_loud ((with_reducible refine (BagLen_e hK.held.bag l HXL.out l rfl).mono ?_); rintro e w3 ⟨rfl, rfl⟩; dsimp only))
                  | (go_at_call 16; go_loud ((with_reducible refine (Take_ok hK.held.bag k hkxs (by have := HXL.out; omega) x HXK.out (by omega)).mono ?_); rintro e w4 ⟨vr, v4, rfl, hor, hB4, hW4⟩; obtain ⟨Ar, cr, rfl, _, _, hr4, _⟩ := own_rd hor; have hal : New w4 (w4.alloc (.cells #[.int .i64 x.to, .slice Ar x.fr.length cr] 36)) := (Upd.refl _ _).alloc _; obtain ⟨hH4x, hM4x⟩ := hK.bag hB4 hW4; have hH4 := hH4x.next hal; have hM4 := map_upd hM4x hal (fun e => e); have hcv := conv_str (P := Tryd.prog) (c := cr) Tryd.underlying22 Tryd.underlying5 Tryd.underlying9 (hr4.new hal) (rfl : x.fr.length = x.fr.length); obtain ⟨cc, hlk, hat, _⟩ := hM4.lookup_int keyS Tryd.underlying33 Tryd.underlying3 (zeroI _) (key_of x.fr (by omega)); obtain rfl := hcnt.out cc hat; clear hat; dsimp only))
                  | (at_mapUpdate; refine wpList_mapUpdate_own _ rfl _ _ _ 33 rfl 9 3 keyS Tryd.underlying33 _ w2.heap.size nn D rfl hM4 (by unfold maxLen; omega) _ _ _ rfl rfl (key_of x.fr (by omega)) _ [] (plainElem_int Tryd.underlying3 (WalkArith.wf_i64 (by omega))) ?_; intro w5 hown5 hg5)) | go_values | go_skip | go_guarded | go_step | go_upon | go_back)
                go_roundw
                case rel =>
                  have hc := HCM.out D hK.counts (hK.own.tidy keyS)
                  rw [HCQ.out] at hc
                  have hlen : (xs.take k ++ xs.drop (k + 1)).length = l - 1 := by rw [List.length_append, List.length_take, List.length_drop, HXL.out]; omega
                  exact ⟨q + 1, v4, _, _, nn + 1, by omega, by omega, by go_num, ⟨by rw [hlen]; have := HX90.out; have := HXL.out; omega⟩, ⟨by have := HN90.out; omega⟩, Keeps.map hH4 hM4 hg5 hown5 hc (fun y hy => hK.fr y ((List.mem_append.1 hy).elim (List.mem_of_mem_take ·) (List.mem_of_mem_drop ·))) hK.ge⟩
                case measure => simp [intOf]; omega
              · have ho2i : (((ob : Int) % 2) == 1) = true := by rw [beq_iff_eq]; omega
                clear ho2
                have hx200 : xs.length < 200 := by have := HXL.out; omega
                repeat' (first | (first
                  | (go_at_call 13; go_loud ((with_reducible refine (BagLen_e hK.held.bag l HXL.out l rfl).mono ?_); rintro e w3 ⟨rfl, rfl⟩; dsimp only))
                  | (have _m := hPN; (go_at_call 15; go_loud ((with_reducible refine (Copy_ok (hK.next hPN).held.bag hx200 (by decide) k hkxs x HXK.out (by omega)).mono ?_); rintro e w5 ⟨rfl, v5, y, hy1, hy2, -, hB5, hW5⟩; obtain ⟨hH5, hM5⟩ := (hK.next hPN).bag hB5 hW5; obtain ⟨hbx5, hr5⟩ := peeked (hK.next hPN).held.bag hbx (fun z hz e => by have := own_lt (hK.next hu4).held.bag.row z hz; omega) hrP hW5; obtain ⟨-, hc5⟩ := out_cells hbx5; have hcv := conv_str (P := Tryd.prog) (c := cp) Tryd.underlying22 Tryd.underlying5 Tryd.underlying9 hr5 (rfl : x.fr.length = x.fr.length); dsimp only)))
                  | (go_at_call 14; go_loud ((with_reducible refine (Peek_ok hK.held.bag k hkxs (by omega) x HXK.out (by omega)).mono ?_); rintro e w4 ⟨vp, rfl, hop, hu4⟩; obtain ⟨Ap, cp, rfl, _⟩ := own_rd hop; have hal : New w4 (w4.alloc (.cells #[.int .i64 x.to, .slice Ap x.fr.length cp] 36)) := (Upd.refl _ _).alloc _; have hPN := hu4.trans hal; have hbx := box_new w4 (.int .i64 x.to) (.slice Ap x.fr.length cp); have hrP := own_new hop hal; dsimp only))
                  | (at_lookup; refine wpList_lookup_own_int _ rfl _ _ 33 rfl 9 3 .i64 keyS Tryd.underlying33 Tryd.underlying3 (zeroI _) w2.heap.size nn D rfl hM5 _ _ rfl (key_of x.fr (by omega)) ?_; intro cc hat hwc; obtain rfl := hcnt.out cc hat; clear hat hwc)
                  | (at_mapUpdate; refine wpList_mapUpdate_own _ rfl _ _ _ 33 rfl 9 3 keyS Tryd.underlying33 _ w2.heap.size nn D rfl hM5 (by unfold maxLen; omega) _ _ _ rfl rfl (key_of x.fr (by omega)) _ [] (plainElem_int Tryd.underlying3 (WalkArith.wf_i64 (by omega))) ?_; intro w6 hown6 hg6)) | go_values | go_skip | go_guarded | go_step | go_upon | go_back)
                go_roundw
                case rel =>
                  have hc := hK.counts.plus (y := y) (hK.own.tidy keyS)
                  rw [hy2, HCQ.out] at hc
                  exact ⟨q + 1, v5, xs ++ [y], _, nn + 1, by omega, by omega, by go_num, ⟨by rw [List.length_append, HXL.out]; have := HX90.out; have := HXL.out; simp only [List.length_cons, List.length_nil]; omega⟩, ⟨by have := HN90.out; omega⟩, Keeps.map hH5 hM5 hg6 hown6 hc (fun z hz => (List.mem_append.1 hz).elim (hK.fr z) (fun h => by rw [List.mem_singleton.1 h, hy2]; exact hx40)) hK.ge⟩
                case measure => simp [intOf]; omega
        · obtain rfl : q = m := by omega
          repeat' (first | fail | go_values | go_skip | go_guarded | go_step | go_upon | go_back)
          go_meet
          case rel => exact ⟨v, xs, D, nn, hK, by have := HX90.out; omega, by have := HN90.out; omega⟩
    case rest =>
      clear hK hx30 hn30
      obtain ⟨v, xs, D, nn, hK, hx30, hn30⟩ := hcut
      obtain ⟨es, hDe, hp, hk⟩ := hK.own.entries keyS
      have HD := Bx.mk hDe
      have HST := Bx.mk (leftSum_step · es hp)
      have HS0 := Bx.mk (leftSum_all es hk)
      have HTT := Bx.mk (show total D = xs.length from hK.counts.sum)
      have HTE := Bx.mk (show total D = sumOf es by rw [hDe]; rfl)
      clear hDe
      go_wp2_with (at_range; refine wpList_range_own _ rfl _ 33 rfl 9 3 keyS Tryd.underlying33 _ w2.heap.size nn D rfl hK.own ?_; intro w0 hrg0 hg0 hs0)
      go_frame
      go_loopw [17] (fun nv wr => ∃ (left : Lit → Bool) (cnt : Nat), nv = .int .i64 (wrap64 (total D - leftSum left es)) ∧ wr.ranges Tryd.prog 9 (plainElem Tryd.prog 3) w2.heap.size wc.heap.size nn D left cnt ∧ New wc wr) (fun _ wr => wr.rangeLeft w2.heap.size wc.heap.size)
      case atStart => exact ⟨_, _, by rw [HD.out, HS0.out]; simp [total, wrap64], hrg0, ⟨hg0.os, hg0.tape, hg0.output, hg0.size, fun k hk _ => hg0.block k hk (by simp)⟩⟩
      case round =>
        obtain ⟨left, cnt, rfl, hrg, hN⟩ := hrel
        go_wp2_with (at_next; refine wpList_next_ranges _ rfl _ rfl 9 keyS _ Value.string (Value.int .i64) invKey invElem w2.heap.size wc.heap.size nn D left cnt rfl hrg ?_ ?_)
        · intro _ hl0
          have HL0 := Bx.mk hl0
          have hE : wrap64 (total D - leftSum left es) = (xs.length : Int) := by
            rw [leftSum_none left es HL0.out, HTT.out]
            unfold wrap64; omega
          have HE := Bx.mk hE
          clear hE hl0
          rw [HE.out]
          repeat' (first | (go_at_call 13; go_loud ((with_reducible refine (BagLen_e (hK.held.next hN).bag xs.length rfl xs.length rfl).mono ?_); rintro e w3 ⟨rfl, rfl⟩; dsimp only)) | go_values | go_skip | go_guarded | go_step | go_upon | go_back)
          go_ret
          exact ⟨by simp, (hu1.trans hK.held.new).trans hN⟩
        · intro x c kl y ys w1' cnt' hkey hlk hR hat hrg1 hlt hg1 hs1 hen
          have HLS := Bx.mk (show leftSum left es = c + leftSum (fun z => left z && !z.sameKey kl) es by
            have e := HST.out left kl hlk
            have e2 := hat (.lit (.int .i64 0))
            rw [HD.out] at e2
            obtain ⟨c', ec, hy, _⟩ := plainElem_int_inv Tryd.underlying3 hR
            cases ec
            rw [e, e2, show y = _ from congrArg Prod.fst hy]; rfl)
          have hN1 : New wc w1' := hN.then (upd_grown hg1) (fun k hk => .inr (Nat.le_of_eq hk.symm))
          clear hkey hlk hR hat hg1
          go_wp2
          go_roundw
          case rel =>
            refine ⟨_, cnt', ?_, hrg1, hN1⟩
            rw [HLS.out]
            refine congrArg (Value.int .i64) ?_
            unfold wrap64; omega
          case measure => rw [hrg1.left_eq, hrg.left_eq]; exact hlt
end Go.Proofs.YtefnpkmbjabcmaaDoor
