/- Put: walked. -/
import Derived.Test.YtohflgpkimnodaaGr4
import Derived.Test.YtohflgpkimnodaaSc3
import Derived.Deep.DeepCutAuto
import Derived.Deep.CutBlock
import Derived.Deep.RegionLaw
namespace Go.Proofs.Ytohflgpkimnodaa
open Go.RowKit Go.Maps
theorem nodup_le {α : Type} : ∀ (l1 l2 : List α), l1.Nodup → (∀ x ∈ l1, x ∈ l2) → l1.length ≤ l2.length := by
  classical
  intro l1
  induction l1 with
  | nil => intro l2 _ _; simp
  | cons a l ih =>
    intro l2 hn hs
    have ha := hs a (List.mem_cons_self ..)
    have hn2 := List.nodup_cons.1 hn
    have := ih (l2.erase a) hn2.2 (fun x hx => (List.mem_erase_of_ne (fun e => hn2.1 (by rw [← e]; exact hx))).2 (hs x (List.mem_cons_of_mem _ hx)))
    rw [List.length_erase_of_mem ha] at this
    have := List.length_pos_of_mem ha
    simp only [List.length_cons]
    omega
theorem size_le {P : Program} {k : TypeId} {R : Value → Option (DataW Unit × List MemPlace)} {w : World} {b n : Nat} {D : DataW Unit} (K : Keyed P k) (h : w.ownsMap P k R b n D) (L : List Lit) (hh : ∀ l, has D l = true → l ∈ L) : Maps.size D ≤ L.length := by
  obtain ⟨es, rfl, hp, hk⟩ := h.entries K
  have := nodup_le (es.map fun p => p.1) L (List.pairwise_map.2 hp) (fun x hx => by
    obtain ⟨p, hp', rfl⟩ := List.mem_map.1 hx
    exact hh _ (by rw [has_eq, List.any_eq_true]; exact ⟨p, hp', WideAt.sameKey_self (hk p hp')⟩))
  simpa [Maps.size] using this
/-- not many are somewhere -/
def Few (M : Nat → Option (Int × Int)) (K : Nat) : Prop := ∃ L : List Nat, L.length ≤ K ∧ ∀ i s, M i = some s → i ∈ L
theorem Few.none {M : Nat → Option (Int × Int)} {K : Nat} (h : Few M K) (i : Nat) : Few (mset M i none) K := by
  obtain ⟨L, h1, h2⟩ := h
  exact ⟨L, h1, fun j s hj => h2 j s (mset_none.1 hj).2⟩
section
variable {n0 : Nat} {w : World} {g cb hb : Nat} {DC DH : DataW Unit} {B : Int × Int → Nat} {M : Nat → Option (Int × Int)} {K : Nat}
theorem GA.fewH (h : GA n0 w g cb hb DC DH B M) (f : Few M K) : Maps.size DH ≤ K := by
  obtain ⟨L, h1, h2⟩ := f
  have := size_le idLaw h.home (L.map idKey) (fun l hl => by
    obtain ⟨i, s, hi, rfl⟩ := (h.hhas l).1 hl
    exact List.mem_map_of_mem (h2 i s hi))
  rw [List.length_map] at this; omega
theorem GA.fewC (h : GA n0 w g cb hb DC DH B M) (f : Few M K) : Maps.size DC ≤ K := by
  obtain ⟨L, h1, h2⟩ := f
  have := size_le spotLaw h.cells (L.map fun i => spotKey ((M i).getD (0, 0))) (fun l hl => by
    obtain ⟨i, s, hi, rfl⟩ := (h.chas l).1 hl
    exact List.mem_map.2 ⟨i, h2 i s hi, by rw [hi]; rfl⟩)
  rw [List.length_map] at this; omega
theorem few_set {b n : Nat} {D : DataW Unit} {s : Int × Int} (h : w.ownsMap Try.prog 38 unitElem b n D) (hD : ∀ l, has D l = true ↔ ∃ j, M j = some s ∧ l = idKey j) (f : Few M K) : Maps.size D ≤ K := by
  obtain ⟨L, h1, h2⟩ := f
  have := size_le idLaw h (L.map idKey) (fun l hl => by
    obtain ⟨i, hi, rfl⟩ := (hD l).1 hl
    exact List.mem_map_of_mem (h2 i s hi))
  rw [List.length_map] at this; omega
end
/-- may an entity be there? -/
def inWorld (x y : Int) : Prop := -524288 ≤ x ∧ x ≤ 524287 ∧ -524288 ≤ y ∧ y ≤ 524287
instance (x y : Int) : Decidable (inWorld x y) := by unfold inWorld; infer_instance
theorem chk_pos (x y : Int) : chk 0 [x, y, 0] = if inWorld x y then 0 else 5 := by
  by_cases h : inWorld x y
  · rw [if_pos h]
    unfold inWorld at h
    simp [chk, flds, outOf]
    omega
  · rw [if_neg h]
    unfold inWorld at h
    simp [chk, flds, outOf]
    omega
theorem Check_pos (x y : Int) (w : World) : Calls Try.prog 31 #[.agg #[.int .u8 0, .int .i32 x, .int .i32 y, .int .i32 0]] w fun e w' => e = .returned (.int .i64 (if inWorld x y then 0 else 5)) ∧ New w w' := by
  have := Check_any 0 x y 0 w (by omega)
  rw [chk_pos] at this
  exact this
set_option maxRecDepth 20000 in
set_option maxHeartbeats 8000000 in
theorem put_any {n0 : Nat} {w : World} {g cb hb : Nat} {DC DH : DataW Unit} {B : Int × Int → Nat} {M : Nat → Option (Int × Int)} {K : Nat} (h : GA n0 w g cb hb DC DH B M) (hf : Few M K) (hK : K < 1000000) (i : Nat) (hi : i < 4294967296) (x y : Int) (hx : -2147483648 ≤ x ∧ x ≤ 2147483647) (hy : -2147483648 ≤ y ∧ y ≤ 2147483647) :
    Calls Try.prog 18 #[.pointer (some ⟨g, 0, none⟩), .int .u32 i, .int .i32 x, .int .i32 y] w fun e w' =>
      e = .returned (.int .i64 (if i = 0 then 1 else if inWorld x y then 0 else 5)) ∧ GUpd n0 w w' ∧ ∃ DC' DH' B', GA n0 w' g cb hb DC' DH' B' (if i ≠ 0 ∧ inWorld x y then mset M i (some (cell x, cell y)) else M) := by
  by_cases h0 : i = 0
  · subst h0
    have H0 := Bx.mk h
    clear h
    go_enter Try.func18, Try.ntmps18
    repeat' (first | fail | go_values | go_skip | go_guarded | go_step | go_upon | go_back)
    go_returns
    exact ⟨rfl, Upd.refl _ _, DC, DH, B, by simpa using H0.out⟩
  · have h0I : ¬ (i : Int) = 0 := by omega
    have CK := Bx.mk (fun w => Check_pos x y w)
    rw [if_neg h0]
    by_cases hw : inWorld x y
    · rw [if_pos hw, if_pos ⟨h0, hw⟩]
      rw [if_pos hw] at CK
      have O1 := Bx.mk (fun w => Of_any x w hx.1 hx.2)
      have O2 := Bx.mk (fun w => Of_any y w hy.1 hy.2)
      obtain ⟨cx, hcx⟩ : ∃ cx, cell x = cx := ⟨_, rfl⟩
      obtain ⟨cy, hcy⟩ : ∃ cy, cell y = cy := ⟨_, rfl⟩
      have hin : inS (cx, cy) := by unfold cell at hcx hcy; unfold inS inI64; simp only; omega
      rw [hcx] at O1 ⊢
      rw [hcy] at O2 ⊢
      have H0 := Bx.mk h
      obtain ⟨⟨v1, v2⟩, hv⟩ : ∃ v, (M i).getD (0, 0) = v := ⟨_, rfl⟩
      obtain ⟨ok, hok⟩ : ∃ ok, (M i).isSome = ok := ⟨_, rfl⟩
      have LK := Bx.mk (fun {w' : World} (h : GA n0 w' g cb hb DC DH B M) => show (Instr.lookup 60 (.map (some hb)) (.int .u32 i) true).run Try.prog w' = .ok (.tuple #[.agg #[.int .i64 v1, .int .i64 v2], .bool ok]) w' by
        rw [← hok]
        cases hM : M i with
        | none =>
          rw [hM] at hv; cases hv
          exact look_home0 h.home hi (h.noHome hM)
        | some s =>
          rw [hM] at hv; cases hv
          exact look_home h.home hi (h.hat i _ hM))
      have HV := Bx.mk (show ok = true → M i = some (v1, v2) by rw [← hv, ← hok]; intro q; cases hM : M i with | none => rw [hM] at q; cases q | some s => rfl)
      have HV2 := Bx.mk (show ok = false → M i = none by rw [← hok]; intro q; cases hM : M i with | none => rfl | some s => rw [hM] at q; cases q)
      clear hcx hcy hv hok h
      go_enter Try.func18, Try.ntmps18
      go_upto_region 9 with (first | (go_at_call 31; (with_reducible refine (CK.out _).mono ?_); rintro e w1 ⟨rfl, U1⟩; dsimp only) | (have _m := U1; (go_at_call 28; (with_reducible refine (O1.out _).mono ?_); rintro e w2 ⟨rfl, rfl⟩; dsimp only)) | (have _m := U1; (go_at_call 28; (with_reducible refine (O2.out _).mono ?_); rintro e w3 ⟨rfl, rfl⟩; have h4 := H0.out.new (U1.alloc (.cells #[.int .i64 cx, .int .i64 cy] 68)); have k1 := h4.c1; have k2 := LK.out h4; clear h4; dsimp only)))
      obtain ⟨wb, hwb⟩ : ∃ wb, w3.alloc (.cells #[.int .i64 cx, .int .i64 cy] 68) = wb := ⟨_, rfl⟩
      obtain ⟨A1, hA1⟩ : ∃ A1, w3.heap.size = A1 := ⟨_, rfl⟩
      have X1 : wb.heap[A1]? = some (.cells #[.int .i64 cx, .int .i64 cy] 68 (0, 0)) := by rw [← hwb, ← hA1]; exact heap_alloc_new _ _
      have hsb : wb.heap.size = A1 + 1 := by rw [← hwb, ← hA1]; simp
      obtain ⟨wc, hwc⟩ : ∃ wc, wb.alloc (.cells #[.int .i64 v1, .int .i64 v2] 68) = wc := ⟨_, rfl⟩
      have X2 : wc.heap[A1 + 1]? = some (.cells #[.int .i64 v1, .int .i64 v2] 68 (0, 0)) := by rw [← hwc, ← hsb]; exact heap_alloc_new _ _
      have UC : New w wc := by rw [← hwc, ← hwb]; exact (U1.alloc _).alloc _
      have X1c : wc.heap[A1]? = some (.cells #[.int .i64 cx, .int .i64 cy] 68 (0, 0)) := by rw [← hwc]; exact (show New wb (wb.alloc _) from (Upd.refl _ _).alloc _).blk X1 (fun q => q)
      rw [hwb, hA1, hwc]
      have HA := H0.out.new UC
      have BX := Bx.mk X1c
      have BU := Bx.mk UC
      have BH := Bx.mk HA
      have y0 : wc.cell? ⟨A1, 0, none⟩ = some (.int .i64 cx) := by rw [World.cell?, X1c]; rfl
      have y1 : wc.cell? ⟨A1, 1, none⟩ = some (.int .i64 cy) := by rw [World.cell?, X1c]; rfl
      have z0 : wc.cell? ⟨A1 + 1, 0, none⟩ = some (.int .i64 v1) := by rw [World.cell?, X2]; rfl
      have z1 : wc.cell? ⟨A1 + 1, 1, none⟩ = some (.int .i64 v2) := by rw [World.cell?, X2]; rfl
      clear hwb hwc hsb X1 X2 X1c UC HA hA1 k1 k2 H0
      go_cut [44] (fun s44 wx => ∃ bb : Bool, s44 = .bool bb ∧ Bx (bb = true → M i = some (cx, cy)) ∧ Bx (bb = false → M i ≠ some (cx, cy)) ∧ wx = wc)
      case first =>
        cases ok with
        | false =>
          repeat' (first | fail | go_values | go_skip | go_guarded | go_step | go_upon | go_back)
          go_meet
          case rel => exact ⟨false, rfl, ⟨by simp⟩, ⟨fun _ => by rw [HV2.out rfl]; simp⟩, rfl⟩
        | true =>
          have hMv := HV.out rfl
          by_cases e1 : v1 = cx
          · subst e1
            by_cases e2 : v2 = cy
            · subst e2
              repeat' (first | fail | go_values | go_skip | go_guarded | go_step | go_upon | go_back)
              go_meet
              case rel => exact ⟨true, rfl, ⟨fun _ => hMv⟩, ⟨by simp⟩, rfl⟩
            · repeat' (first | fail | go_values | go_skip | go_guarded | go_step | go_upon | go_back)
              go_meet
              case rel => exact ⟨false, rfl, ⟨by simp⟩, ⟨fun _ => by rw [hMv]; simp [e2]⟩, rfl⟩
          · repeat' (first | fail | go_values | go_skip | go_guarded | go_step | go_upon | go_back)
            all_goals (go_meet; exact ⟨false, rfl, ⟨by simp⟩, ⟨fun _ => by rw [hMv]; simp [e1]⟩, rfl⟩)
      case rest =>
        obtain ⟨bb, rfl, HT, HF, rfl⟩ := hcut
        have hG := BH.out
        cases bb with
        | true =>
          have hMv := HT.out rfl
          have e : mset M i (some (cx, cy)) = M := by
            funext j
            unfold mset
            split
            · rename_i q; rw [q, hMv]
            · rfl
          repeat' (first | fail | go_values | go_skip | go_guarded | go_step | go_upon | go_back)
          go_returns
          exact ⟨rfl, GUpd.new BU.out, DC, DH, B, by rw [e]; exact BH.out⟩
        | false =>
          have CL := Bx.mk (leave_any BH.out i hi)
          go_upto_region 12 with (first | (go_at_call 32; (with_reducible refine (CL.out).mono ?_); rintro e w4 ⟨rfl, DC4, DH4, H4, U4⟩; dsimp only))
          have hn := mset_same M i none
          have hf4 := hf.none i
          obtain ⟨M4, hM4⟩ : ∃ M4, mset M i none = M4 := ⟨_, rfl⟩
          have e : mset M i (some (cx, cy)) = mset M4 i (some (cx, cy)) := by
            rw [← hM4]
            funext j
            unfold mset
            split <;> rfl
          rw [hM4] at H4 hn hf4
          have X4 := U4.blk BX.out
          have UW := Bx.mk ((GUpd.new BU.out).trans U4)
          have HE := Bx.mk e
          have BH4 := Bx.mk H4
          have BX4 := Bx.mk X4
          have hs4 := H4.fewH hf4
          have hc4 := H4.fewC hf4
          have F4 := Bx.mk (fun {b n : Nat} {D : DataW Unit} (h1 : w4.ownsMap Try.prog 38 unitElem b n D) (h2 : ∀ l, has D l = true ↔ ∃ j, M4 j = some (cx, cy) ∧ l = idKey j) => few_set h1 h2 hf4)
          clear hM4 e hf4 U4 HT HF CL BH hG BU BX LK HV HV2 CK O1 O2
          have hgrd := H4.gne
          have e0 : w4.drew.cell? ⟨g, 0, none⟩ = some (.map (some cb)) := H4.c0
          have x0 : w4.drew.cell? ⟨A1, 0, none⟩ = some (.int .i64 cx) := by show w4.cell? _ = _; rw [World.cell?, X4]; rfl
          have x1 : w4.drew.cell? ⟨A1, 1, none⟩ = some (.int .i64 cy) := by show w4.cell? _ = _; rw [World.cell?, X4]; rfl
          have DR4 : New w4 w4.drew := (Upd.refl _ w4).drew
          by_cases hk : ∃ k, M4 k = some (cx, cy)
          · obtain ⟨k, hk⟩ := hk
            obtain ⟨D0, m1, m2⟩ := H4.sets k (cx, cy) hk
            have hlD := F4.out m1 m2
            have L5 := look_set (w := w4.drew) H4.cells.drew (s := (cx, cy)) hin (H4.cat k (cx, cy) hk)
            have H5 := H4.new DR4
            have HM1 := Bx.mk (m1.drew.drew)
            have HM2 := Bx.mk m2
            have HK := Bx.mk hk
            have H45 := Bx.mk (H4.new DR4)
            have U5 := Bx.mk (UW.out.trans (GUpd.new DR4))
            have hob : w4.drew.heap[g]? = _ := H4.obj
            have X5 : w4.drew.heap[A1]? = _ := X4
            have hnsb := (H4.sne hk)
            have hbb := H4.bne k _ hk
            clear H4 m1 m2 hk DR4 UW BH4 BX4 F4 hgrd y0 y1 z0 z1 X4
            go_still_tail 6, (by kernel_rfl)
            change wpList _ _ _ _ _ w4.drew
            generalize w4.drew = w5 at *
            have Q5 := eql_some (B (cx, cy)) w5
            repeat' (first | fail | go_values | go_skip | go_guarded | go_step | go_upon | go_back)
            have f0 : w5.drew.cell? ⟨g, 0, none⟩ = some (.map (some cb)) := e0
            have f1 : w5.drew.cell? ⟨A1, 0, none⟩ = some (.int .i64 cx) := x0
            have f2 : w5.drew.cell? ⟨A1, 1, none⟩ = some (.int .i64 cy) := x1
            have L6 : (Instr.lookup 59 (.map (some cb)) (.agg #[.int .i64 cx, .int .i64 cy]) false).run Try.prog w5.drew = .ok (.map (some (B (cx, cy)))) w5.drew := look_set (w := w5.drew) (H5.cells.drew) (s := (cx, cy)) hin (H5.cat k (cx, cy) HK.out)
            clear L5 Q5
            have HM3 := HM1.out
            go_still_tail 8, (by kernel_rfl)
            change wpList _ _ _ _ _ w5.drew
            repeat' (first | (at_mapUpdate; refine wpList_mapUpdate_in _ rfl _ _ _ 72 rfl 38 73 idLaw Try.underlying72 unitElem (B (cx, cy)) _ D0 rfl HM3 (by unfold maxLen; omega) _ _ _ rfl rfl (keyId hi) unitD [] unitElem_mk ?_; intro w6 o6 t6) | go_values | go_skip | go_guarded | go_step | go_upon | go_back)
            have u6 : Upd (fun x => x = B (cx, cy)) w5 w6 := ((Upd.refl _ w5).drew).trans (turned_upd t6)
            have hob6 : w6.heap[g]? = some (.cells #[.map (some cb), .map (some hb)] 62 (0, 0)) := u6.blk H5.obj hnsb
            have X6 : w6.heap[A1]? = some (.cells #[.int .i64 cx, .int .i64 cy] 68 (0, 0)) := by
              refine u6.blk X5 (fun q => ?_)
              obtain ⟨e, c, z⟩ := ownsMap_obj HM1.out
              rw [← q] at z
              have z2 := z.symm.trans X5
              cases z2
            have hh6 := ownsMap_upd H5.home u6 hbb.2.symm
            clear L6 f0 f1 f2 e0 x0 x1 H5 X5 hob
            have g1 : w6.drew.cell? ⟨g, 1, none⟩ = some (.map (some hb)) := by show w6.cell? _ = _; rw [World.cell?, hob6]; rfl
            have g2 : w6.drew.cell? ⟨A1, 0, none⟩ = some (.int .i64 cx) := by show w6.cell? _ = _; rw [World.cell?, X6]; rfl
            have g3 : w6.drew.cell? ⟨A1, 1, none⟩ = some (.int .i64 cy) := by show w6.cell? _ = _; rw [World.cell?, X6]; rfl
            have hh7 := hh6.drew
            go_still_tail 6, (by kernel_rfl)
            change wpList _ _ _ _ _ w6.drew
            repeat' (first | (at_mapUpdate; refine wpList_mapUpdate_in _ rfl _ _ _ 60 rfl 38 68 idLaw Try.underlying60 spotElem hb _ DH4 rfl hh7 (by unfold maxLen; omega) _ _ _ rfl rfl (keyId hi) (spotD (cx, cy)) [] rfl ?_; intro w7 o7 t7) | go_values | go_skip | go_guarded | go_step | go_upon | go_back)
            have u7 : Upd (fun x => x = hb) w6 w7 := ((Upd.refl _ w6).drew).trans (turned_upd t7)
            go_returns
            obtain ⟨z1, z2⟩ := H45.out.come1 hn hi HK.out HM2.out (ownsMap_tight HM1.out).isMap o6 u6 o7 u7
            rw [HE.out]
            exact ⟨rfl, U5.out.trans z2, _, _, _, z1⟩
          · have hk2 : ∀ k, M4 k ≠ some (cx, cy) := fun k q => hk ⟨k, q⟩
            have L5 := look_set0 (w := w4.drew) H4.cells.drew (s := (cx, cy)) hin (H4.noCell hin hk2)
            have H5 := H4.new DR4
            have HK := Bx.mk hk2
            have H45 := Bx.mk (H4.new DR4)
            have U5 := Bx.mk (UW.out.trans (GUpd.new DR4))
            have X5 : w4.drew.heap[A1]? = some (.cells #[.int .i64 cx, .int .i64 cy] 68 (0, 0)) := X4
            clear H4 hk hk2 DR4 UW BH4 BX4 F4 y0 y1 z0 z1 X4
            go_still_tail 6, (by kernel_rfl)
            change wpList _ _ _ _ _ w4.drew
            generalize w4.drew = w5 at *
            have Q5 := eql_none w5
            repeat' (first | fail | go_values | go_skip | go_guarded | go_step | go_upon | go_back)
            have f0 : w5.drew.cell? ⟨g, 0, none⟩ = some (.map (some cb)) := e0
            have f1 : w5.drew.cell? ⟨A1, 0, none⟩ = some (.int .i64 cx) := x0
            have f2 : w5.drew.cell? ⟨A1, 1, none⟩ = some (.int .i64 cy) := x1
            have AM : New w5 (w5.alloc (.map #[] 0)) := (Upd.refl _ w5).alloc _
            have q0 : (w5.alloc (.map #[] 0)).cell? ⟨g, 0, none⟩ = some (.map (some cb)) := AM.cell e0 (fun q => q)
            have q1 : (w5.alloc (.map #[] 0)).cell? ⟨A1, 0, none⟩ = some (.int .i64 cx) := AM.cell x0 (fun q => q)
            have q2 : (w5.alloc (.map #[] 0)).cell? ⟨A1, 1, none⟩ = some (.int .i64 cy) := AM.cell x1 (fun q => q)
            have hc6 : (w5.alloc (.map #[] 0)).drew.ownsMap Try.prog 68 setElem cb (Maps.size DC4) DC4 := H5.cells.alloc _
            have hmm := @run_makeMap Try.prog
            obtain ⟨w55, hrun, o55, t55⟩ : ∃ w', (Instr.mapUpdate 59 (.map (some cb)) (.agg #[.int .i64 cx, .int .i64 cy]) (.map (some w5.heap.size))).run Try.prog (w5.alloc (.map #[] 0)).drew = .ok () w' ∧ w'.ownsMap Try.prog 68 setElem cb (Maps.size DC4 + 1) (DC4.put (spotKey (cx, cy)) (.lit (.int .u64 w5.heap.size))) ∧ (w5.alloc (.map #[] 0)).drew.mapTurned w' cb :=
              hc6.store spotLaw Try.underlying59 (by unfold maxLen; omega) (keySpot hin) (d := .lit (.int .u64 w5.heap.size)) (ps := []) rfl
            go_region_law (fail)
            all_goals
              have hcl := H45.out.cells.lt
              have hhl := H45.out.home.lt
              have hgl : g < w5.heap.size := (Array.getElem?_eq_some_iff.1 H45.out.obj).1
              have hal : A1 < w5.heap.size := (Array.getElem?_eq_some_iff.1 X5).1
              have u55 : Upd (fun x => x = cb) w5 w55 := ((New.upd AM).drew).trans (turned_upd t55)
              have hob55 : w55.heap[g]? = some (.cells #[.map (some cb), .map (some hb)] 62 (0, 0)) := u55.blk H45.out.obj H45.out.gne.1
              have X55 : w55.heap[A1]? = some (.cells #[.int .i64 cx, .int .i64 cy] 68 (0, 0)) := by
                refine u55.blk X5 (fun q => ?_)
                obtain ⟨e, c, z⟩ := ownsMap_obj H45.out.cells
                rw [← q] at z
                have z2 := z.symm.trans X5
                cases z2
              have hh55 := ownsMap_upd H45.out.home u55 H45.out.ne.symm
              have hm55 : w55.ownsMap Try.prog 38 unitElem w5.heap.size 0 (.map []) := ownsMap_upd (w := (w5.alloc (.map #[] 0)).drew) (World.ownsMap_made w5 Try.prog 38 unitElem).drew (turned_upd t55) (by omega)
              have f0 : w55.drew.cell? ⟨g, 0, none⟩ = some (.map (some cb)) := by show w55.cell? _ = _; rw [World.cell?, hob55]; rfl
              have f1 : w55.drew.cell? ⟨A1, 0, none⟩ = some (.int .i64 cx) := by show w55.cell? _ = _; rw [World.cell?, X55]; rfl
              have f2 : w55.drew.cell? ⟨A1, 1, none⟩ = some (.int .i64 cy) := by show w55.cell? _ = _; rw [World.cell?, X55]; rfl
              have L6 : (Instr.lookup 59 (.map (some cb)) (.agg #[.int .i64 cx, .int .i64 cy]) false).run Try.prog w55.drew = .ok (.map (some w5.heap.size)) w55.drew := look_set (w := w55.drew) o55.drew (s := (cx, cy)) hin (fun z => atKey_put_same H45.out.cells.isMap (spotLit hin) _ z)
              have hm56 := hm55.drew
              obtain ⟨nb, hnb⟩ : ∃ nb, w5.heap.size = nb := ⟨_, rfl⟩
              have HNB := Bx.mk hnb
              clear hrun t55 q0 q1 q2 hc6 hmm AM e0 x0 x1 H5 X5 L5 Q5
              rw [hnb] at L6 hm55 hm56 hcl hhl hgl hal o55
              clear hnb
              rw [HNB.out]
              repeat' (first | fail | go_values | go_skip | go_guarded | go_step | go_upon | go_back)
              go_still_tail 8, (by kernel_rfl)
              change wpList _ _ _ _ _ w55.drew
              repeat' (first | (at_mapUpdate; refine wpList_mapUpdate_in _ rfl _ _ _ 72 rfl 38 73 idLaw Try.underlying72 unitElem nb 0 (.map []) rfl hm56 (by unfold maxLen; omega) _ _ _ rfl rfl (keyId hi) unitD [] unitElem_mk ?_; intro w6 o6 t6) | go_values | go_skip | go_guarded | go_step | go_upon | go_back)
              have u6 : Upd (fun x => x = nb) w55 w6 := ((Upd.refl _ w55).drew).trans (turned_upd t6)
              have hob6 : w6.heap[g]? = some (.cells #[.map (some cb), .map (some hb)] 62 (0, 0)) := u6.blk hob55 (by omega)
              have X6 : w6.heap[A1]? = some (.cells #[.int .i64 cx, .int .i64 cy] 68 (0, 0)) := u6.blk X55 (by omega)
              have hh6 := ownsMap_upd hh55 u6 (by omega)
              clear L6 f0 f1 f2 hm56
              have g1 : w6.drew.cell? ⟨g, 1, none⟩ = some (.map (some hb)) := by show w6.cell? _ = _; rw [World.cell?, hob6]; rfl
              have g2 : w6.drew.cell? ⟨A1, 0, none⟩ = some (.int .i64 cx) := by show w6.cell? _ = _; rw [World.cell?, X6]; rfl
              have g3 : w6.drew.cell? ⟨A1, 1, none⟩ = some (.int .i64 cy) := by show w6.cell? _ = _; rw [World.cell?, X6]; rfl
              have hh7 := hh6.drew
              go_still_tail 6, (by kernel_rfl)
              change wpList _ _ _ _ _ w6.drew
              repeat' (first | (at_mapUpdate; refine wpList_mapUpdate_in _ rfl _ _ _ 60 rfl 38 68 idLaw Try.underlying60 spotElem hb _ DH4 rfl hh7 (by unfold maxLen; omega) _ _ _ rfl rfl (keyId hi) (spotD (cx, cy)) [] rfl ?_; intro w7 o7 t7) | go_values | go_skip | go_guarded | go_step | go_upon | go_back)
              have u7 : Upd (fun x => x = hb) w6 w7 := ((Upd.refl _ w6).drew).trans (turned_upd t7)
              go_returns
              obtain ⟨z1, z2⟩ := H45.out.come2 hn hi hin HK.out (nb := nb) (by rw [HNB.out]; exact Nat.le_refl _) o55 u55 o6 u6 o7 u7
              rw [HE.out]
              exact ⟨rfl, U5.out.trans z2, _, _, _, z1⟩
    · rw [if_neg hw, if_neg (fun q => hw q.2)]
      rw [if_neg hw] at CK
      have H0 := Bx.mk h
      clear h
      go_enter Try.func18, Try.ntmps18
      repeat' (first | (go_at_call 31; (with_reducible refine (CK.out _).mono ?_); rintro e w1 ⟨rfl, U1⟩; dsimp only) | go_values | go_skip | go_guarded | go_step | go_upon | go_back)
      go_returns
      exact ⟨rfl, GUpd.new U1, DC, DH, B, H0.out.new U1⟩
end Go.Proofs.Ytohflgpkimnodaa
