/- The reference's Put: walked. -/
import Derived.Test.YtohflgpkimnodaaRf1
namespace Go.Proofs.Ytohflgpkimnodaa
open Go.RowKit
def insL (q : SpQ) : List SpQ → List SpQ
  | [] => [q]
  | s :: r => if q.1 < s.1 then q :: s :: r else s :: insL q r
def above (id : Nat) (L : List SpQ) : Bool := L.any fun s => decide (id < s.1)
theorem above_snoc (id : Nat) (P : List SpQ) (s : SpQ) : above id (P ++ [s]) = (above id P || decide (id < s.1)) := by simp [above]
theorem insL_done (q : SpQ) (P : List SpQ) (s : SpQ) (h : above q.1 P = true) : insL q (P ++ [s]) = insL q P ++ [s] := by
  induction P with
  | nil => cases h
  | cons p P ih =>
    rw [List.cons_append, insL, insL]
    split
    · rfl
    · rename_i hn
      have : above q.1 P = true := by
        simp only [above, List.any_cons, Bool.or_eq_true, decide_eq_true_eq] at h
        rcases h with h | h
        · exact absurd h hn
        · exact h
      rw [ih this]; rfl
theorem insL_not (q : SpQ) (P : List SpQ) (h : above q.1 P = false) : insL q P = P ++ [q] := by
  induction P with
  | nil => rfl
  | cons p P ih =>
    simp only [above, List.any_cons, Bool.or_eq_false_iff, decide_eq_false_iff_not] at h
    rw [insL, if_neg h.1, ih h.2]; rfl
theorem insL_here (q : SpQ) (P : List SpQ) (s : SpQ) (h : above q.1 P = false) (hs : q.1 < s.1) : insL q (P ++ [s]) = P ++ [q] ++ [s] := by
  induction P with
  | nil => rw [List.nil_append, insL, if_pos hs]; rfl
  | cons p P ih =>
    simp only [above, List.any_cons, Bool.or_eq_false_iff, decide_eq_false_iff_not] at h
    rw [List.cons_append, insL, if_neg h.1, ih h.2]; rfl
/-- what the loop has come to -/
def half (q : SpQ) (P : List SpQ) : List SpQ := if above q.1 P = true then insL q P else P
theorem insL_len (q : SpQ) (P : List SpQ) : (insL q P).length = P.length + 1 := by
  induction P with
  | nil => rfl
  | cons p P ih =>
    rw [insL]
    split
    · simp
    · simp only [List.length_cons, ih]
theorem half_len (q : SpQ) (P : List SpQ) : (half q P).length ≤ P.length + 1 := by
  unfold half
  split
  · rw [insL_len]; omega
  · omega
theorem half_done (q : SpQ) (L : List SpQ) (j : Nat) (h : j < L.length) (hd : above q.1 (L.take j) = true) : half q (L.take (j + 1)) = half q (L.take j) ++ [L[j]] ∧ above q.1 (L.take (j + 1)) = true := by
  rw [List.take_succ_eq_append_getElem h]
  have : above q.1 (L.take j ++ [L[j]]) = true := by rw [above_snoc, hd]; rfl
  unfold half
  rw [if_pos this, if_pos hd, insL_done q _ _ hd]
  exact ⟨rfl, this⟩
theorem half_here (q : SpQ) (L : List SpQ) (j : Nat) (h : j < L.length) (hd : above q.1 (L.take j) = false) (hs : q.1 < L[j].1) : half q (L.take (j + 1)) = half q (L.take j) ++ [q] ++ [L[j]] ∧ above q.1 (L.take (j + 1)) = true := by
  rw [List.take_succ_eq_append_getElem h]
  have : above q.1 (L.take j ++ [L[j]]) = true := by rw [above_snoc, hd]; simpa using hs
  unfold half
  rw [if_pos this, if_neg (by rw [hd]; decide), insL_here q _ _ hd hs]
  exact ⟨rfl, this⟩
theorem half_on (q : SpQ) (L : List SpQ) (j : Nat) (h : j < L.length) (hd : above q.1 (L.take j) = false) (hs : ¬ q.1 < L[j].1) : half q (L.take (j + 1)) = half q (L.take j) ++ [L[j]] ∧ above q.1 (L.take (j + 1)) = false := by
  rw [List.take_succ_eq_append_getElem h]
  have : above q.1 (L.take j ++ [L[j]]) = false := by rw [above_snoc, hd]; simpa using hs
  unfold half
  rw [if_neg (by rw [this]; decide), if_neg (by rw [hd]; decide)]
  exact ⟨rfl, this⟩
/-- the list with one at its place; the error -/
def putL (L : List SpQ) (id : Nat) (x y : Int) : List SpQ := if id = 0 then L else if inWorld x y then insL (id, x, y) (dropL L id) else L
set_option maxRecDepth 20000 in
set_option maxHeartbeats 16000000 in
theorem refPut_any (v : Value) (L : List SpQ) (n id : Nat) (x y : Int) (w : World) (hv : SpL w v L) (hn : L.length = n) (hb : n < 50000) (hid : id < 4294967296) (hok : ∀ q ∈ L, spOk q) :
    Calls Try.prog 19 #[v, .int .u32 id, .int .i32 x, .int .i32 y] w fun e w' => ∃ v', e = .returned (.tuple #[v', .int .i64 (if id = 0 then 1 else if inWorld x y then 0 else 5)]) ∧ SpL w' v' (putL L id x y) ∧ New w w' := by
  by_cases h0 : id = 0
  · subst h0
    have HV := Bx.mk hv
    obtain ⟨A, c, rfl, hc, hA, hr⟩ := hv
    clear hc hA hr
    go_enter Try.func19, Try.ntmps19
    repeat' (first | fail | go_values | go_skip | go_guarded | go_step | go_upon | go_back)
    go_returns
    exact ⟨_, rfl, HV.out, Upd.refl _ _⟩
  · have h0I : ¬ (id : Int) = 0 := by omega
    rw [if_neg h0, show putL L id x y = if inWorld x y then insL (id, x, y) (dropL L id) else L from if_neg h0]
    by_cases hw : inWorld x y
    · rw [if_pos hw, if_pos hw]
      have CD := Bx.mk (refDrop_any v L n id w hv hn (by omega) hid hok)
      obtain ⟨R, hR⟩ : ∃ R, dropL L id = R := ⟨_, rfl⟩
      have hRn : R.length < 50000 := by have := dropL_le L id; rw [hR] at this; omega
      rw [hR] at CD ⊢
      obtain ⟨E, hE⟩ : ∃ E : Int, (if R.length = n then 7 else 0) = E := ⟨_, rfl⟩
      rw [hE] at CD
      obtain ⟨A, c, rfl, _⟩ := hv
      unfold inWorld at hw
      obtain ⟨g1, g2, g3, g4⟩ := hw
      clear hn hb hok hR hE
      go_enter Try.func19, Try.ntmps19
      repeat' (first | (go_at_call 33; (with_reducible refine (CD.out).mono ?_); rintro e w1 ⟨v1, rfl, S1, U1⟩; obtain ⟨A1, c1, rfl, hc1, hA1, hr1⟩ := S1; dsimp only) | go_values | go_skip | go_guarded | go_step | go_upon | go_back)
      obtain ⟨n1, hn1⟩ : ∃ n1, R.length = n1 := ⟨_, rfl⟩
      have HN := Bx.mk hn1
      have HR1 := Bx.mk hr1
      have BU1 := Bx.mk U1
      rw [hn1] at hRn
      rw [hn1]
      clear hn1 hr1 CD
      go_loopw [12, 13, 42] (fun l dv iv wr => ∃ (j : Nat), iv = .int .i64 j ∧ j ≤ n1 ∧ dv = .bool (above id (R.take j)) ∧ Bx (wr.ownsRow w1.heap.size 40 3 l (half (id, x, y) (R.take j)).length (spots (half (id, x, y) (R.take j)))) ∧ Bx (New w1 wr)) (fun _ _ iv _ => n1 - (intOf iv).toNat)
      case atStart => exact ⟨0, rfl, Nat.zero_le _, rfl, ⟨World.ownsRow_nil _ _ _ _⟩, ⟨Upd.refl _ _⟩⟩
      case round =>
        obtain ⟨j, rfl, hj, rfl, HW, HU⟩ := hrel
        by_cases hlt : j < n1
        · have hltI : (j : Int) < (n1 : Int) := by omega
          have hjL : j < R.length := by rw [HN.out]; exact hlt
          obtain ⟨b, o, rfl, e0, e1, e2⟩ := sp_at (HR1.out.new HU.out) j hjL
          have hle : (half (id, x, y) (R.take j)).length ≤ j + 1 := by have := half_len (id, x, y) (R.take j); rw [List.length_take] at this; omega
          have B0 := box_at' wr #[.int .u32 R[j].1, .int .i32 R[j].2.1, .int .i32 R[j].2.2] 40 0 _ rfl
          have B1 := box_at' wr #[.int .u32 R[j].1, .int .i32 R[j].2.1, .int .i32 R[j].2.2] 40 1 _ rfl
          have B2 := box_at' wr #[.int .u32 R[j].1, .int .i32 R[j].2.1, .int .i32 R[j].2.2] 40 2 _ rfl
          obtain ⟨db, hdb⟩ : ∃ db, above id (R.take j) = db := ⟨_, rfl⟩
          rw [hdb]
          cases db with
          | true =>
            have HG := Bx.mk (half_done (id, x, y) R j hjL hdb)
            clear hdb
            have hox := (HW.out.alloc (.cells #[.int .u32 R[j].1, .int .i32 R[j].2.1, .int .i32 R[j].2.2] 40)).alloc (.cells #[.int .u32 R[j].1, .int .i32 R[j].2.1, .int .i32 R[j].2.2] 40)
            have hs := src_spot (wr.alloc (.cells #[.int .u32 R[j].1, .int .i32 R[j].2.1, .int .i32 R[j].2.2] 40)) R[j] (wr.heap.size + 1) (by simp)
            have hN := HU.out
            generalize R[j] = q at *
            obtain ⟨i0, x0, y0⟩ := q
            dsimp only at *
            obtain ⟨m, hm⟩ : ∃ m, (half (id, x, y) (R.take j)).length = m := ⟨_, rfl⟩
            rw [hm] at hox hle
            have HM := Bx.mk hm
            clear hm HW
            repeat' (first | (at_builtin; refine wpList_appN _ rfl _ _ 34 34 rfl _ 40 (.agg #[.int .u32 0, .int .i32 0, .int .i32 0]) 3 12 Try.underlying34 infoS rfl _ _ _ hox rfl _ _ _ hs rfl _ ((hN.alloc _).alloc _) ?c1 ?c2 ?_; (case c1 => unfold maxLen; omega); (case c2 => omega); intro v5 w5 ho5 hu5 hk5 hv5) | go_values | go_skip | go_guarded | go_step | go_upon | go_back)
            refine ⟨⟨j + 1, by go_num, by omega, by rw [HG.out.2], ⟨?_⟩, ⟨?_⟩⟩, by simp [intOf]; omega⟩
            · rw [HG.out.1, spots_append, List.length_append, HM.out]
              exact ho5
            · exact hu5
          | false =>
            by_cases hs' : id < R[j].1
            · have hsI : (id : Int) < (R[j].1 : Int) := by omega
              have HG := Bx.mk (half_here (id, x, y) R j hjL hdb hs')
              clear hdb hs'
              have hox := (HW.out.alloc (.cells #[.int .u32 R[j].1, .int .i32 R[j].2.1, .int .i32 R[j].2.2] 40)).alloc (.cells #[.int .u32 id, .int .i32 x, .int .i32 y] 40)
              have hs := src_spot (wr.alloc (.cells #[.int .u32 R[j].1, .int .i32 R[j].2.1, .int .i32 R[j].2.2] 40)) (id, x, y) (wr.heap.size + 1) (by simp)
              have hN := HU.out
              generalize R[j] = q at *
              obtain ⟨i0, x0, y0⟩ := q
              dsimp only at *
              obtain ⟨m, hm⟩ : ∃ m, (half (id, x, y) (R.take j)).length = m := ⟨_, rfl⟩
              rw [hm] at hox hle
              have HM := Bx.mk hm
              have HLT := Bx.mk (fun b hb => (HW.out.lt b hb).2)
              have BB := Bx.mk (And.intro B0 (And.intro B1 B2))
              clear hm HW
              repeat' (first | (first
                | (have _m := ho5; (at_builtin; refine wpList_appN _ rfl _ _ 34 34 rfl _ 40 (.agg #[.int .u32 0, .int .i32 0, .int .i32 0]) 3 12 Try.underlying34 infoS rfl _ _ _ hox6 rfl _ _ _ hs6 rfl _ ((hu5.alloc _)) ?c1 ?c2 ?_; (case c1 => unfold maxLen; omega); (case c2 => omega); intro v6 w6 ho6 hu6 hk6 hv6))
                | ((at_builtin; refine wpList_appN _ rfl _ _ 34 34 rfl _ 40 (.agg #[.int .u32 0, .int .i32 0, .int .i32 0]) 3 12 Try.underlying34 infoS rfl _ _ _ hox rfl _ _ _ hs rfl _ ((hN.alloc _).alloc _) ?c1 ?c2 ?_; (case c1 => unfold maxLen; omega); (case c2 => omega); intro v5 w5 ho5 hu5 hk5 hv5); have nb : ∀ b, Value.ownBlock _ = some b → b ≠ wr.heap.size := (fun b hb => by have := HLT.out b hb; omega); have A2 := (Upd.refl Nowhere (wr.alloc (.cells #[.int .u32 i0, .int .i32 x0, .int .i32 y0] 40))).alloc (.cells #[.int .u32 id, .int .i32 x, .int .i32 y] 40); have f0 := hk5.cell (A2.cell BB.out.1 (fun q => q)) (fun q => nb _ q rfl); have f1 := hk5.cell (A2.cell BB.out.2.1 (fun q => q)) (fun q => nb _ q rfl); have f2 := hk5.cell (A2.cell BB.out.2.2 (fun q => q)) (fun q => nb _ q rfl); have hox6 := ho5.alloc (.cells #[.int .u32 i0, .int .i32 x0, .int .i32 y0] 40); have hs6 := src_spot w5 (i0, x0, y0) w5.heap.size rfl)) | go_values | go_skip | go_guarded | go_step | go_upon | go_back)
              refine ⟨⟨j + 1, by go_num, by omega, by rw [HG.out.2], ⟨?_⟩, ⟨hu6⟩⟩, by simp [intOf]; omega⟩
              rw [HG.out.1, spots_append, spots_append, List.length_append, List.length_append, HM.out]
              exact ho6
            · have hsI : ¬ (id : Int) < (R[j].1 : Int) := by omega
              have HG := Bx.mk (half_on (id, x, y) R j hjL hdb hs')
              clear hdb hs'
              have hox := (HW.out.alloc (.cells #[.int .u32 R[j].1, .int .i32 R[j].2.1, .int .i32 R[j].2.2] 40)).alloc (.cells #[.int .u32 R[j].1, .int .i32 R[j].2.1, .int .i32 R[j].2.2] 40)
              have hs := src_spot (wr.alloc (.cells #[.int .u32 R[j].1, .int .i32 R[j].2.1, .int .i32 R[j].2.2] 40)) R[j] (wr.heap.size + 1) (by simp)
              have hN := HU.out
              generalize R[j] = q at *
              obtain ⟨i0, x0, y0⟩ := q
              dsimp only at *
              obtain ⟨m, hm⟩ : ∃ m, (half (id, x, y) (R.take j)).length = m := ⟨_, rfl⟩
              rw [hm] at hox hle
              have HM := Bx.mk hm
              clear hm HW
              repeat' (first | (at_builtin; refine wpList_appN _ rfl _ _ 34 34 rfl _ 40 (.agg #[.int .u32 0, .int .i32 0, .int .i32 0]) 3 12 Try.underlying34 infoS rfl _ _ _ hox rfl _ _ _ hs rfl _ ((hN.alloc _).alloc _) ?c1 ?c2 ?_; (case c1 => unfold maxLen; omega); (case c2 => omega); intro v5 w5 ho5 hu5 hk5 hv5) | go_values | go_skip | go_guarded | go_step | go_upon | go_back)
              refine ⟨⟨j + 1, by go_num, by omega, by rw [HG.out.2], ⟨?_⟩, ⟨?_⟩⟩, by simp [intOf]; omega⟩
              · rw [HG.out.1, spots_append, List.length_append, HM.out]
                exact ho5
              · exact hu5
        · have hltI : ¬ (j : Int) < (n1 : Int) := by omega
          obtain rfl : j = n1 := by omega
          have HT : R.take j = R := List.take_of_length_le (by rw [HN.out]; exact Nat.le_refl _)
          rw [HT] at HW ⊢
          have hN := HU.out
          obtain ⟨db, hdb⟩ : ∃ db, above id R = db := ⟨_, rfl⟩
          rw [hdb]
          cases db with
          | true =>
            have HF := Bx.mk (show half (id, x, y) R = insL (id, x, y) R from if_pos hdb)
            rw [HF.out] at HW
            clear hdb HT
            obtain ⟨HS, _⟩ := own_SpL HW.out
            have BS := Bx.mk HS
            obtain ⟨A2, c2, rfl, _⟩ := HS
            repeat' (first | fail | go_values | go_skip | go_guarded | go_step | go_upon | go_back)
            go_returns
            exact ⟨_, rfl, BS.out, BU1.out.trans hN⟩
          | false =>
            have HF := Bx.mk (show half (id, x, y) R = R from if_neg (by rw [show above (id, x, y).1 R = false from hdb]; decide))
            have HI := Bx.mk (insL_not (id, x, y) R hdb)
            rw [HF.out] at HW
            clear hdb HT
            have hox := HW.out.alloc (.cells #[.int .u32 id, .int .i32 x, .int .i32 y] 40)
            have hs := src_spot wr (id, x, y) wr.heap.size rfl
            rw [HN.out] at hox
            clear HW
            repeat' (first | (at_builtin; refine wpList_appN _ rfl _ _ 34 34 rfl _ 40 (.agg #[.int .u32 0, .int .i32 0, .int .i32 0]) 3 12 Try.underlying34 infoS rfl _ _ _ hox rfl _ _ _ hs rfl _ (hN.alloc _) ?c1 ?c2 ?_; (case c1 => unfold maxLen; omega); (case c2 => omega); intro v5 w5 ho5 hu5 hk5 hv5) | go_values | go_skip | go_guarded | go_step | go_upon | go_back)
            have ho6 : w5.ownsRow w1.heap.size 40 3 v5 (j + 1) (spots (insL (id, x, y) R)) := by rw [HI.out, spots_append]; exact ho5
            obtain ⟨HS, _⟩ := own_SpL ho6
            have BS := Bx.mk HS
            obtain ⟨A2, c2, rfl, _⟩ := HS
            repeat' (first | fail | go_values | go_skip | go_guarded | go_step | go_upon | go_back)
            go_returns
            exact ⟨_, rfl, BS.out, BU1.out.trans hu5⟩
    · rw [if_neg hw, if_neg hw]
      have HV := Bx.mk hv
      obtain ⟨A, c, rfl, hc, hA, hr⟩ := hv
      clear hc hA hr
      unfold inWorld at hw
      by_cases g1 : x < -524288
      · go_enter Try.func19, Try.ntmps19
        repeat' (first | fail | go_values | go_skip | go_guarded | go_step | go_upon | go_back)
        go_returns
        exact ⟨_, rfl, HV.out, Upd.refl _ _⟩
      · by_cases g2 : 524287 < x
        · go_enter Try.func19, Try.ntmps19
          repeat' (first | fail | go_values | go_skip | go_guarded | go_step | go_upon | go_back)
          go_returns
          exact ⟨_, rfl, HV.out, Upd.refl _ _⟩
        · by_cases g3 : y < -524288
          · go_enter Try.func19, Try.ntmps19
            repeat' (first | fail | go_values | go_skip | go_guarded | go_step | go_upon | go_back)
            go_returns
            exact ⟨_, rfl, HV.out, Upd.refl _ _⟩
          · have g4 : 524287 < y := by omega
            go_enter Try.func19, Try.ntmps19
            repeat' (first | fail | go_values | go_skip | go_guarded | go_step | go_upon | go_back)
            go_returns
            exact ⟨_, rfl, HV.out, Upd.refl _ _⟩
end Go.Proofs.Ytohflgpkimnodaa
