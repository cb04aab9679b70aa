/- The reference's list of who is where: Drop, Put: walked. -/
import Derived.Test.YtohflgpkimnodaaCa1
import Derived.Test.YtohflgpkimnodaaSlRow
namespace Go.Proofs.Ytohflgpkimnodaa
open Go.RowKit
abbrev SpQ := Nat × Int × Int
def spC (q : SpQ) : List Value := [.int .u32 q.1, .int .i32 q.2.1, .int .i32 q.2.2]
def spots (L : List SpQ) : List Value := L.flatMap spC
theorem spots_length (L : List SpQ) : (spots L).length = L.length * 3 := flat_length spC 3 (fun _ => rfl) L
theorem spots_append (a b : List SpQ) : spots (a ++ b) = spots a ++ spots b := by simp [spots]
theorem spots_one (q : SpQ) : spots [q] = [.int .u32 q.1, .int .i32 q.2.1, .int .i32 q.2.2] := rfl
theorem spots_cells (L : List SpQ) : ∀ u ∈ spots L, u.oneCell' = true := by
  intro u hu
  simp only [spots, List.mem_flatMap] at hu
  obtain ⟨q, _, hq⟩ := hu
  simp only [spC, List.mem_cons, List.not_mem_nil, or_false] at hq
  rcases hq with rfl | rfl | rfl <;> rfl
def spOk (q : SpQ) : Prop := q.1 < 4294967296 ∧ (-2147483648 ≤ q.2.1 ∧ q.2.1 ≤ 2147483647) ∧ (-2147483648 ≤ q.2.2 ∧ q.2.2 ≤ 2147483647)
theorem sp_at {w : World} {A : Option Addr} {L : List SpQ} (h : Rd w A (spots L)) (i : Nat) (hi : i < L.length) :
    ∃ b off, A = some ⟨b, off, none⟩ ∧ w.cell? ⟨b, off + i * 3, none⟩ = some (.int .u32 L[i].1) ∧ w.cell? ⟨b, off + i * 3 + 1, none⟩ = some (.int .i32 L[i].2.1) ∧ w.cell? ⟨b, off + i * 3 + 2, none⟩ = some (.int .i32 L[i].2.2) := by
  obtain ⟨b, off, e, hc⟩ := Rd.elem spC 3 (by decide) (fun _ => rfl) h i hi
  exact ⟨b, off, e, hc 0 _ rfl, hc 1 _ rfl, hc 2 _ rfl⟩
theorem infoS : (Try.prog.info? 40).map (fun i => (i.zero, i.size, i.bytes)) = some (some (.agg #[.int .u32 0, .int .i32 0, .int .i32 0]), 3, 12) := by kernel_rfl
theorem box_at' (w : World) (cs : Array Value) (t : TypeId) (k : Nat) (u : Value) (h : cs[k]? = some u) : (w.alloc (.cells cs t)).cell? ⟨w.heap.size, k, none⟩ = some u := by
  rw [World.cell?, heap_alloc_new]
  simpa using h
/-- one more at the end: what the append wants -/
theorem src_spot (w : World) (q : SpQ) (b : Nat) (hb : w.heap.size = b) : Src Try.prog 3 34 (.slice (some ⟨b, 0, none⟩) 1 1) 1 (spots [q]) (w.alloc (.cells #[.int .u32 q.1, .int .i32 q.2.1, .int .i32 q.2.2] 40)) := by
  subst hb
  exact (rd_new w (spots [q]) 40).src Try.underlying34 (fun h => by cases h) rfl (spots_cells _)
/-- a list of spots that is read -/
def SpL (w : World) (v : Value) (L : List SpQ) : Prop := ∃ A c, v = .slice A L.length c ∧ L.length ≤ c ∧ (A = none → L.length = 0) ∧ Rd w A (spots L)
theorem own_SpL {w : World} {base n : Nat} {v : Value} {L : List SpQ} (h : w.ownsRow base 40 3 v n (spots L)) : SpL w v L ∧ n = L.length := by
  have hl := own_len h
  rw [spots_length] at hl
  have hn : n = L.length := by omega
  subst hn
  obtain ⟨A, c, rfl, h1, h2, h3, _⟩ := own_rd h
  exact ⟨⟨A, c, rfl, h1, fun q => by
    rcases h.2 with ⟨_, h0⟩ | ⟨g, cap, cur, e, _⟩
    · exact h0
    · rw [q] at e; simp at e, h3⟩, rfl⟩
def dropL (L : List SpQ) (id : Nat) : List SpQ := L.filter fun q => decide (q.1 ≠ id)
theorem dropL_le (L : List SpQ) (id : Nat) : (dropL L id).length ≤ L.length := List.length_filter_le _ _
theorem dropL_same {L : List SpQ} {id : Nat} (h : (dropL L id).length = L.length) : dropL L id = L := List.filter_eq_self.2 (List.length_filter_eq_length_iff.1 h)
theorem dropL_take_go (L : List SpQ) (id j : Nat) (h : j < L.length) (hne : L[j].1 ≠ id) : dropL (L.take (j + 1)) id = dropL (L.take j) id ++ [L[j]] := by
  rw [List.take_succ_eq_append_getElem h]
  unfold dropL
  rw [List.filter_append]
  simp [hne]
theorem dropL_take_skip (L : List SpQ) (id j : Nat) (h : j < L.length) (he : L[j].1 = id) : dropL (L.take (j + 1)) id = dropL (L.take j) id := by
  rw [List.take_succ_eq_append_getElem h]
  unfold dropL
  rw [List.filter_append]
  simp [he]
set_option maxRecDepth 20000 in
set_option maxHeartbeats 8000000 in
theorem refDrop_any (v : Value) (L : List SpQ) (n id : Nat) (w : World) (hv : SpL w v L) (hn : L.length = n) (hb : n < 100000) (hid : id < 4294967296) (hok : ∀ q ∈ L, spOk q) :
    Calls Try.prog 33 #[v, .int .u32 id] w fun e w' => ∃ v', e = .returned (.tuple #[v', .int .i64 (if (dropL L id).length = n then 7 else 0)]) ∧ SpL w' v' (dropL L id) ∧ New w w' := by
  obtain ⟨A, c, rfl, hc, hA, hr⟩ := hv
  rw [hn] at hc hA ⊢
  have HN := Bx.mk hn
  have HR := Bx.mk hr
  have HO := Bx.mk hok
  have HA := Bx.mk hA
  have HC := Bx.mk hc
  clear hn hr hok hA hc
  go_enter Try.func33, Try.ntmps33
  repeat' (first | fail | go_values | go_skip | go_guarded | go_step | go_upon | go_back)
  go_loopw [6, 11] (fun l iv wr => ∃ (j : Nat), iv = .int .i64 j ∧ j ≤ n ∧ Bx (wr.ownsRow w.heap.size 40 3 l (dropL (L.take j) id).length (spots (dropL (L.take j) id))) ∧ Bx (New w wr)) (fun _ iv _ => n - (intOf iv).toNat)
  case atStart => exact ⟨0, rfl, Nat.zero_le _, ⟨World.ownsRow_nil _ _ _ _⟩, ⟨Upd.refl _ _⟩⟩
  case round =>
    obtain ⟨j, rfl, hj, HW, HU⟩ := hrel
    by_cases hlt : j < n
    · have hltI : (j : Int) < (n : Int) := by omega
      have hjL : j < L.length := by rw [HN.out]; exact hlt
      obtain ⟨b, o, rfl, e0, e1, e2⟩ := sp_at (HR.out.new HU.out) j hjL
      have hq := HO.out L[j] (List.getElem_mem hjL)
      have hle : (dropL (L.take j) id).length ≤ j := by have := dropL_le (L.take j) id; rw [List.length_take] at this; omega
      have B0 := box_at' wr #[.int .u32 L[j].1, .int .i32 L[j].2.1, .int .i32 L[j].2.2] 40 0 _ rfl
      have B1 := box_at' wr #[.int .u32 L[j].1, .int .i32 L[j].2.1, .int .i32 L[j].2.2] 40 1 _ rfl
      have B2 := box_at' wr #[.int .u32 L[j].1, .int .i32 L[j].2.1, .int .i32 L[j].2.2] 40 2 _ rfl
      by_cases hne : L[j].1 ≠ id
      · have hneI : ¬ (L[j].1 : Int) = (id : Int) := by omega
        have HG := Bx.mk (dropL_take_go L id j hjL hne)
        have hox := (HW.out.alloc (.cells #[.int .u32 L[j].1, .int .i32 L[j].2.1, .int .i32 L[j].2.2] 40)).alloc (.cells #[.int .u32 L[j].1, .int .i32 L[j].2.1, .int .i32 L[j].2.2] 40)
        have hs := src_spot (wr.alloc (.cells #[.int .u32 L[j].1, .int .i32 L[j].2.1, .int .i32 L[j].2.2] 40)) L[j] (wr.heap.size + 1) (by simp)
        have hN := HU.out
        generalize L[j] = q at *
        obtain ⟨i0, x0, y0⟩ := q
        dsimp only at *
        obtain ⟨m, hm⟩ : ∃ m, (dropL (L.take j) id).length = m := ⟨_, rfl⟩
        rw [hm] at hox hle
        have HM := Bx.mk hm
        clear hm HW
        repeat' (first | (at_builtin; refine wpList_appN _ rfl _ _ 34 34 rfl _ 40 (.agg #[.int .u32 0, .int .i32 0, .int .i32 0]) 3 12 Try.underlying34 infoS rfl _ _ _ hox rfl _ _ _ hs rfl _ ((hN.alloc _).alloc _) ?c1 ?c2 ?_; (case c1 => unfold maxLen; omega); (case c2 => omega); intro v5 w5 ho5 hu5 hk5 hv5) | go_values | go_skip | go_guarded | go_step | go_upon | go_back)
        refine ⟨⟨j + 1, by go_num, by omega, ⟨?_⟩, ⟨hu5⟩⟩, by simp [intOf]; omega⟩
        rw [HG.out, spots_append, List.length_append, HM.out]
        exact ho5
      · have he : L[j].1 = id := by omega
        have heI : (L[j].1 : Int) = (id : Int) := by omega
        have HG := Bx.mk (dropL_take_skip L id j hjL he)
        have AL := Bx.mk ((Upd.refl Nowhere wr).alloc (.cells #[.int .u32 L[j].1, .int .i32 L[j].2.1, .int .i32 L[j].2.2] 40))
        generalize L[j] = q at *
        obtain ⟨i0, x0, y0⟩ := q
        dsimp only at *
        subst he
        clear heI hle
        repeat' (first | fail | go_values | go_skip | go_guarded | go_step | go_upon | go_back)
        refine ⟨⟨j + 1, by go_num, by omega, ⟨by rw [HG.out]; exact own_new HW.out AL.out⟩, ⟨HU.out.trans AL.out⟩⟩, by simp [intOf]; omega⟩
    · have hltI : ¬ (j : Int) < (n : Int) := by omega
      obtain rfl : j = n := by omega
      have HT := Bx.mk (show L.take j = L from List.take_of_length_le (by rw [HN.out]; exact Nat.le_refl _))
      have HW2 := HW.out
      rw [HT.out] at HW2
      have hle := dropL_le L id
      rw [HN.out] at hle
      obtain ⟨⟨A2, c2, rfl, h3, h4, h5⟩, _⟩ := own_SpL HW2
      have HQ := Bx.mk (fun (h : (dropL L id).length = j) => dropL_same (h.trans HN.out.symm))
      have HL2 := Bx.mk (show SpL wr (.slice A2 (dropL L id).length c2) (dropL L id) from ⟨A2, c2, rfl, h3, h4, h5⟩)
      have HL1 := Bx.mk (show SpL wr (.slice A j c) L from ⟨A, c, by rw [HN.out], by rw [HN.out]; exact HC.out, by rw [HN.out]; exact HA.out, HR.out.new HU.out⟩)
      clear HW HW2 h3 h4 h5 HT
      by_cases heq : (dropL L id).length = j
      · have heqI : ((dropL L id).length : Int) = (j : Int) := by omega
        have HE := Bx.mk heq
        clear heq
        repeat' (first | fail | go_values | go_skip | go_guarded | go_step | go_upon | go_back)
        go_returns
        exact ⟨_, by rw [if_pos HE.out]; rfl, by rw [HQ.out HE.out]; exact HL1.out, HU.out⟩
      · have heqI : ¬ ((dropL L id).length : Int) = (j : Int) := by omega
        have HE := Bx.mk heq
        clear heq
        repeat' (first | fail | go_values | go_skip | go_guarded | go_step | go_upon | go_back)
        go_returns
        exact ⟨_, by rw [if_neg HE.out]; rfl, HL2.out, HU.out⟩
end Go.Proofs.Ytohflgpkimnodaa
