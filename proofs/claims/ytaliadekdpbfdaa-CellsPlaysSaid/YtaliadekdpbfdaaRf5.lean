/- The reference's Used: walked. -/
import Derived.Test.YtaliadekdpbfdaaRf4
namespace Go.Proofs.Ytaliadekdpbfdaa
open Go.RowKit
/-- is nobody of a list in a cell? -/
def free (c : Int × Int) (L : List SpQ) : Bool := L.all fun q => decide (cellsOf q ≠ c)
theorem free_snoc (c : Int × Int) (L : List SpQ) (q : SpQ) : free c (L ++ [q]) = (free c L && decide (cellsOf q ≠ c)) := by simp [free]
theorem free_iff (c : Int × Int) (L : List SpQ) : free c L = true ↔ ∀ q ∈ L, cellsOf q ≠ c := by simp [free]
theorem free_take (c : Int × Int) (L : List SpQ) (k : Nat) (h : k < L.length) : free c (L.take (k + 1)) = (free c (L.take k) && decide (cellsOf L[k] ≠ c)) := by
  rw [List.take_succ_eq_append_getElem h, free_snoc]
/-- the cells of a list, each once -/
structure Cel (L : List SpQ) (us : List (Int × Int)) : Prop where
  nd : us.Nodup
  mem : ∀ s, s ∈ us ↔ ∃ q ∈ L, cellsOf q = s
theorem Cel.nil : Cel [] [] := ⟨List.nodup_nil, fun s => by simp⟩
theorem Cel.new {L : List SpQ} {us : List (Int × Int)} (h : Cel L us) (q : SpQ) (hf : free (cellsOf q) L = true) : Cel (L ++ [q]) (cellsOf q :: us) := by
  rw [free_iff] at hf
  refine ⟨List.nodup_cons.2 ⟨fun hm => ?_, h.nd⟩, fun s => ?_⟩
  · obtain ⟨a, ha, e⟩ := (h.mem _).1 hm
    exact hf a ha e
  · rw [List.mem_cons, h.mem]
    constructor
    · rintro (rfl | ⟨a, ha, e⟩)
      · exact ⟨q, by simp, rfl⟩
      · exact ⟨a, List.mem_append_left _ ha, e⟩
    · rintro ⟨a, ha, e⟩
      rcases List.mem_append.1 ha with ha | ha
      · exact .inr ⟨a, ha, e⟩
      · rw [List.mem_singleton.1 ha] at e
        exact .inl e.symm
theorem Cel.old {L : List SpQ} {us : List (Int × Int)} (h : Cel L us) (q : SpQ) (hf : free (cellsOf q) L = false) : Cel (L ++ [q]) us := by
  have hx : ∃ a ∈ L, cellsOf a = cellsOf q := Classical.byContradiction fun hn => by
    have : free (cellsOf q) L = true := (free_iff _ _).2 fun a ha e => hn ⟨a, ha, e⟩
    rw [this] at hf; cases hf
  refine ⟨h.nd, fun s => ?_⟩
  rw [h.mem]
  constructor
  · rintro ⟨a, ha, e⟩; exact ⟨a, List.mem_append_left _ ha, e⟩
  · rintro ⟨a, ha, e⟩
    rcases List.mem_append.1 ha with ha | ha
    · exact ⟨a, ha, e⟩
    · rw [List.mem_singleton.1 ha] at e
      obtain ⟨b, hb, e2⟩ := hx
      exact ⟨b, hb, e2.trans e⟩
theorem Cel.len {L : List SpQ} {us : List (Int × Int)} (h : Cel L us) : us.length ≤ L.length := by
  have := nodup_le us (L.map cellsOf) h.nd (fun s hs => by obtain ⟨q, hq, e⟩ := (h.mem s).1 hs; exact List.mem_map.2 ⟨q, hq, e⟩)
  rwa [List.length_map] at this
set_option maxRecDepth 20000 in
set_option maxHeartbeats 16000000 in
theorem refUsed_any (v : Value) (L : List SpQ) (hv : ∀ q ∈ L, spOk q) (hl : L.length ≤ 1000) (w : World) (hS : SpL w v L) :
    Calls Try.prog 22 #[v] w fun e w' => ∃ us, e = .returned (.int .i64 us.length) ∧ Cel L us ∧ New w w' := by
  obtain ⟨A, c, rfl, hc, hA, hr⟩ := hS
  obtain ⟨m, hm⟩ : ∃ m, L.length = m := ⟨_, rfl⟩
  rw [hm] at hc hA hl ⊢
  have HM := Bx.mk hm
  have HR := Bx.mk hr
  have HO := Bx.mk hv
  have HA := Bx.mk hA
  clear hm hr hv hA
  go_enter Try.func22, Try.ntmps22
  repeat' (first | fail | go_values | go_skip | go_guarded | go_step | go_upon | go_back)
  go_loopw [3, 11] (fun nv iv wr => ∃ (i : Nat) (us : List (Int × Int)), iv = .int .i64 i ∧ i ≤ m ∧ nv = .int .i64 us.length ∧ Bx (Cel (L.take i) us) ∧ Bx (New w wr)) (fun _ iv _ => m - (intOf iv).toNat)
  case atStart => exact ⟨0, [], rfl, Nat.zero_le _, rfl, ⟨Cel.nil⟩, ⟨Upd.refl _ _⟩⟩
  case round =>
    obtain ⟨i, us, rfl, hi, rfl, HCl, HU⟩ := hrel
    by_cases hlt : i < m
    · have hltI : (i : Int) < (m : Int) := by omega
      have hiL : i < L.length := by rw [HM.out]; exact hlt
      obtain ⟨b, o, rfl, e0, e1, e2⟩ := sp_at (HR.out.new HU.out) i hiL
      have hus : us.length ≤ i := by have := HCl.out.len; rw [List.length_take] at this; omega
      obtain ⟨⟨i0, u0, v0⟩, hqe⟩ : ∃ q, L[i] = q := ⟨_, rfl⟩
      have hq0 := HO.out L[i] (List.getElem_mem hiL)
      rw [hqe] at e0 e1 e2 hq0
      dsimp only at e0 e1 e2
      obtain ⟨cx, hcx⟩ : ∃ cx, cell u0 = cx := ⟨_, rfl⟩
      obtain ⟨cy, hcy⟩ : ∃ cy, cell v0 = cy := ⟨_, rfl⟩
      have O3 := Bx.mk (fun w => crefOf_u u0 w hq0.2.1)
      have O4 := Bx.mk (fun w => crefOf_u v0 w hq0.2.2)
      rw [hcx] at O3
      rw [hcy] at O4
      have HCQ := Bx.mk (show cellsOf L[i] = (cx, cy) by rw [hqe]; exact Prod.ext hcx hcy)
      have B1 := box_at' wr #[.int .u32 i0, .int .i32 u0, .int .i32 v0] 51 1 _ rfl
      have B2 := box_at' wr #[.int .u32 i0, .int .i32 u0, .int .i32 v0] 51 2 _ rfl
      have BAL := Bx.mk ((Upd.refl Nowhere wr).alloc (.cells #[.int .u32 i0, .int .i32 u0, .int .i32 v0] 51))
      have BBx := Bx.mk (And.intro B1 B2)
      have hic : (i : Int) ≤ (c : Int) := by omega
      have HS := Bx.mk (show L.take (i + 1) = L.take i ++ [L[i]] from List.take_succ_eq_append_getElem hiL)
      have wi : IntKind.i64.wrap ((i : Int) + 1) = ((i + 1 : Nat) : Int) := by rw [IntKind.wrap_i64]; omega
      have wus : IntKind.i64.wrap ((us.length : Int) + 1) = ((us.length + 1 : Nat) : Int) := by rw [IntKind.wrap_i64]; omega
      clear hqe hq0 hcx hcy B1 B2
      repeat' (first | fail | go_values | go_skip | go_guarded | go_step | go_upon | go_back)
      obtain ⟨sb, hsb⟩ : ∃ sb, wr.heap.size = sb := ⟨_, rfl⟩
      rw [hsb] at BBx ⊢
      have HU1 := Bx.mk (HU.out.trans BAL.out)
      generalize wr.alloc (.cells #[.int .u32 i0, .int .i32 u0, .int .i32 v0] 51) = wB at *
      clear hsb BAL HU e0 e1 e2
      go_loopw [6, 20] (fun fv kv wr => ∃ (k : Nat), kv = .int .i64 k ∧ k ≤ i ∧ fv = .bool (free (cx, cy) (L.take k)) ∧ Bx (New wB wr)) (fun _ kv _ => i - (intOf kv).toNat)
      case atStart => exact ⟨0, rfl, Nat.zero_le _, rfl, ⟨Upd.refl _ _⟩⟩
      case round =>
        obtain ⟨k, rfl, hk, rfl, HU2⟩ := hrel
        by_cases hkl : k < i
        · have hklI : (k : Int) < (i : Int) := by omega
          have hkL : k < L.length := by omega
          obtain ⟨b', o', e', f0, f1, f2⟩ := sp_at ((HR.out.new HU1.out).new HU2.out) k hkL
          simp only [Option.some.injEq, Addr.mk.injEq, and_true] at e'
          obtain ⟨rfl, rfl⟩ := e'
          obtain ⟨⟨i1, u1, v1⟩, hqe⟩ : ∃ q, L[k] = q := ⟨_, rfl⟩
          have hq1 := HO.out L[k] (List.getElem_mem hkL)
          have hFT := free_take (cx, cy) L k hkL
          rw [hqe] at f0 f1 f2 hq1 hFT
          dsimp only at f0 f1 f2
          obtain ⟨tx, htx⟩ : ∃ cx, cell u1 = cx := ⟨_, rfl⟩
          obtain ⟨ty, hty⟩ : ∃ cy, cell v1 = cy := ⟨_, rfl⟩
          have O1 := Bx.mk (fun w => crefOf_u u1 w hq1.2.1)
          have O2 := Bx.mk (fun w => crefOf_u v1 w hq1.2.2)
          rw [htx] at O1
          rw [hty] at O2
          rw [show cellsOf (i1, u1, v1) = (tx, ty) from Prod.ext htx hty] at hFT
          have D1 := box_at' wr #[.int .u32 i1, .int .i32 u1, .int .i32 v1] 51 1 _ rfl
          have D2 := box_at' wr #[.int .u32 i1, .int .i32 u1, .int .i32 v1] 51 2 _ rfl
          have AL := (Upd.refl Nowhere wr).alloc (.cells #[.int .u32 i1, .int .i32 u1, .int .i32 v1] 51)
          have k1 : ∀ z : After (wr.alloc (.cells #[.int .u32 i1, .int .i32 u1, .int .i32 v1] 51)), z.to.cell? ⟨wr.heap.size, 1, none⟩ = some (.int .i32 u1) := fun z => z.h.cell D1 (fun q => q)
          have k2 : ∀ z : After (wr.alloc (.cells #[.int .u32 i1, .int .i32 u1, .int .i32 v1] 51)), z.to.cell? ⟨wr.heap.size, 2, none⟩ = some (.int .i32 v1) := fun z => z.h.cell D2 (fun q => q)
          have k3 : ∀ z : After (wr.alloc (.cells #[.int .u32 i1, .int .i32 u1, .int .i32 v1] 51)), z.to.cell? ⟨sb, 1, none⟩ = some (.int .i32 u0) := fun z => z.h.cell (AL.cell (HU2.out.cell BBx.out.1 (fun q => q)) (fun q => q)) (fun q => q)
          have k4 : ∀ z : After (wr.alloc (.cells #[.int .u32 i1, .int .i32 u1, .int .i32 v1] 51)), z.to.cell? ⟨sb, 2, none⟩ = some (.int .i32 v0) := fun z => z.h.cell (AL.cell (HU2.out.cell BBx.out.2 (fun q => q)) (fun q => q)) (fun q => q)
          have HU3 := Bx.mk (HU2.out.trans AL)
          have wk : IntKind.i64.wrap ((k : Int) + 1) = ((k + 1 : Nat) : Int) := by rw [IntKind.wrap_i64]; omega
          obtain ⟨fk, hfk⟩ : ∃ f, free (cx, cy) (L.take k) = f := ⟨_, rfl⟩
          rw [hfk] at hFT ⊢
          have HFT := Bx.mk hFT
          clear hqe hq1 hFT htx hty D1 D2 AL hfk
          cases fk with
          | false =>
            repeat' (first | fail | go_values | go_skip | go_guarded | go_step | go_upon | go_back)
            (refine wp_region_calm (by kernel_rfl) (by kernel_rfl) ?_; (repeat (go_big_quiet_step ((go_at_call 10; first | with_reducible refine Calls.calm_same (O1.out _) | with_reducible refine Calls.calm_same (O2.out _) | with_reducible refine Calls.calm_same (O3.out _) | with_reducible refine Calls.calm_same (O4.out _))))); refine wpQuiet_nil ?_; intro wq hq)
            clear k1 k2 k3 k4
            repeat' (first | fail | go_values | go_skip | go_guarded | go_step | go_upon | go_back)
            go_roundw
            case rel => exact ⟨k + 1, by go_num, by omega, by rw [HFT.out]; rfl, ⟨HU3.out.trans hq⟩⟩
            case measure => simp [intOf]; omega
          | true =>
            by_cases g1 : tx = cx
            · subst g1
              by_cases g2 : ty = cy
              · subst g2
                repeat' (first | fail | go_values | go_skip | go_guarded | go_step | go_upon | go_back)
                (refine wp_region_calm (by kernel_rfl) (by kernel_rfl) ?_; (repeat (go_big_quiet_step ((go_at_call 10; first | with_reducible refine Calls.calm_same (O1.out _) | with_reducible refine Calls.calm_same (O2.out _) | with_reducible refine Calls.calm_same (O3.out _) | with_reducible refine Calls.calm_same (O4.out _))))); refine wpQuiet_nil ?_; intro wq hq)
                clear k1 k2 k3 k4
                repeat' (first | fail | go_values | go_skip | go_guarded | go_step | go_upon | go_back)
                go_roundw
                case rel => exact ⟨k + 1, by go_num, by omega, by rw [HFT.out]; simp, ⟨HU3.out.trans hq⟩⟩
                case measure => simp [intOf]; omega
              · repeat' (first | fail | go_values | go_skip | go_guarded | go_step | go_upon | go_back)
                (refine wp_region_calm (by kernel_rfl) (by kernel_rfl) ?_; (repeat (go_big_quiet_step ((go_at_call 10; first | with_reducible refine Calls.calm_same (O1.out _) | with_reducible refine Calls.calm_same (O2.out _) | with_reducible refine Calls.calm_same (O3.out _) | with_reducible refine Calls.calm_same (O4.out _))))); refine wpQuiet_nil ?_; intro wq hq)
                clear k1 k2 k3 k4
                repeat' (first | fail | go_values | go_skip | go_guarded | go_step | go_upon | go_back)
                go_roundw
                case rel => exact ⟨k + 1, by go_num, by omega, by rw [HFT.out]; simp [g2], ⟨HU3.out.trans hq⟩⟩
                case measure => simp [intOf]; omega
            · have n1 : (tx != cx) = true := bne_iff_ne.2 g1
              repeat' (first | fail | go_values | go_skip | go_guarded | go_step | go_upon | go_back)
              (refine wp_region_calm (by kernel_rfl) (by kernel_rfl) ?_; (repeat (go_big_quiet_step ((go_at_call 10; first | with_reducible refine Calls.calm_same (O1.out _) | with_reducible refine Calls.calm_same (O2.out _) | with_reducible refine Calls.calm_same (O3.out _) | with_reducible refine Calls.calm_same (O4.out _))))); refine wpQuiet_nil ?_; intro wq hq)
              clear k1 k2 k3 k4
              repeat' (first | fail | go_values | go_skip | go_guarded | go_step | go_upon | go_back)
              go_roundw
              case rel => exact ⟨k + 1, by go_num, by omega, by rw [HFT.out]; simp [g1], ⟨HU3.out.trans hq⟩⟩
              case measure => simp [intOf]; omega
        · have hklI : ¬ (k : Int) < (i : Int) := by omega
          obtain rfl : k = i := by omega
          obtain ⟨fk, hfk⟩ : ∃ f, free (cx, cy) (L.take k) = f := ⟨_, rfl⟩
          rw [hfk]
          cases fk with
          | true =>
            have HC2 := Bx.mk (HCl.out.new L[k] (by rw [HCQ.out]; exact hfk))
            clear hfk
            repeat' (first | fail | go_values | go_skip | go_guarded | go_step | go_upon | go_back)
            go_roundw
            case rel => exact ⟨k + 1, cellsOf L[k] :: us, by go_num, by omega, by first | rfl | (rw [List.length_cons]; go_num), ⟨by rw [HS.out]; exact HC2.out⟩, ⟨HU1.out.trans HU2.out⟩⟩
            case measure => simp [intOf]; omega
          | false =>
            have HC2 := Bx.mk (HCl.out.old L[k] (by rw [HCQ.out]; exact hfk))
            clear hfk
            repeat' (first | fail | go_values | go_skip | go_guarded | go_step | go_upon | go_back)
            go_roundw
            case rel => exact ⟨k + 1, us, by go_num, by omega, rfl, ⟨by rw [HS.out]; exact HC2.out⟩, ⟨HU1.out.trans HU2.out⟩⟩
            case measure => simp [intOf]; omega
    · have hltI : ¬ (i : Int) < (m : Int) := by omega
      obtain rfl : i = m := by omega
      have HT := Bx.mk (show L.take i = L from List.take_of_length_le (by rw [HM.out]; exact Nat.le_refl _))
      have HC2 := HCl.out
      rw [HT.out] at HC2
      have HC3 := Bx.mk HC2
      clear HC2 HCl HT
      repeat' (first | fail | go_values | go_skip | go_guarded | go_step | go_upon | go_back)
      go_returns
      exact ⟨us, rfl, HC3.out, HU.out⟩
end Go.Proofs.Ytaliadekdpbfdaa
