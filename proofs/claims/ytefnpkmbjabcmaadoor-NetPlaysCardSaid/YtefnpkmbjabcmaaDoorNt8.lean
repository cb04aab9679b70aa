/- Turn, To; the reference's bag: walked. -/
import Derived.Test.YtefnpkmbjabcmaaDoorNtL1
import Derived.Deep.RegionHeld3
namespace Go.Proofs.YtefnpkmbjabcmaaDoor
open Go.RowKit

theorem outs_set (xs : List It) (i : Nat) (y : It) (h : i < xs.length) (ht : y.to = xs[i].to) : outs (xs.set i y) = (outs xs).set (i * 2 + 1) y.v := by
  induction xs generalizing i with
  | nil => cases h
  | cons x xs ih =>
    cases i with
    | zero => simp only [List.getElem_cons_zero] at ht; simp [outs, ht]
    | succ i =>
      have e := ih i (by simpa using h) (by simpa using ht)
      rw [List.set_cons_succ, show (i + 1) * 2 + 1 = (i * 2 + 1) + 1 + 1 by omega]
      simp only [outs, List.flatMap_cons, List.cons_append, List.nil_append, List.set_cons_succ] at e ⊢
      rw [e]
/-- one frame has turned -/
theorem IsBag.put_fr {w : World} {g most gl c : Nat} {xs : List It} (h : IsBag w g (.slice (some ⟨gl, 0, none⟩) xs.length c) most xs) (i : Nat) (hi : i < xs.length) (y : It) (ht : y.to = xs[i].to) (hy : y.In w) :
    w.frozen? ⟨gl, i * 2 + 1, none⟩ = false ∧ IsBag (w.setCell ⟨gl, i * 2 + 1, none⟩ y.v) g (.slice (some ⟨gl, 0, none⟩) xs.length c) most (xs.set i y) := by
  have hne : gl ≠ g := fun e => h.apart (by rw [e]; rfl)
  have hu := Upd.set1 w ⟨gl, i * 2 + 1, none⟩ y.v
  refine ⟨h.row.frozenAt (i * 2 + 1), hu.blk h.obj (fun e => hne e.symm), ?_, fun x hx => ?_⟩
  · rw [List.length_set, outs_set xs i y hi ht]
    exact (h.row.stored (i * 2 + 1) y.v).1
  · have key : ∀ z : It, z.In w → z.In (w.setCell ⟨gl, i * 2 + 1, none⟩ y.v) := fun z hz => own_upd hz hu (fun b hb q => own_apart hz h.row (by decide) b hb (by rw [show b = gl from q]; rfl))
    rcases List.mem_or_eq_of_mem_set hx with hx | rfl
    · exact key x (h.frs x hx)
    · exact key x hy

set_option maxHeartbeats 1000000 in
theorem Turn_no {w : World} {g most : Nat} {v : Value} {xs : List It} (h : IsBag w g v most xs) (i : Int) (hi : ¬ (0 ≤ i ∧ i < xs.length)) (a p : Int) :
    Calls Tryd.prog 23 #[.pointer (some ⟨g, 0, none⟩), .int .i64 i, .int .i64 a, .int .u32 p] w fun e w' => e = .returned (.int .i64 10) ∧ w' = w := by
  have HA := Bx.mk (has_any h i)
  rw [decide_eq_false hi] at HA
  clear h hi
  go_enter Tryd.func23, Tryd.ntmps23
  go_wp2_with (go_at_call 30; (with_reducible refine (HA.out).mono ?_); rintro e w2 ⟨rfl, rfl⟩; dsimp only)
  go_ret
  exact ⟨rfl, rfl⟩
theorem Turn_nil (w : World) (i a p : Int) : Calls Tryd.prog 23 #[.pointer none, .int .i64 i, .int .i64 a, .int .u32 p] w fun e w' => e = .returned (.int .i64 10) ∧ w' = w := by
  have HA := Bx.mk (has_nil w i)
  go_enter Tryd.func23, Tryd.ntmps23
  go_wp2_with (go_at_call 30; (with_reducible refine (HA.out).mono ?_); rintro e w2 ⟨rfl, rfl⟩; dsimp only)
  go_ret
  exact ⟨rfl, rfl⟩
set_option maxHeartbeats 2000000 in
theorem Turn_ok {w : World} {g most : Nat} {v : Value} {xs : List It} (h : IsBag w g v most xs) (i : Nat) (hi : i < xs.length) (hsz : xs.length ≤ 4096) (x : It) (hx : xs[i]? = some x) (hfr : x.fr.length ≤ 200000) (a : Int) (pat : Nat) (ha : -9223372036854775808 ≤ a ∧ a ≤ 9223372036854775807) (hp : pat < 4294967296) (ht : IsTab w) :
    Calls Tryd.prog 23 #[.pointer (some ⟨g, 0, none⟩), .int .i64 i, .int .i64 a, .int .u32 pat] w fun e w' => e = .returned (.int .i64 0) ∧ ∃ y, y.to = x.to ∧ y.fr = Nt.turned x.fr a pat ∧ (∀ b, y.v.ownBlock = some b → w.heap.size ≤ b) ∧ IsBag w' g v most (xs.set i y) ∧ BagWrote g v v w w' := by
  have HA := Bx.mk (has_any h i)
  rw [decide_eq_true (show 0 ≤ (i : Int) ∧ (i : Int) < xs.length by omega)] at HA
  obtain ⟨gl, c, rfl, hc, hcm, hne, e0, e1, hin⟩ := h.item i hi
  have hxx : xs[i] = x := by rw [List.getElem?_eq_getElem hi] at hx; exact Option.some.inj hx
  rw [hxx] at e0 e1 hin
  obtain ⟨A, cf, hxv, hcf, hcfm, hr, _⟩ := In.slice hin
  rw [hxv] at e1
  have hd : New w w.drew := (Upd.refl _ w).drew
  have c1 := hd.cell h.c1 (fun q => q)
  replace e1 := hd.cell e1 (fun q => q)
  have hr' := hr.new hd
  have hID := h.new hd
  have hil : (i : Int) < (xs.length : Int) := by omega
  have HTD := ht.new hd
  have HI := Bx.mk h
  have HXI := Bx.mk hi
  have HXX := Bx.mk hx
  clear hx hxv hin e0 hxx h hr
  generalize hll : xs.length = l at *
  have HLL := Bx.mk hll
  clear hll
  go_enter Tryd.func23, Tryd.ntmps23
  go_wp2_with (go_at_call 30; (with_reducible refine (HA.out).mono ?_); rintro e w2 ⟨rfl, rfl⟩; dsimp only)
  go_region_with ((go_at_call 8; (with_reducible refine (Turned_any A _ cf x.fr a pat _ rfl hfr hr' ha hp HTD).mono ?_); rintro e w3 ⟨v3, rfl, ho3, hu3⟩; obtain ⟨A3, c3, rfl, _⟩ := own_rd ho3; have hI3 := hID.new hu3; have m1 := hI3.c1; have m2 := hu3.cell e1 (fun q => q); have hrow3 := hI3.row; rw [HLL.out] at hrow3; have f3 := hrow3.frozenAt (i * 2 + 1); dsimp only))
  all_goals
    go_wp2
    go_ret
    have hix : i < xs.length := by rw [HLL.out]; exact HXI.out
    have hto : xs[i].to = x.to := by have e := HXX.out; rw [List.getElem?_eq_getElem hix] at e; rw [Option.some.inj e]
    have HTL := Nt.turned_length x.fr a pat
    have hin : It.In w3 ⟨x.to, .slice A3 x.fr.length c3, Nt.turned x.fr a pat⟩ := by unfold It.In; dsimp only; rw [HTL]; exact own_lower ho3 (Nat.zero_le _)
    have hI3' : IsBag w3 g (.slice (some ⟨gl, 0, none⟩) xs.length c) most xs := by rw [HLL.out]; exact hI3
    have hP := (hI3'.put_fr i hix ⟨x.to, .slice A3 x.fr.length c3, Nt.turned x.fr a pat⟩ hto.symm hin).2
    rw [HLL.out] at hP
    refine ⟨rfl, ⟨x.to, .slice A3 x.fr.length c3, Nt.turned x.fr a pat⟩, rfl, rfl, fun b hb => ?_, hP, ?_, fun b hb => .inl hb⟩
    · exact Nat.le_trans hd.size (own_ge ho3 b hb)
    · exact (New.upd (hd.trans hu3)).setCell (p := ⟨gl, i * 2 + 1, none⟩) (.inl (.inr rfl)) _
end Go.Proofs.YtefnpkmbjabcmaaDoor
