/- leave: walked. -/
import Derived.Test.YtohflgpkimnodaaGr3
import Derived.Test.YtohflgpkimnodaaCalm
import Derived.StillTailTactics
namespace Go.Proofs.Ytohflgpkimnodaa
open Go.RowKit Go.Maps
set_option maxRecDepth 20000 in
set_option maxHeartbeats 4000000 in
theorem leave_any {n0 : Nat} {w : World} {g cb hb : Nat} {DC DH : DataW Unit} {B : Int × Int → Nat} {M : Nat → Option (Int × Int)} (h : GA n0 w g cb hb DC DH B M) (i : Nat) (hi : i < 4294967296) :
    Calls Try.prog 32 #[.pointer (some ⟨g, 0, none⟩), .int .u32 i] w fun e w' => e = .returned (.bool (M i).isSome) ∧ ∃ DC' DH', GA n0 w' g cb hb DC' DH' B (mset M i none) ∧ GUpd n0 w w' := by
  have H0 := Bx.mk h
  have c0 := h.c0
  have c1 := h.c1
  cases hM : M i with
  | none =>
    have L1 := look_home0 h.home hi (h.noHome hM)
    clear h
    go_enter Try.func32, Try.ntmps32
    repeat' (first | fail | go_values | go_skip | go_guarded | go_step | go_upon | go_back)
    go_returns
    have AL : New w (w.alloc (.cells #[.int .i64 0, .int .i64 0] 68)) := (Upd.refl _ w).alloc _
    have e : mset M i none = M := by
      funext j
      unfold mset
      split
      · rename_i q; rw [q, hM]
      · rfl
    exact ⟨rfl, DC, DH, by rw [e]; exact H0.out.new AL, GUpd.new AL⟩
  | some s =>
    have L1 := look_home h.home hi (h.hat i s hM)
    obtain ⟨w1, hw1⟩ : ∃ w1, w.alloc (.cells #[.int .i64 s.1, .int .i64 s.2] 68) = w1 := ⟨_, rfl⟩
    obtain ⟨ab, hab⟩ : ∃ ab, w.heap.size = ab := ⟨_, rfl⟩
    have AL : New w w1 := by rw [← hw1]; exact (Upd.refl _ w).alloc _
    have HX : w1.heap[ab]? = some (.cells #[.int .i64 s.1, .int .i64 s.2] 68 (0, 0)) := by rw [← hw1, ← hab]; exact heap_alloc_new w _
    have h1 := h.new AL
    have H1 := Bx.mk h1
    have HX1 := Bx.mk HX
    have AL1 := Bx.mk AL
    have d0 := h1.c0
    have d1 := h1.c1
    have o1 := h1.home
    obtain ⟨D0, m1, m2⟩ := h1.sets i s hM
    have HD0 := Bx.mk m1
    have HD1 := Bx.mk m2
    have hs := (h.dom i s hM).2
    obtain ⟨b1, b2⟩ := h.bne i s hM
    have HN := Bx.mk (And.intro h1.gne (And.intro (h1.sne hM) h1.ne))
    have hbl := m1.lt
    have HC := Bx.mk (h.cat i s hM)
    have HW := Bx.mk hw1
    have HA := Bx.mk hab
    have r1 : (w.alloc (.cells #[.int .i64 s.1, .int .i64 s.2] 68)).cell? ⟨g, 1, none⟩ = some (.map (some hb)) := by rw [hw1]; exact d1
    have o1' : (w.alloc (.cells #[.int .i64 s.1, .int .i64 s.2] 68)).ownsMap Try.prog 38 spotElem hb (Maps.size DH) DH := by rw [hw1]; exact o1
    clear h h1 m1 m2 AL HX hw1 hab d0 d1 o1
    go_enter Try.func32, Try.ntmps32
    repeat' (first | (at_delete; refine wpList_delete_own _ rfl _ _ 60 38 rfl 68 idLaw Try.underlying60 spotElem hb _ DH rfl o1' _ _ rfl (keyId hi) ?_; intro w2 o2 t2) | go_values | go_skip | go_guarded | go_step | go_upon | go_back)
    have u2 : Upd (fun x => x = hb) w1 w2 := by rw [← HW.out]; exact turned_upd t2
    have hob2 : w2.heap[g]? = some (.cells #[.map (some cb), .map (some hb)] 62 (0, 0)) := u2.blk H1.out.obj HN.out.1.2
    have hcl2 : w2.ownsMap Try.prog 68 setElem cb (Maps.size DC) DC := ownsMap_upd H1.out.cells u2 HN.out.2.2
    have hd2 : w2.ownsMap Try.prog 38 unitElem (B s) (Maps.size D0) D0 := ownsMap_upd HD0.out u2 b2
    have hx2 : w2.heap[w.heap.size]? = some (.cells #[.int .i64 s.1, .int .i64 s.2] 68 (0, 0)) := by
      rw [HA.out]
      refine u2.blk HX1.out (fun q => ?_)
      obtain ⟨e, c, z⟩ := ownsMap_obj H1.out.home
      rw [← q, HX1.out] at z; cases z
    have e0 : w2.drew.cell? ⟨g, 0, none⟩ = some (.map (some cb)) := by show w2.cell? _ = _; rw [World.cell?, hob2]; rfl
    have x0 : w2.drew.cell? ⟨w.heap.size, 0, none⟩ = some (.int .i64 s.1) := by show w2.cell? _ = _; rw [World.cell?, hx2]; rfl
    have x1 : w2.drew.cell? ⟨w.heap.size, 1, none⟩ = some (.int .i64 s.2) := by show w2.cell? _ = _; rw [World.cell?, hx2]; rfl
    have L5 := look_set (w := w2.drew) hcl2.drew hs HC.out
    have hd2' := hd2.drew
    go_still_tail 7, (by kernel_rfl)
    change wpList _ _ _ _ _ w2.drew
    repeat' (first | (at_delete; refine wpList_delete_own _ rfl _ _ 72 38 rfl 73 idLaw Try.underlying72 unitElem (B s) _ D0 rfl hd2' _ _ rfl (keyId hi) ?_; intro w3 o3 t3) | go_values | go_skip | go_guarded | go_step | go_upon | go_back)
    have u3 : Upd (fun x => x = B s) w2 w3 := (show Upd (fun x => x = B s) w2 w2.drew from (Upd.refl _ w2).drew).trans (turned_upd t3)
    have hob3 := u3.blk hob2 HN.out.2.1
    have hcl3 := ownsMap_upd hcl2 u3 b1.symm
    have hx3 : w3.heap[w.heap.size]? = some (.cells #[.int .i64 s.1, .int .i64 s.2] 68 (0, 0)) := by
      refine u3.blk hx2 (fun q => ?_)
      obtain ⟨e, c, z⟩ := ownsMap_obj hd2
      rw [← q, hx2] at z; cases z
    clear e0 x0 x1 L5 hd2'
    have e0 : w3.drew.cell? ⟨g, 0, none⟩ = some (.map (some cb)) := by show w3.cell? _ = _; rw [World.cell?, hob3]; rfl
    have x0 : w3.drew.cell? ⟨w.heap.size, 0, none⟩ = some (.int .i64 s.1) := by show w3.cell? _ = _; rw [World.cell?, hx3]; rfl
    have x1 : w3.drew.cell? ⟨w.heap.size, 1, none⟩ = some (.int .i64 s.2) := by show w3.cell? _ = _; rw [World.cell?, hx3]; rfl
    have L5 := look_set (w := w3.drew) hcl3.drew hs HC.out
    have o3' := o3.drew
    go_still_tail 6, (by kernel_rfl)
    change wpList _ _ _ _ _ w3.drew
    have DR : New w3 w3.drew := (Upd.refl _ w3).drew
    have hcl4 := hcl3.drew
    generalize w3.drew = w5 at *
    by_cases he : Maps.size (D0.del (idKey i)) = 0
    · have heI : (Maps.size (D0.del (idKey i)) : Int) = 0 := by omega
      have HE := Bx.mk he
      clear he
      have e0' : w5.drew.cell? ⟨g, 0, none⟩ = some (.map (some cb)) := e0
      have x0' : w5.drew.cell? ⟨w.heap.size, 0, none⟩ = some (.int .i64 s.1) := x0
      have x1' : w5.drew.cell? ⟨w.heap.size, 1, none⟩ = some (.int .i64 s.2) := x1
      repeat' (first | (at_len; refine wpList_len_own _ rfl _ 72 rfl 38 73 Try.underlying72 _ (B s) _ _ rfl o3' ?_) | go_values | go_skip | go_guarded | go_step | go_upon | go_back)
      have hcl5 := hcl4.drew
      go_still_tail 5, (by kernel_rfl)
      change wpList _ _ _ _ _ w5.drew
      repeat' (first | (at_delete; refine wpList_delete_own _ rfl _ _ 59 68 rfl 72 spotLaw Try.underlying59 setElem cb _ DC rfl hcl5 _ _ rfl (keySpot hs) ?_; intro w4 o4 t4) | go_values | go_skip | go_guarded | go_step | go_upon | go_back)
      go_returns
      have u4 : Upd (fun x => x = cb) w3 w4 := ((New.upd DR).drew).trans (turned_upd t4)
      obtain ⟨z1, z2⟩ := H1.out.leave2 hM HD1.out o2 u2 o3 u3 HE.out o4 u4
      exact ⟨rfl, _, _, z1, (GUpd.new AL1.out).trans z2⟩
    · have heI : ¬ (Maps.size (D0.del (idKey i)) : Int) = 0 := by omega
      have HE := Bx.mk he
      clear he
      repeat' (first | (at_len; refine wpList_len_own _ rfl _ 72 rfl 38 73 Try.underlying72 _ (B s) _ _ rfl o3' ?_) | go_values | go_skip | go_guarded | go_step | go_upon | go_back)
      go_returns
      obtain ⟨z1, z2⟩ := H1.out.leave1 hM HD1.out o2 u2 o3 u3 HE.out
      exact ⟨rfl, _, _, z1.new DR, ((GUpd.new AL1.out).trans z2).trans (GUpd.new DR)⟩
end Go.Proofs.Ytohflgpkimnodaa
