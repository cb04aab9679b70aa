/- The walks of the writer of bits. -/
import Derived.Test.YtpfdbkfjjjiamaaOwn
import Derived.Test.YtpfdbkfjjjiamaaBiPure
import Derived.Laws.BitsAllLaws
namespace Go.Proofs.Ytpfdbkfjjjiamaa
open Go.RowKit

theorem info8 : (Try.prog.info? 5).map (fun i => (i.zero, i.size, i.bytes)) = some (some (.int .u8 0), 1, 1) := by kernel_rfl
theorem infob : (Try.prog.info? 4).map (fun i => (i.zero, i.size, i.bytes)) = some (some (.bool false), 1, 1) := by kernel_rfl

/-- a writer at block g: its bytes lie in v, its number of bits is N -/
structure IsV (w : World) (base g : Nat) (v : Value) (N : Nat) (p : List (BitVec 8)) : Prop where
  obj : w.heap[g]? = some (.cells #[v, .int .i64 N] 86 (0, 0))
  row : w.ownsRow base 5 1 v p.length (u8s p)
/-- a writer with the bits L -/
def IsW (w : World) (base g : Nat) (v : Value) (L : List Bool) : Prop := IsV w base g v L.length (Bi.pack L)

section
variable {w w' : World} {base g N : Nat} {v : Value} {p : List (BitVec 8)}
theorem IsV.c0 (h : IsV w base g v N p) : w.cell? ⟨g, 0, none⟩ = some v := by rw [World.cell?, h.obj]; rfl
theorem IsV.c1 (h : IsV w base g v N p) : w.cell? ⟨g, 1, none⟩ = some (.int .i64 N) := by rw [World.cell?, h.obj]; rfl
theorem IsV.fz (h : IsV w base g v N p) (o : Nat) : w.frozen? ⟨g, o, none⟩ = false := by simp [World.frozen?, h.obj]
theorem IsV.apart (h : IsV w base g v N p) : ¬ v.ownBlock = some g := by
  intro hb
  obtain ⟨hl, ⟨rfl, _⟩ | ⟨g', cap, cur, rfl, hg, hh, r⟩⟩ := h.row
  · cases hb
  · simp only [Value.ownBlock, Option.some.injEq] at hb
    subst hb
    rw [h.obj] at hh
    injection hh with hh
    injection hh with _ hh
    exact absurd hh (by decide)
theorem IsV.upd {S : Nat → Prop} (h : IsV w base g v N p) (k : Upd S w w') (h1 : ¬ S g) (h2 : ∀ b, v.ownBlock = some b → ¬ S b) : IsV w' base g v N p :=
  ⟨k.blk h.obj h1, own_upd h.row k h2⟩
theorem IsV.new (h : IsV w base g v N p) (k : New w w') : IsV w' base g v N p := h.upd k (fun q => q) (fun _ _ q => q)
theorem IsV.setN (h : IsV w base g v N p) (M : Nat) : IsV (w.setCell ⟨g, 1, none⟩ (.int .i64 M)) base g v M p :=
  ⟨heap_setCell_same w g 1 _ _ _ h.obj, own_upd h.row (Upd.set1 w _ _) (fun b hb q => h.apart ((show b = g from q) ▸ hb))⟩
theorem IsV.setV (h : IsV w base g v N p) {v2 : Value} {p2 : List (BitVec 8)} (hn : ¬ v2.ownBlock = some g) (hr : w.ownsRow base 5 1 v2 p2.length (u8s p2)) : IsV (w.setCell ⟨g, 0, none⟩ v2) base g v2 N p2 :=
  ⟨heap_setCell_same w g 0 _ _ _ h.obj, own_upd hr (Upd.set1 w _ _) (fun b hb q => hn ((show b = g from q) ▸ hb))⟩
theorem IsV.elem (h : IsV w base g v N p) (q : Nat) (hq : q < p.length) : ∃ gr c, v = .slice (some ⟨gr, 0, none⟩) p.length c ∧ gr ≠ g ∧ w.cell? ⟨gr, q, none⟩ = some (.int .u8 (p.getD q 0#8).toNat) ∧ w.frozen? ⟨gr, q, none⟩ = false ∧
    ∀ b : BitVec 8, IsV (w.setCell ⟨gr, q, none⟩ (.int .u8 b.toNat)) base g v N (p.set q b) := by
  obtain ⟨gr, c, hv, hg, hc, hf, hs⟩ := own_u8 h.row q hq
  have hne : gr ≠ g := by intro e; exact h.apart (by rw [hv, e]; rfl)
  exact ⟨gr, c, hv, hne, hc, hf, fun b => ⟨by rw [heap_setCell_other _ _ _ _ (fun e => hne e.symm)]; exact h.obj, by rw [List.length_set]; exact hs b⟩⟩
theorem IsV.grown (h : IsV w base g v N p) {o : Obj} {w2 : World} {v2 : Value} {p2 : List (BitVec 8)} (hk : Upd (fun k => v.ownBlock = some k) (w.alloc o) w2) (hwh : ∀ b, v2.ownBlock = some b → v.ownBlock = some b ∨ (w.alloc o).heap.size ≤ b)
    (ho : w2.ownsRow base 5 1 v2 p2.length (u8s p2)) : w2.frozen? ⟨g, 0, none⟩ = false ∧ w2.cell? ⟨g, 0, none⟩ = some v ∧ IsV (w2.setCell ⟨g, 0, none⟩ v2) base g v2 N p2 := by
  have hlt := (Array.getElem?_eq_some_iff.1 h.obj).1
  have hobj : w2.heap[g]? = some (.cells #[v, .int .i64 N] 86 (0, 0)) := hk.blk (by rw [Below.heap_alloc _ _ _ hlt]; exact h.obj) h.apart
  refine ⟨by simp [World.frozen?, hobj], by rw [World.cell?, hobj]; rfl, heap_setCell_same w2 g 0 _ _ _ hobj, own_upd ho (Upd.set1 w2 _ _) (fun b hb q => ?_)⟩
  have e : b = g := q
  subst e
  rcases hwh b hb with hx | hx
  · exact h.apart hx
  · simp at hx; omega
theorem IsV.d1 (h : IsV w base g v N p) {gr : Nat} (hne : gr ≠ g) (q : Nat) (u : Value) : (w.setCell ⟨gr, q, none⟩ u).cell? ⟨g, 1, none⟩ = some (.int .i64 N) := by
  rw [World.cell?, heap_setCell_other _ _ _ _ (fun e => hne e.symm), h.obj]; rfl
theorem IsV.f1 (h : IsV w base g v N p) {gr : Nat} (hne : gr ≠ g) (q : Nat) (u : Value) (o : Nat) : (w.setCell ⟨gr, q, none⟩ u).frozen? ⟨g, o, none⟩ = false := by
  have e := (heap_setCell_other w ⟨gr, q, none⟩ g u (fun e => hne e.symm)).trans h.obj
  simp [World.frozen?, e]
theorem IsV.step0 (h : IsV w base g v N p) {q : Nat} (hp : p.length = q) {o : Obj} {w2 : World} {v2 : Value} (hk : Upd (fun k => v.ownBlock = some k) (w.alloc o) w2) (hwh : ∀ b, v2.ownBlock = some b → v.ownBlock = some b ∨ (w.alloc o).heap.size ≤ b)
    (ho : w2.ownsRow base 5 1 v2 (q + 1) (u8s p ++ [.int .u8 0])) :
    ∃ gr c, v2 = .slice (some ⟨gr, 0, none⟩) (q + 1) c ∧ w2.frozen? ⟨g, 0, none⟩ = false ∧ w2.cell? ⟨g, 0, none⟩ = some v ∧
      (w2.setCell ⟨g, 0, none⟩ (.slice (some ⟨gr, 0, none⟩) (q + 1) c)).cell? ⟨g, 0, none⟩ = some (.slice (some ⟨gr, 0, none⟩) (q + 1) c) ∧
      (w2.setCell ⟨g, 0, none⟩ (.slice (some ⟨gr, 0, none⟩) (q + 1) c)).cell? ⟨g, 1, none⟩ = some (.int .i64 N) ∧
      (w2.setCell ⟨g, 0, none⟩ (.slice (some ⟨gr, 0, none⟩) (q + 1) c)).cell? ⟨gr, q, none⟩ = some (.int .u8 0) ∧
      (w2.setCell ⟨g, 0, none⟩ (.slice (some ⟨gr, 0, none⟩) (q + 1) c)).frozen? ⟨gr, q, none⟩ = false ∧
      (∀ u, ((w2.setCell ⟨g, 0, none⟩ (.slice (some ⟨gr, 0, none⟩) (q + 1) c)).setCell ⟨gr, q, none⟩ u).cell? ⟨g, 1, none⟩ = some (.int .i64 N)) ∧
      (∀ u, ((w2.setCell ⟨g, 0, none⟩ (.slice (some ⟨gr, 0, none⟩) (q + 1) c)).setCell ⟨gr, q, none⟩ u).frozen? ⟨g, 1, none⟩ = false) ∧
      (∀ b : BitVec 8, IsV ((w2.setCell ⟨g, 0, none⟩ (.slice (some ⟨gr, 0, none⟩) (q + 1) c)).setCell ⟨gr, q, none⟩ (.int .u8 b.toNat)) base g (.slice (some ⟨gr, 0, none⟩) (q + 1) c) N ((p ++ [0#8]).set q b)) ∧
      (v.ownBlock = some gr ∨ (w.alloc o).heap.size ≤ gr) := by
  have hl : (p ++ [0#8]).length = q + 1 := by rw [List.length_append, hp]; rfl
  obtain ⟨hfr, hc2, hI⟩ := IsV.grown (p2 := p ++ [0#8]) h hk hwh (by rw [hl, u8s_append]; exact ho)
  obtain ⟨gr, c, hv, hne, hcell, hfz, hset⟩ := IsV.elem hI q (by omega)
  rw [hl] at hv
  subst hv
  have HY : (p ++ [0#8]).getD q 0#8 = 0#8 := by rw [List.getD_eq_getElem?_getD, List.getElem?_append_right (by omega), hp]; simp
  rw [HY] at hcell
  exact ⟨gr, c, rfl, hfr, hc2, hI.c0, hI.c1, hcell, hfz, IsV.d1 hI hne q, fun u => IsV.f1 hI hne q u 1, hset, hwh gr rfl⟩
end
theorem IsW.new {w w' : World} {base g : Nat} {v : Value} {L : List Bool} (h : IsW w base g v L) (k : New w w') : IsW w' base g v L := IsV.new h k

theorem New_any (w : World) : Calls Try.prog 44 #[] w fun e w' => e = .returned (.pointer (some ⟨w.heap.size, 0, none⟩)) ∧ New w w' ∧ (∀ base, IsW w' base w.heap.size (.slice none 0 0) []) ∧ w'.heap.size = w.heap.size + 1 := by
  go_enter Try.func44, Try.ntmps44
  go_wp2
  go_ret
  refine ⟨rfl, (Upd.refl _ _).alloc _, fun _ => ⟨heap_alloc_new _ _, World.ownsRow_nil _ _ _ _⟩, by simp⟩

theorem Len_any {w : World} {base g : Nat} {v : Value} {L : List Bool} (h : IsW w base g v L) : Calls Try.prog 26 #[.pointer (some ⟨g, 0, none⟩)] w fun e w' => e = .returned (.int .i64 L.length) ∧ w = w' := by
  have c1 := h.c1
  go_enter Try.func26, Try.ntmps26
  go_wp2
  go_ret
  exact ⟨rfl, rfl⟩
theorem Len_nil (w : World) : Calls Try.prog 26 #[.pointer none] w fun e w' => e = .returned (.int .i64 0) ∧ w = w' := by
  go_enter Try.func26, Try.ntmps26
  go_wp2
  go_ret
  exact ⟨rfl, rfl⟩
theorem Bytes_nil (w : World) : Calls Try.prog 24 #[.pointer none] w fun e w' => e = .returned (.slice none 0 0) ∧ w = w' := by
  go_enter Try.func24, Try.ntmps24
  go_wp2
  go_ret
  exact ⟨rfl, rfl⟩

set_option maxHeartbeats 400000 in
theorem Clone_any (A : Option Addr) (c : Nat) (xs : List (BitVec 8)) (w : World) (hm : xs.length ≤ 140737488351232) (hx : Rd w A (u8s xs)) :
    Calls Try.prog 38 #[.slice A xs.length c] w (RetRow 5 1 xs.length (u8s xs) w) := by
  have hn := Lib.run_eql_slice_nil (P := Try.prog) w 31 5 A xs.length c 0 0 Try.underlying31
  cases A with
  | none =>
    obtain rfl := u8s_nil (rd_none hx rfl)
    replace hn : (binOp BinOp.eql 31 (.slice none 0 c) (.slice none 0 0)).run Try.prog w = .ok (.bool true) w := hn
    go_enter Try.func38, Try.ntmps38
    go_wp2
    go_ret
    exact ⟨_, rfl, World.ownsRow_nil _ _ _ _, .refl _ _⟩
  | some a =>
    have hl0 := own_lit0 w w.heap.size 5 1 (Nat.le_refl _)
    have hs := (hx.new ((Upd.refl _ w).alloc (.cells #[] 5))).src (P := Try.prog) (n := xs.length) (c := c) (size := 1) Try.underlying31 (fun h => by cases h) (by simp [u8s]) (u8s_one xs)
    go_enter Try.func38, Try.ntmps38
    go_wp2_with (at_builtin; refine wpList_appN _ rfl _ _ 31 31 rfl _ 5 (.int .u8 0) 1 1 Try.underlying31 info8 rfl _ _ _ hl0 rfl _ _ _ hs rfl _ ((Upd.refl Nowhere w).alloc _) ?c1 ?c2 ?_; (case c1 => unfold maxLen; omega); (case c2 => omega); intro v' w1 ho hu hk hv)
    go_ret
    simp only [Nat.zero_add, List.nil_append] at ho
    exact ⟨_, rfl, ho, hu⟩
theorem Clone_n (A : Option Addr) (n c : Nat) (xs : List (BitVec 8)) (w : World) (hl : xs.length = n) (hm : n ≤ 140737488351232) (hx : Rd w A (u8s xs)) :
    Calls Try.prog 38 #[.slice A n c] w (RetRow 5 1 n (u8s xs) w) := by subst hl; exact Clone_any A c xs w hm hx
set_option maxHeartbeats 400000 in
theorem Same_any (A A' : Option Addr) (c c' : Nat) (xs ys : List (BitVec 8)) (w : World) (hx : Rd w A (u8s xs)) (hy : Rd w A' (u8s ys)) :
    Calls Try.prog 23 #[.slice A xs.length c, .slice A' ys.length c'] w fun e w' => e = .returned (.bool (decide (xs = ys))) ∧ w = w' := by
  have h1 := conv_str (c := c) Try.underlying31 Try.underlying5 Try.underlying9 hx rfl
  have h2 := conv_str (c := c') Try.underlying31 Try.underlying5 Try.underlying9 hy rfl
  clear hx hy
  go_enter Try.func23, Try.ntmps23
  go_wp2
  go_ret
  exact ⟨congrArg (fun b => Ending.returned (.bool b)) (strOf_beq xs ys), rfl⟩
theorem Same_n (A A' : Option Addr) (n n' c c' : Nat) (xs ys : List (BitVec 8)) (w : World) (hl : xs.length = n) (hl' : ys.length = n') (hx : Rd w A (u8s xs)) (hy : Rd w A' (u8s ys)) :
    Calls Try.prog 23 #[.slice A n c, .slice A' n' c'] w fun e w' => e = .returned (.bool (decide (xs = ys))) ∧ w = w' := by subst hl; subst hl'; exact Same_any A A' c c' xs ys w hx hy

theorem Bytes_any {w : World} {base g : Nat} {v : Value} {L : List Bool} (h : IsW w base g v L) (hm : L.length ≤ 2000000) : Calls Try.prog 24 #[.pointer (some ⟨g, 0, none⟩)] w (RetRow 5 1 (Bi.nbytes L) (u8s (Bi.pack L)) w) := by
  have c0 := h.c0
  obtain ⟨A, c, rfl, hc, _, hr, _⟩ := own_rd h.row
  have hl : (Bi.pack L).length = Bi.nbytes L := Bi.pack_length L
  have hb : Bi.nbytes L ≤ 2000000 := by unfold Bi.nbytes; omega
  rw [hl] at hc c0
  generalize Bi.nbytes L = n at *
  generalize Bi.pack L = P at *
  clear h
  go_enter Try.func24, Try.ntmps24
  go_wp2_with (go_at_call 38; (with_reducible refine (Clone_n A n c P _ hl (by omega) hr).mono ?_); rintro e w1 ⟨v1, rfl, ho1, hu1⟩; dsimp only)
  go_ret
  exact ⟨_, rfl, ho1, hu1⟩
end Go.Proofs.Ytpfdbkfjjjiamaa
