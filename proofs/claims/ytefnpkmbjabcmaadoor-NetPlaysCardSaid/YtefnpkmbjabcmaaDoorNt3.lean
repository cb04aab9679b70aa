/- Datagrams in a bag: walked. -/
import Derived.Test.YtefnpkmbjabcmaaDoorNt2
import Derived.Handy
import Derived.Laws.ResultCell
namespace Go.Proofs.YtefnpkmbjabcmaaDoor
open Go.RowKit

/-- a datagram: to whom; its frame, as a slice and as bytes -/
structure It where
  to : Int
  v : Value
  fr : List (BitVec 8)
def It.okT (x : It) : Prop := -9223372036854775808 ≤ x.to ∧ x.to ≤ 9223372036854775807
/-- its frame lies in memory -/
def It.In (w : World) (x : It) : Prop := w.ownsRow 0 5 1 x.v x.fr.length (u8s x.fr)
def outs (xs : List It) : List Value := xs.flatMap fun x => [.int .i64 x.to, x.v]
/-- a bag at block g with room for most; its list lies in v -/
structure IsBag (w : World) (g : Nat) (v : Value) (most : Nat) (xs : List It) : Prop where
  obj : w.heap[g]? = some (.cells #[.int .i64 most, v] 67 (0, 0))
  row : w.ownsRow 0 36 2 v xs.length (outs xs)
  frs : ∀ x ∈ xs, x.In w

theorem outs_append (xs ys : List It) : outs (xs ++ ys) = outs xs ++ outs ys := by simp [outs]
theorem outs_length (xs : List It) : (outs xs).length = xs.length * 2 := by
  induction xs with
  | nil => rfl
  | cons x xs ih => simp only [outs, List.flatMap_cons, List.length_append, List.length_cons, List.length_nil] at ih ⊢; omega
theorem outs_drop (xs : List It) (n : Nat) : outs (xs.drop n) = (outs xs).drop (n * 2) := by
  induction xs generalizing n with
  | nil => simp [outs]
  | cons x xs ih =>
    cases n with
    | zero => simp
    | succ n => rw [List.drop_succ_cons, ih, show (n + 1) * 2 = n * 2 + 1 + 1 by omega]; rfl
theorem outs_take (xs : List It) (n : Nat) : outs (xs.take n) = (outs xs).take (n * 2) := by
  induction xs generalizing n with
  | nil => simp [outs]
  | cons x xs ih =>
    cases n with
    | zero => simp [outs]
    | succ n => rw [List.take_succ_cons, show (n + 1) * 2 = n * 2 + 1 + 1 by omega]; simp only [outs, List.flatMap_cons] at ih ⊢; rw [ih]; rfl
theorem outs_at (xs : List It) (i : Nat) (h : i < xs.length) : (outs xs)[2 * i]? = some (.int .i64 xs[i].to) ∧ (outs xs)[2 * i + 1]? = some xs[i].v := by
  have e := outs_drop xs i
  rw [List.drop_eq_getElem_cons h] at e
  have e2 : outs (xs[i] :: xs.drop (i + 1)) = [.int .i64 xs[i].to, xs[i].v] ++ outs (xs.drop (i + 1)) := rfl
  rw [e2] at e
  have a := congrArg (fun l => l[0]?) e
  have b := congrArg (fun l => l[1]?) e
  simp only [List.getElem?_drop, List.cons_append, List.getElem?_cons_zero, List.getElem?_cons_succ, List.nil_append, Nat.add_zero] at a b
  exact ⟨by rw [Nat.mul_comm 2]; exact a.symm, by rw [Nat.mul_comm 2]; exact b.symm⟩
theorem In.slice {w : World} {x : It} (h : x.In w) : ∃ A c, x.v = .slice A x.fr.length c ∧ x.fr.length ≤ c ∧ c ≤ maxLen ∧ Rd w A (u8s x.fr) ∧ (A = none → x.fr.length = 0) := by
  obtain ⟨A, c, hv, h1, h2, hr, _⟩ := own_rd h
  refine ⟨A, c, hv, h1, h2, hr, fun hA => ?_⟩
  subst hA
  have := rd_none hr rfl
  rw [u8s_nil this]; rfl
theorem outs_one {w : World} (xs : List It) (h : ∀ x ∈ xs, x.In w) : ∀ u ∈ outs xs, u.oneCell' = true := by
  intro u hu
  obtain ⟨x, hx, hux⟩ := List.mem_flatMap.1 hu
  rcases List.mem_cons.1 hux with rfl | hux
  · rfl
  · rcases List.mem_cons.1 hux with rfl | hux
    · obtain ⟨A, c, hv, _⟩ := In.slice (h x hx); rw [hv]; rfl
    · cases hux

section
variable {w w' : World} {g most : Nat} {v : Value} {xs : List It}
theorem IsBag.c0 (h : IsBag w g v most xs) : w.cell? ⟨g, 0, none⟩ = some (.int .i64 most) := by rw [World.cell?, h.obj]; rfl
theorem IsBag.c1 (h : IsBag w g v most xs) : w.cell? ⟨g, 1, none⟩ = some v := by rw [World.cell?, h.obj]; rfl
theorem IsBag.fz (h : IsBag w g v most xs) (o : Nat) : w.frozen? ⟨g, o, none⟩ = false := by simp [World.frozen?, h.obj]
theorem obj_apart {base g e e' size n : Nat} {v : Value} {cs : Array Value} {ys : List Value} (ho : w.heap[g]? = some (.cells cs e (0, 0))) (h : w.ownsRow base e' size v n ys) (hne : e' ≠ e) : ¬ v.ownBlock = some g := by
  intro hb
  obtain ⟨hl, ⟨rfl, _⟩ | ⟨g', cap, cur, rfl, hg, hh, r⟩⟩ := h
  · cases hb
  · simp only [Value.ownBlock, Option.some.injEq] at hb
    subst hb
    rw [ho] at hh
    injection hh with hh
    injection hh with _ hh
    exact hne hh.symm
theorem IsBag.apart (h : IsBag w g v most xs) : ¬ v.ownBlock = some g := obj_apart h.obj h.row (by decide)
theorem IsBag.upd {S : Nat → Prop} (h : IsBag w g v most xs) (k : Upd S w w') (h1 : ¬ S g) (h2 : ∀ b, v.ownBlock = some b → ¬ S b) (h3 : ∀ x ∈ xs, ∀ b, x.v.ownBlock = some b → ¬ S b) : IsBag w' g v most xs :=
  ⟨k.blk h.obj h1, own_upd h.row k h2, fun x hx => own_upd (h.frs x hx) k (h3 x hx)⟩
theorem IsBag.new (h : IsBag w g v most xs) (k : New w w') : IsBag w' g v most xs := h.upd k (fun q => q) (fun _ _ q => q) (fun _ _ _ _ q => q)
theorem In.new {w w' : World} {x : It} (h : x.In w) (k : New w w') : x.In w' := own_new h k
theorem IsBag.slice (h : IsBag w g v most xs) : ∃ A c, v = .slice A xs.length c ∧ xs.length ≤ c ∧ c ≤ maxLen ∧ Rd w A (outs xs) := by
  obtain ⟨A, c, hv, h1, h2, hr, _⟩ := own_rd h.row
  exact ⟨A, c, hv, h1, h2, hr⟩
theorem IsBag.item (h : IsBag w g v most xs) (i : Nat) (hi : i < xs.length) : ∃ gl c, v = .slice (some ⟨gl, 0, none⟩) xs.length c ∧ xs.length ≤ c ∧ c ≤ maxLen ∧ gl ≠ g ∧ w.cell? ⟨gl, i * 2, none⟩ = some (.int .i64 xs[i].to) ∧ w.cell? ⟨gl, i * 2 + 1, none⟩ = some xs[i].v ∧ xs[i].In w := by
  obtain ⟨gl, c, hv, _, _, hc, hm, hr⟩ := own_some h.row (by omega)
  have ha := h.apart
  refine ⟨gl, c, hv, hc, hm, fun e => ha (by rw [hv, e]; rfl), ?_, ?_, h.frs _ (List.getElem_mem hi)⟩
  all_goals
    rcases hr with h0 | ⟨b, off, hA, hcl⟩
    · have := outs_length xs; rw [h0] at this; simp at this; omega
    · simp only [Option.some.injEq, Addr.mk.injEq, and_true] at hA
      obtain ⟨rfl, rfl⟩ := hA
      have e := outs_at xs i hi
      first
        | (have := hcl _ _ e.1; rw [Nat.zero_add, Nat.mul_comm] at this; exact this)
        | (have := hcl _ _ e.2; rw [Nat.zero_add, Nat.mul_comm] at this; exact this)
/-- what a call does to a bag's block and row -/
structure BagWrote (g : Nat) (v v' : Value) (w w' : World) : Prop where
  upd : Upd (fun b => b = g ∨ v.ownBlock = some b) w w'
  at_ : ∀ b, v'.ownBlock = some b → v.ownBlock = some b ∨ w.heap.size ≤ b
end

theorem NetNew_any (n : Int) (w : World) (h1 : -9223372036854775808 ≤ n) (h2 : n ≤ 9223372036854775807) :
    Calls Tryd.prog 11 #[.int .i64 n] w fun e w' => if n < 1 ∨ n > 2048 then e = .returned (.tuple #[.pointer none, .int .i64 1]) ∧ w' = w else
      e = .returned (.tuple #[.pointer (some ⟨w.heap.size, 0, none⟩), .int .i64 0]) ∧ New w w' ∧ IsBag w' w.heap.size (.slice none 0 0) n.toNat [] := by
  by_cases hn : n < 1 ∨ n > 2048
  · simp only [if_pos hn]
    by_cases h : n < 1
    · clear hn
      go_enter Tryd.func11, Tryd.ntmps11
      go_wp2
      go_ret2
      exact ⟨rfl, rfl⟩
    · have hg : 2048 < n := by omega
      clear hn
      go_enter Tryd.func11, Tryd.ntmps11
      go_wp2
      go_ret2
      exact ⟨rfl, rfl⟩
  · simp only [if_neg hn]
    obtain ⟨m, rfl⟩ := Int.eq_ofNat_of_zero_le (show 0 ≤ n by omega)
    have e1 : ¬ (m : Int) < 1 := by omega
    have e2 : ¬ (2048 : Int) < (m : Int) := by omega
    clear hn
    go_enter Tryd.func11, Tryd.ntmps11
    go_wp2
    go_ret2
    exact ⟨rfl, (Upd.refl _ _).alloc _, ⟨heap_alloc_new _ _, World.ownsRow_nil _ _ _ _, fun x hx => by cases hx⟩⟩
theorem BagLen_any {w : World} {g most : Nat} {v : Value} {xs : List It} (h : IsBag w g v most xs) : Calls Tryd.prog 13 #[.pointer (some ⟨g, 0, none⟩)] w fun e w' => e = .returned (.int .i64 xs.length) ∧ w = w' := by
  have c1 := h.c1
  obtain ⟨A, c, rfl, _⟩ := h.slice
  clear h
  go_enter Tryd.func13, Tryd.ntmps13
  go_wp2
  go_ret
  exact ⟨rfl, rfl⟩
theorem BagLen_nil (w : World) : Calls Tryd.prog 13 #[.pointer none] w fun e w' => e = .returned (.int .i64 0) ∧ w = w' := by
  go_enter Tryd.func13, Tryd.ntmps13
  go_wp2
  go_ret
  exact ⟨rfl, rfl⟩
theorem has_any {w : World} {g most : Nat} {v : Value} {xs : List It} (h : IsBag w g v most xs) (i : Int) : Calls Tryd.prog 30 #[.pointer (some ⟨g, 0, none⟩), .int .i64 i] w fun e w' => e = .returned (.bool (decide (0 ≤ i ∧ i < xs.length))) ∧ w = w' := by
  have c1 := h.c1
  obtain ⟨A, c, rfl, _⟩ := h.slice
  clear h
  by_cases h0 : 0 ≤ i <;> by_cases h1 : i < xs.length
  all_goals
    go_enter Tryd.func30, Tryd.ntmps30
    go_wp2
    go_ret
    exact ⟨by simp [h0, h1], rfl⟩
theorem has_nil (w : World) (i : Int) : Calls Tryd.prog 30 #[.pointer none, .int .i64 i] w fun e w' => e = .returned (.bool false) ∧ w = w' := by
  go_enter Tryd.func30, Tryd.ntmps30
  go_wp2
  go_ret
  exact ⟨rfl, rfl⟩
/-- a datagram of its own -/
def RetOut (to : Int) (fr : List (BitVec 8)) (w : World) (e : Ending) (w' : World) : Prop := ∃ v, e = .returned (.agg #[.int .i64 to, v]) ∧ w'.ownsRow w.heap.size 5 1 v fr.length (u8s fr) ∧ New w w'
theorem heap_two (w : World) (o1 o2 : Obj) : ((w.alloc o1).alloc o2).drew.heap[w.heap.size + 1]? = some o2 := by
  have := heap_alloc_new (w.alloc o1) o2
  rwa [show (w.alloc o1).heap.size = w.heap.size + 1 by simp] at this
theorem set_two {w : World} {B : Nat} {a b : Value} (h : w.heap[B]? = some (.cells #[a, b] 36 (0, 0))) (x y : Value) : ((w.setCell ⟨B, 0, none⟩ x).setCell ⟨B, 1, none⟩ y).heap[B]? = some (.cells #[x, y] 36 (0, 0)) :=
  heap_setCell_same _ B 1 _ _ y (heap_setCell_same _ B 0 _ _ x h)
theorem out_cells {w : World} {B : Nat} {a b : Value} (h : w.heap[B]? = some (.cells #[a, b] 36 (0, 0))) : w.cell? ⟨B, 0, none⟩ = some a ∧ w.cell? ⟨B, 1, none⟩ = some b :=
  ⟨by rw [World.cell?, h]; rfl, by rw [World.cell?, h]; rfl⟩
theorem out_fz {w : World} {B : Nat} {a b : Value} (h : w.heap[B]? = some (.cells #[a, b] 36 (0, 0))) (o : Nat) : w.frozen? ⟨B, o, none⟩ = false := by simp [World.frozen?, h]
theorem out_cells2 {w : World} {B B' : Nat} {a b a' b' : Value} (h : w.heap[B]? = some (.cells #[a, b] 36 (0, 0))) (h' : w.heap[B']? = some (.cells #[a', b'] 36 (0, 0))) :
    w.cell? ⟨B, 0, none⟩ = some a ∧ w.cell? ⟨B, 1, none⟩ = some b ∧ w.cell? ⟨B', 0, none⟩ = some a' ∧ w.cell? ⟨B', 1, none⟩ = some b' ∧ w.frozen? ⟨B', 0, none⟩ = false ∧ w.frozen? ⟨B', 1, none⟩ = false :=
  ⟨(out_cells h).1, (out_cells h).2, (out_cells h').1, (out_cells h').2, out_fz h' 0, out_fz h' 1⟩
set_option maxHeartbeats 1000000 in
theorem twin_any (to : Int) (A : Option Addr) (n c : Nat) (fr : List (BitVec 8)) (w : World) (hl : fr.length = n) (hm : n ≤ 140737488351232) (hx : Rd w A (u8s fr)) :
    Calls Tryd.prog 29 #[.agg #[.int .i64 to, .slice A n c]] w (RetOut to fr w) := by
  go_enter Tryd.func29, Tryd.ntmps29
  go_wp2
  have hd : New w ((w.alloc (.cells #[.int .i64 to, .slice A n c] 36)).alloc (.cells #[.int .i64 0, .slice none 0 0] 36)) := ((Upd.refl _ _).alloc _).alloc _
  have hx2 := (hx.new hd).new (Upd.refl _ _).drew
  have hb1 : ((w.alloc (.cells #[.int .i64 to, .slice A n c] 36)).alloc (.cells #[.int .i64 0, .slice none 0 0] 36)).drew.heap[w.heap.size]? = some (.cells #[.int .i64 to, .slice A n c] 36 (0, 0)) :=
    ((Upd.refl Nowhere _).alloc _).drew.blk (heap_alloc_new _ _) (fun q => q)
  have hb2 : ((w.alloc (.cells #[.int .i64 to, .slice A n c] 36)).alloc (.cells #[.int .i64 0, .slice none 0 0] 36)).drew.heap[w.heap.size + 1]? = some (.cells #[.int .i64 0, .slice none 0 0] 36 (0, 0)) := heap_two w _ _
  have hsz : ((w.alloc (.cells #[.int .i64 to, .slice A n c] 36)).alloc (.cells #[.int .i64 0, .slice none 0 0] 36)).drew.heap.size = w.heap.size + 2 := by simp
  have hdd := hd.drew
  generalize ((w.alloc (.cells #[.int .i64 to, .slice A n c] 36)).alloc (.cells #[.int .i64 0, .slice none 0 0] 36)) = w1 at *
  obtain ⟨k0, k1, k2, k3, k4, k5⟩ := out_cells2 hb1 hb2
  go_region_with ((go_at_call 25; (with_reducible refine (Clone_n A n c fr _ hl hm hx2).mono ?_); rintro e w2 ⟨v2, rfl, ho2, hu2⟩; obtain ⟨A2, c2, rfl, _⟩ := own_rd ho2; obtain ⟨m0, m1, m2, m3, m4, m5⟩ := out_cells2 (hu2.blk hb1 (fun q => q)) (hu2.blk hb2 (fun q => q)); dsimp only))
  all_goals
    go_wp2
    refine bodyPost_ret (results_cell_row Tryd.results29 _ _ (w.heap.size + 1) 36 _ (0, 0) _ rfl (set_two (hu2.blk hb2 (fun q => q)) _ _) Tryd.underlying36 rfl (by kernel_rfl)) rfl ?_
    have hlt : w.heap.size + 1 < w1.drew.heap.size := by omega
    refine ⟨_, rfl, ?_, ((hdd.trans hu2).setCell (p := ⟨w.heap.size + 1, 0, none⟩) (.inr (by simp)) _).setCell (p := ⟨w.heap.size + 1, 1, none⟩) (.inr (by simp)) _⟩
    rw [hl]
    exact own_upd (own_upd (own_lower ho2 (by omega)) (Upd.set1 _ _ _) (fun b hb q => by have := own_ge ho2 b hb; have : b = w.heap.size + 1 := q; omega)) (Upd.set1 _ _ _) (fun b hb q => by have := own_ge ho2 b hb; have : b = w.heap.size + 1 := q; omega)
end Go.Proofs.YtefnpkmbjabcmaaDoor
