/- The law's examples; NetTurns, NetOrder: walked. -/
import Derived.Test.YtefnpkmbjabcmaaDoorNt6
import Derived.Handy
namespace Go.Proofs.YtefnpkmbjabcmaaDoor
open Go.RowKit

theorem NetNew_n (m : Nat) (w : World) (h1 : 1 ≤ m) (h2 : m ≤ 2048) (M : Int) (hM : (m : Int) = M) :
    Calls Tryd.prog 11 #[.int .i64 M] w fun e w' => e = .returned (.tuple #[.pointer (some ⟨w.heap.size, 0, none⟩), .int .i64 0]) ∧ New w w' ∧ IsBag w' w.heap.size (.slice none 0 0) m [] := by
  subst hM
  refine (NetNew_any m w (by omega) (by omega)).mono fun e w' h => ?_
  simp only [show ¬ ((m : Int) < 1 ∨ (m : Int) > 2048) by omega, if_false, Int.toNat_natCast] at h
  exact h
/-- a bag that the call itself has made since w0 -/
structure Held (w0 w : World) (g : Nat) (v : Value) (most : Nat) (xs : List It) : Prop where
  new : New w0 w
  bag : IsBag w g v most xs
  ge : w0.heap.size ≤ g
  own : ∀ b, v.ownBlock = some b → w0.heap.size ≤ b
theorem Held.step {w0 w w' : World} {g most : Nat} {v v' : Value} {xs ys : List It} (h : Held w0 w g v most xs) (hb : IsBag w' g v' most ys) (hW : BagWrote g v v' w w') : Held w0 w' g v' most ys :=
  ⟨h.new.then hW.upd (fun b hb => .inr (hb.elim (fun e => e ▸ h.ge) (h.own b))), hb, h.ge, fun b hb => (hW.at_ b hb).elim (h.own b) (fun q => Nat.le_trans h.new.size q)⟩
theorem Held.next {w0 w w' : World} {g most : Nat} {v : Value} {xs : List It} (h : Held w0 w g v most xs) (k : New w w') : Held w0 w' g v most xs := ⟨h.new.trans k, h.bag.new k, h.ge, h.own⟩
theorem Held.made {w0 w' : World} {m : Nat} (hn : New w0 w') (h : IsBag w' w0.heap.size (.slice none 0 0) m []) : Held w0 w' w0.heap.size (.slice none 0 0) m [] := ⟨hn, h, Nat.le_refl _, fun b hb => by cases hb⟩
theorem rd_new1 (w : World) (o : Obj) (cs : List Value) (e : TypeId) (fz : Nat × Nat := (0, 0)) : Rd ((w.alloc o).alloc (.cells cs.toArray e fz)) (some ⟨w.heap.size + 1, 0, none⟩) cs := by
  have := rd_new (w.alloc o) cs e fz
  rwa [show (w.alloc o).heap.size = w.heap.size + 1 by simp] at this
theorem ex_a (w : World) (o : Obj) : Rd ((w.alloc o).alloc (.cells #[.int .u8 0, .int .u8 0] 5)) (some ⟨w.heap.size + 1, 0, none⟩) (u8s [0#8, 0#8]) := rd_new1 w o (u8s [0#8, 0#8]) _
theorem ex_b (w : World) : Rd (w.alloc (.cells #[.int .u8 128, .int .u8 1] 5)) (some ⟨w.heap.size, 0, none⟩) (u8s [128#8, 1#8]) := rd_new w (u8s [128#8, 1#8]) _
theorem rd_nil8 (w : World) (A : Option Addr) : Rd w A (u8s []) := .inl rfl
theorem Peek_I {w : World} {g most : Nat} {v : Value} {xs : List It} (h : IsBag w g v most xs) (i : Nat) (hi : i < xs.length) (hsz : xs.length ≤ 4096) (x : It) (hx : xs[i]? = some x) (hfr : x.fr.length ≤ 140737488351232) (I : Int) (hI : (i : Int) = I) :
    Calls Tryd.prog 14 #[.pointer (some ⟨g, 0, none⟩), .int .i64 I] w (RetOutE x.to x.fr 0 w) := by subst hI; exact Peek_ok h i hi hsz x hx hfr
theorem Take_I {w : World} {g most : Nat} {v : Value} {xs : List It} (h : IsBag w g v most xs) (i : Nat) (hi : i < xs.length) (hsz : xs.length ≤ 4096) (x : It) (hx : xs[i]? = some x) (hfr : x.fr.length ≤ 140737488351232) (I : Int) (hI : (i : Int) = I) :
    Calls Tryd.prog 16 #[.pointer (some ⟨g, 0, none⟩), .int .i64 I] w fun e w' => ∃ vr v', e = .returned (.tuple #[.agg #[.int .i64 x.to, vr], .int .i64 0]) ∧ w'.ownsRow w.heap.size 5 1 vr x.fr.length (u8s x.fr) ∧ IsBag w' g v' most (xs.take i ++ xs.drop (i + 1)) ∧ BagWrote g v v' w w' := by subst hI; exact Take_ok h i hi hsz x hx hfr
theorem Drop_I {w : World} {g most : Nat} {v : Value} {xs : List It} (h : IsBag w g v most xs) (i : Nat) (hi : i < xs.length) (hsz : xs.length ≤ 4096) (x : It) (hx : xs[i]? = some x) (hfr : x.fr.length ≤ 140737488351232) (I : Int) (hI : (i : Int) = I) :
    Calls Tryd.prog 22 #[.pointer (some ⟨g, 0, none⟩), .int .i64 I] w fun e w' => ∃ v', e = .returned (.int .i64 0) ∧ IsBag w' g v' most (xs.take i ++ xs.drop (i + 1)) ∧ BagWrote g v v' w w' := by subst hI; exact Drop_ok h i hi hsz x hx hfr
theorem Copy_I {w : World} {g most : Nat} {v : Value} {xs : List It} (h : IsBag w g v most xs) (hm : xs.length < most) (hmm : most ≤ 4096) (i : Nat) (hi : i < xs.length) (hsz : xs.length ≤ 4096) (x : It) (hx : xs[i]? = some x) (hfr : x.fr.length ≤ 140737488351232) (I : Int) (hI : (i : Int) = I) :
    Calls Tryd.prog 15 #[.pointer (some ⟨g, 0, none⟩), .int .i64 I] w fun e w' => e = .returned (.int .i64 0) ∧ ∃ v' y, y.to = x.to ∧ y.fr = x.fr ∧ (∀ b, y.v.ownBlock = some b → w.heap.size ≤ b) ∧ IsBag w' g v' most (xs ++ [y]) ∧ BagWrote g v v' w w' := by subst hI; exact Copy_ok h hm hmm i hi x hx hfr
theorem BagLen_e {w : World} {g most : Nat} {v : Value} {xs : List It} (h : IsBag w g v most xs) (n : Nat) (hn : xs.length = n) (E : Int) (hE : (n : Int) = E) : Calls Tryd.prog 13 #[.pointer (some ⟨g, 0, none⟩)] w fun e w' => e = .returned (.int .i64 E) ∧ w = w' := by subst hE; subst hn; exact BagLen_any h
theorem Turned_P (A : Option Addr) (n c : Nat) (xs : List (BitVec 8)) (a : Int) (pat : Nat) (w : World) (hl : xs.length = n) (hm : n ≤ 200000) (hx : Rd w A (u8s xs))
    (ha : -9223372036854775808 ≤ a ∧ a ≤ 9223372036854775807) (hp : pat < 4294967296) (ht : IsTab w) (P : Int) (hP : (pat : Int) = P) (ys : List (BitVec 8)) (hy : Nt.turned xs a pat = ys) :
    Calls Tryd.prog 8 #[.slice A n c, .int .i64 a, .int .u32 P] w (RetRow 5 1 n (u8s ys) w) := by subst hP; subst hy; exact Turned_any A n c xs a pat w hl hm hx ha hp ht
theorem turned_ex : Nt.turned [0#8, 0#8] 7 3 = [128#8, 1#8] := by decide
set_option maxHeartbeats 4000000 in
theorem awake_any (w : World) (ht : IsTab w) : Calls Tryd.prog 7 #[] w fun e w' => e = .returned (.bool true) ∧ New w w' := by
  have HNw := Bx.mk (NetNew_n 9 w (by decide) (by decide) 9 rfl)
  have HT := Bx.mk turned_ex
  go_enter Tryd.func7, Tryd.ntmps7
  repeat' (first | (first
    | (have _m := hH6; (go_at_call 9; (with_reducible refine (Same_n _ _ 2 2 _ _ [128#8, 1#8] [128#8, 1#8] _ rfl rfl (hr8.new ((Upd.refl _ w8).alloc _)) (ex_b w8)).mono ?_); rintro e w9 ⟨rfl, rfl⟩; dsimp only))
    | (have _m := hH6; (go_at_call 8; (with_reducible refine (Turned_P (some ⟨w6.heap.size + 1, 0, none⟩) 2 2 [0#8, 0#8] 7 3 _ rfl (by decide) (ex_a w6 _) (by decide) (by decide) (ht.new (hH6.new.alloc _)) 3 rfl _ HT.out).mono ?_); rintro e w8 ⟨v8, rfl, ho8, hu8⟩; obtain ⟨A8, c8, rfl, _, _, hr8, _⟩ := own_rd ho8; have hH8 := (hH6.next ((Upd.refl _ _).alloc (.cells #[.int .u8 0, .int .u8 0] 5))).next hu8; dsimp only))
    | (have _m := hH4; (go_at_call 13; (with_reducible refine (BagLen_e hH6.bag 2 rfl 2 rfl).mono ?_); rintro e w7 ⟨rfl, rfl⟩; dsimp only))
    | (have _m := hH4; (go_at_call 14; (with_reducible refine (Peek_I hH4.bag 1 (by simp) (by simp) y3 rfl (by rw [hf3, hf1]; decide) 1 rfl).mono ?_); rintro e w6 ⟨vp, rfl, hop, hu6⟩; obtain ⟨Ap, cp, rfl, _⟩ := own_rd hop; have hH6 := (hH4.next hu6).next ((Upd.refl _ w6).alloc (.cells #[.int .i64 1, .slice Ap 0 cp] 36)); dsimp only))
    | (have _m := hH3; (go_at_call 22; (with_reducible refine (Drop_I hH3.bag 0 (by simp) (by simp) y1 rfl (by rw [hf1]; decide) 0 rfl).mono ?_); rintro e w5 ⟨v4, rfl, hB4, hW4⟩; have hH4 := hH3.step hB4 hW4; dsimp only))
    | (have _m := hH2; (go_at_call 15; (with_reducible refine (Copy_I hH2.bag (by simp) (by decide) 0 (by simp) (by simp) y1 rfl (by rw [hf1]; decide) 0 rfl).mono ?_); rintro e w4 ⟨rfl, v3, y3, ht3, hf3, -, hB3, hW3⟩; have hH3 := hH2.step hB3 hW3; dsimp only))
    | (have _m := hH1; (go_at_call 12; (with_reducible refine (Put_ok hH1.bag (by simp) (by decide) _ 2 none 0 0 [] rfl rfl (by decide) (rd_nil8 _ _)).mono ?_); rintro e w3 ⟨rfl, v2, y2, ht2, hf2, -, hB2, hW2⟩; have hH2 := hH1.step hB2 hW2; dsimp only))
    | (go_at_call 12; (with_reducible refine (Put_ok hH0.bag (by decide) (by decide) _ 1 none 0 0 [] rfl rfl (by decide) (rd_nil8 _ _)).mono ?_); rintro e w2 ⟨rfl, v1, y1, ht1, hf1, -, hB1, hW1⟩; have hH1 := hH0.step hB1 hW1; dsimp only)
    | (go_at_call 11; (with_reducible refine (HNw.out).mono ?_); rintro e w1 ⟨rfl, hu0, hB0⟩; have hH0 := Held.made hu0 hB0; dsimp only)) | go_values | go_skip | go_guarded | go_step | go_upon | go_back)
  go_ret
  exact ⟨rfl, hH8.new.alloc _⟩
end Go.Proofs.YtefnpkmbjabcmaaDoor
