/- Patch: what is said of it; sizes. -/
import Derived.Test.YtdnkdmdmekdfkaaDf13
namespace Go.Proofs.Ytdnkdmdmekdfkaa
open Go.RowKit
theorem mrg_small : ∀ (a b : List Et), (mrg a b).gone.length ≤ a.length ∧ (mrg a b).come.length ≤ b.length ∧ (mrg a b).chg.length ≤ a.length ∧ (∀ x ∈ (mrg a b).come, x ∈ b) ∧ (∀ c ∈ (mrg a b).chg, ∃ x ∈ a, ∃ n ∈ b, c = chgP x n) := by
  intro a b
  induction a, b using mrg.induct with
  | case1 => rw [mrg]; simp
  | case2 x a ih => rw [mrg]; obtain ⟨h1, h2, h3, h4, h5⟩ := ih; refine ⟨by simpa using h1, h2, by simp; omega, h4, fun c hc => ?_⟩; obtain ⟨x, _, n, hn, _⟩ := h5 c hc; cases hn
  | case3 n b ih =>
    rw [mrg]
    obtain ⟨h1, h2, h3, h4, h5⟩ := ih
    refine ⟨h1, by simpa using h2, h3, fun x hx => ?_, fun c hc => ?_⟩
    · rcases List.mem_cons.1 hx with rfl | hx
      · exact List.mem_cons_self ..
      · exact List.mem_cons_of_mem _ (h4 x hx)
    · obtain ⟨x, hx, _⟩ := h5 c hc; cases hx
  | case4 x a n b hlt ih =>
    rw [mrg, if_pos hlt]
    obtain ⟨h1, h2, h3, h4, h5⟩ := ih
    refine ⟨by simpa using h1, h2, by simp; omega, h4, fun c hc => ?_⟩
    obtain ⟨x, hx, n, hn, e⟩ := h5 c hc
    exact ⟨x, List.mem_cons_of_mem _ hx, n, hn, e⟩
  | case5 x a n b h1' h2' ih =>
    rw [mrg, if_neg h1', if_pos h2']
    obtain ⟨h1, h2, h3, h4, h5⟩ := ih
    refine ⟨h1, by simpa using h2, h3, fun x hx => ?_, fun c hc => ?_⟩
    · rcases List.mem_cons.1 hx with rfl | hx
      · exact List.mem_cons_self ..
      · exact List.mem_cons_of_mem _ (h4 x hx)
    · obtain ⟨x, hx, n, hn, e⟩ := h5 c hc
      exact ⟨x, hx, n, List.mem_cons_of_mem _ hn, e⟩
  | case6 x a n b h1' h2' hz ih =>
    rw [mrg, if_neg h1', if_neg h2']
    simp only [hz, if_true]
    obtain ⟨h1, h2, h3, h4, h5⟩ := ih
    refine ⟨by simp; omega, by simp; omega, by simp; omega, fun x hx => List.mem_cons_of_mem _ (h4 x hx), fun c hc => ?_⟩
    obtain ⟨x, hx, n, hn, e⟩ := h5 c hc
    exact ⟨x, List.mem_cons_of_mem _ hx, n, List.mem_cons_of_mem _ hn, e⟩
  | case7 x a n b h1' h2' hz ih =>
    rw [mrg, if_neg h1', if_neg h2']
    simp only [hz, if_false]
    obtain ⟨h1, h2, h3, h4, h5⟩ := ih
    refine ⟨by simp; omega, by simp; omega, by simpa using h3, fun x hx => List.mem_cons_of_mem _ (h4 x hx), fun c hc => ?_⟩
    rcases List.mem_cons.1 hc with rfl | hc
    · exact ⟨x, List.mem_cons_self .., n, List.mem_cons_self .., rfl⟩
    · obtain ⟨x, hx, n, hn, e⟩ := h5 c hc
      exact ⟨x, List.mem_cons_of_mem _ hx, n, List.mem_cons_of_mem _ hn, e⟩
theorem mrg_smD {a b : List Et} (ha : a.length ≤ 1000) (hb : b.length ≤ 1000) (hs : Sm b) : SmD (mrg a b) := by
  obtain ⟨h1, h2, h3, h4, h5⟩ := mrg_small a b
  refine ⟨by omega, by omega, by omega, fun x hx => hs x (h4 x hx), fun c hc => ?_⟩
  obtain ⟨x, _, n, hn, rfl⟩ := h5 c hc
  have := (hs n hn).len
  exact ⟨Nat.le_trans (List.length_filter_le _ _) this, Nat.le_trans (List.length_filter_le _ _) this⟩
theorem diffD_smD {a b : List Et} (ha : a.length ≤ 1000) (hb : b.length ≤ 1000) (hs : Sm b) : SmD (diffD a b) := by
  unfold diffD
  split
  · exact mrg_smD ha hb hs
  · exact ⟨by simp, by simp, by simp, fun x hx => by simp at hx, fun x hx => by simp at hx⟩
/-- what becomes of one that stays -/
def PRel (D : Dl) (x y : Et) : Prop := y.1 = x.1 ∧ match D.chg.find? (fun c => c.id == x.1) with
  | none => y.2 = x.2
  | some c => (turnL x.2 c).Perm y.2 ∧ y.2.Pairwise (fun p q => p.k ≤ q.k)
def PR (D : Dl) : List Et → List Et → Prop
  | [], [] => True
  | x :: F, y :: Y => PRel D x y ∧ PR D F Y
  | _, _ => False
theorem PR.snoc {D : Dl} : ∀ {F Y : List Et} {x y : Et}, PR D F Y → PRel D x y → PR D (F ++ [x]) (Y ++ [y])
  | [], [], _, _, _, k => ⟨k, trivial⟩
  | _ :: _, _ :: _, _, _, h, k => ⟨h.1, PR.snoc h.2 k⟩
  | [], _ :: _, _, _, h, _ => h.elim
  | _ :: _, [], _, _, h, _ => h.elim
def stays (D : Dl) (L : List Et) : List Et := L.filter fun x => !decide (x.1 ∈ D.gone)
theorem stays_take (D : Dl) (L : List Et) (j : Nat) (h : j < L.length) : stays D (L.take (j + 1)) = stays D (L.take j) ++ (if decide (L[j].1 ∈ D.gone) = true then [] else [L[j]]) := by
  unfold stays
  rw [List.take_succ_eq_append_getElem h, List.filter_append, List.filter_cons, List.filter_nil]
  cases decide (L[j].1 ∈ D.gone) <;> rfl
/-- the candidate -/
def Cand (L : List Et) (D : Dl) (N : List Et) : Prop := ∃ Y, PR D (stays D L) Y ∧ (Y ++ D.come).Perm N ∧ N.Pairwise (fun p q => p.1 ≤ q.1)
/-- components that stay where they are: of the call's own, or from before -/
def Cz (base : Nat) (w : World) (s : Sl) (l : List C4) : Prop := Cn base w s l ∨ (Co w s l ∧ ∀ a, s.1 = some a → l ≠ [] → a.block < base)
theorem Cz.co {base : Nat} {w : World} {s : Sl} {l : List C4} (h : Cz base w s l) : Co w s l := h.elim Cn.co And.left
theorem Cz.new {base : Nat} {w w' : World} {s : Sl} {l : List C4} (h : Cz base w s l) (k : New w w') : Cz base w' s l := h.imp (fun q => q.new k) fun q => ⟨q.1.new k, q.2⟩
theorem Cz.old {w : World} {s : Sl} {l : List C4} (h : Co w s l) : Cz w.heap.size w s l := .inr ⟨h, fun a ha hl => by
  rcases h.rd.lt (fun e => hl (List.eq_nil_of_length_eq_zero (by have := congrArg List.length e; rw [ccells_length, List.length_nil] at this; omega))) with ⟨b, off, hA, hb⟩
  rw [ha] at hA
  injection hA with hA
  rw [hA]; exact hb⟩
theorem Cz.up {base base' : Nat} {w : World} {s : Sl} {l : List C4} (h : Co w s l ∧ ∀ a, s.1 = some a → l ≠ [] → a.block < base) (k : base ≤ base') : Cz base' w s l := .inr ⟨h.1, fun a ha hl => Nat.lt_of_lt_of_le (h.2 a ha hl) k⟩
theorem Cz.only {base : Nat} {w w' : World} {s : Sl} {l : List C4} (h : Cz base w s l) (k1 : Only 43 w w') (S : Nat → Prop) (k2 : Upd S w w') (hS : ∀ b, S b → base ≤ b) : Cz base w' s l := by
  rcases h with h | ⟨h, hb⟩
  · exact .inl (k1.cn h (by decide))
  · refine .inr ⟨⟨h.len, h.nil, h.rd.upd k2 fun a ha hc q => ?_⟩, hb⟩
    have := hb a ha (fun e => hc (by rw [e]; rfl))
    have := hS _ q
    omega
structure SmH (c : Ch) : Prop where
  nw : c.nw.length ≤ 400
  st : c.st.length ≤ 400
  k1 : ∀ q ∈ c.nw, q.k < 256
  k2 : ∀ q ∈ c.st, q.k < 256
structure SmP (L : List Et) (D : Dl) : Prop where
  l : L.length ≤ 450
  id : ∀ x ∈ L, x.1 < 4294967296
  len : ∀ x ∈ L, x.2.length ≤ 450
  k : ∀ x ∈ L, ∀ q ∈ x.2, q.k < 256
  g : D.gone.length ≤ 1000
  c : D.come.length ≤ 450
  cs : Sm D.come
  h : D.chg.length ≤ 1000
  hs : ∀ c ∈ D.chg, SmH c
theorem turnL_mem {l : List C4} {c : Ch} {q : C4} (h : q ∈ turnL l c) : q ∈ l ∨ q ∈ c.st ∨ q ∈ c.nw := by
  rcases List.mem_append.1 h with h | h
  · obtain ⟨x, hx, rfl⟩ := List.mem_map.1 h
    have hx' := (List.mem_filter.1 hx).1
    unfold turnF
    cases hf : fnd c.st x.k with
    | none => exact .inl hx'
    | some y => exact .inr (.inl (List.mem_of_find?_eq_some hf))
  · exact .inr (.inr h)
theorem turnL_len (l : List C4) (c : Ch) : (turnL l c).length ≤ l.length + c.nw.length := by
  unfold turnL; rw [List.length_append]; have := turnA_len c.lost c.st l; omega
theorem PRel.sm {L : List Et} {D : Dl} (h : SmP L D) {x y : Et} (hx : x ∈ L) (r : PRel D x y) : SmE y := by
  obtain ⟨r1, r2⟩ := r
  cases hf : D.chg.find? (fun c => c.id == x.1) with
  | none =>
    rw [hf] at r2
    refine ⟨by rw [r1]; exact h.id x hx, by rw [r2]; have := h.len x hx; omega, by rw [r2]; exact h.k x hx⟩
  | some c =>
    rw [hf] at r2
    have hc := h.hs c (List.mem_of_find?_eq_some hf)
    refine ⟨by rw [r1]; exact h.id x hx, ?_, fun q hq => ?_⟩
    · have := r2.1.length_eq
      have := turnL_len x.2 c
      have := h.len x hx
      have := hc.nw
      omega
    · rcases turnL_mem (r2.1.mem_iff.2 hq) with q1 | q1 | q1
      · exact h.k x hx q q1
      · exact hc.k2 q q1
      · exact hc.k1 q q1
theorem PR.sm {L : List Et} {D : Dl} (h : SmP L D) : ∀ {F Y : List Et}, (∀ x ∈ F, x ∈ L) → PR D F Y → Sm Y ∧ Y.length = F.length
  | [], [], _, _ => ⟨fun x hx => by simp at hx, rfl⟩
  | x :: F, y :: Y, hF, r => by
    obtain ⟨h1, h2⟩ := PR.sm h (fun z hz => hF z (List.mem_cons_of_mem _ hz)) r.2
    refine ⟨fun z hz => ?_, by rw [List.length_cons, List.length_cons, h2]⟩
    rcases List.mem_cons.1 hz with rfl | hz
    · exact PRel.sm h (hF x (List.mem_cons_self ..)) r.1
    · exact h1 z hz
  | [], _ :: _, _, r => r.elim
  | _ :: _, [], _, r => r.elim
theorem Cand.sm {L : List Et} {D : Dl} {N : List Et} (h : SmP L D) (c : Cand L D N) : Sm N ∧ N.length ≤ 900 := by
  obtain ⟨Y, h1, h2, _⟩ := c
  obtain ⟨k1, k2⟩ := PR.sm h (fun x hx => (List.mem_filter.1 hx).1) h1
  refine ⟨fun x hx => ?_, ?_⟩
  · rcases List.mem_append.1 (h2.mem_iff.2 hx) with q | q
    · exact k1 x q
    · exact h.cs x q
  · have e := h2.length_eq
    rw [List.length_append] at e
    have k2' : Y.length = (stays D L).length := k2
    have := h.l
    have := h.c
    have : (stays D L).length ≤ L.length := List.length_filter_le _ _
    omega
end Go.Proofs.Ytdnkdmdmekdfkaa
namespace Go.Proofs.Ytdnkdmdmekdfkaa
open Go.RowKit
theorem Al.keys {R : Sl → List C4 → Prop} : ∀ {es : List E4} {L : List Et}, Al R es L → es.map (fun e => e.1) = L.map (fun x => x.1)
  | [], [], _ => rfl
  | e :: es, x :: L, h => by rw [List.map_cons, List.map_cons, h.1.1, Al.keys h.2]
  | [], _ :: _, h => h.elim
  | _ :: _, [], h => h.elim
theorem pw_keys {R : Sl → List C4 → Prop} {es : List E4} {L : List Et} (h : Al R es L) (p : es.Pairwise (fun x y => x.1 ≤ y.1)) : L.Pairwise (fun x y => x.1 ≤ y.1) := by
  have h1 : (es.map (fun e => e.1)).Pairwise (fun x y => x ≤ y) := List.pairwise_map.2 p
  rw [h.keys] at h1
  exact List.pairwise_map.1 h1
theorem own_enl {base : Nat} {w : World} {A : Option Addr} {n c : Nat} {es : List E4} {L : List Et} (ho : w.ownsRow base 43 2 (.slice A n c) n (ec es)) (hl : es.length = n) (ha : Al (Co w) es L) : EnL w A n L := by
  obtain ⟨A', c', e, _, _, h3, _⟩ := own_rd ho
  simp only [Value.slice.injEq] at e
  obtain ⟨rfl, _, rfl⟩ := e
  refine ⟨by rw [← ha.len]; exact hl, fun hA => ?_, es, h3, ha⟩
  by_cases hz : 0 < n
  · exact own_none ho hz hA
  · omega
theorem grow_ent {base : Nat} {w w5 : World} {v : Value} {n : Nat} {es : List E4} {v5 : Value} {Y : List Et} (ho : w.ownsRow base 43 2 v n (ec es)) (hal : Al (Cz base w) es Y) (i : Nat) (l : List C4) (s0 : Option Addr) (s1 s2 : Nat) (hx : Cz base w (s0, s1, s2) l) (ho5 : w5.ownsRow base 43 2 v5 (n + 1) (ec es ++ [.int .u32 i, .slice s0 s1 s2])) (hk : Upd (fun b => v.ownBlock = some b) w w5) :
    w5.ownsRow base 43 2 v5 (n + 1) (ec (es ++ [(i, s0, s1, s2)])) ∧ Al (Cz base w5) (es ++ [(i, s0, s1, s2)]) (Y ++ [(i, l)]) := by
  have k := Only.of_app ho hk
  refine ⟨by rw [ec_append]; exact ho5, (hal.map fun _ _ q => q.only k _ hk (fun b hb => own_ge ho b hb)).snoc rfl (hx.only k _ hk (fun b hb => own_ge ho b hb))⟩
set_option maxRecDepth 4000 in
set_option maxHeartbeats 16000000 in
theorem Patch_any (A : Option Addr) (n p : Nat) (L : List Et) (g0 : Option Addr) (g1 g2 : Nat) (c0 : Option Addr) (c1 c2 : Nat) (h0 : Option Addr) (h1 h2 : Nat) (D : Dl) (w : World) (hx : EnL w A n L) (hd : DlR w g0 g1 g2 c0 c1 h0 h1 D) (hs : SmP L D) (hz : frm 0 L = 0) :
    Calls Try.prog 13 #[.slice A n p, .agg #[.slice g0 g1 g2, .slice c0 c1 c2, .slice h0 h1 h2]] w fun e w' => (∃ N, Cand L D N ∧ ((∃ t : Sl, e = .returned (.tuple #[.slice t.1 t.2.1 t.2.2, .int .i64 0]) ∧ EnN w.heap.size w' (.slice t.1 t.2.1 t.2.2) N ∧ frm 0 N = 0 ∧ mrg L N = D) ∨ (e = .returned (.tuple #[.slice none 0 0, .int .i64 4]) ∧ ¬ (frm 0 N = 0 ∧ mrg L N = D)))) ∧ New w w' := by
  have hSm : Sm L := fun x hx => ⟨hs.id x hx, Nat.le_trans (hs.len x hx) (by omega), hs.k x hx⟩
  have hnL : L.length = n := hx.len
  have hn : n ≤ 450 := by rw [← hnL]; exact hs.l
  have hb3 := heap_alloc_new w (.cells #[.slice g0 g1 g2, .slice c0 c1 c2, .slice h0 h1 h2] 26)
  have U0 := (Upd.refl Nowhere w).alloc (.cells #[.slice g0 g1 g2, .slice c0 c1 c2, .slice h0 h1 h2] 26)
  have HX := Bx.mk hx
  have HDR := Bx.mk hd
  have CF := Bx.mk (Form_any A n p L _ (hx.new U0) (by omega) hSm)
  rw [hz] at CF
  have HHL := Bx.mk hnL
  have hx0 : w.heap.size ≤ (w.alloc (.cells #[.slice g0 g1 g2, .slice c0 c1 c2, .slice h0 h1 h2] 26)).heap.size := U0.size
  clear hx hd hnL
  go_enter Try.func13, Try.ntmps13
  go_upto_block 0 with (first
    | (go_at_call 24; (with_reducible refine (CF.out).mono ?_); rintro e2 w2 ⟨rfl, hu2⟩; dsimp only))
  have h3w := hu2.blk hb3 (fun q => q)
  have HU2 := Bx.mk (U0.trans hu2)
  generalize hB3 : w.heap.size = B3 at *
  have HB3 := Bx.mk hB3
  have H3 := Bx.mk h3w
  clear hb3 U0 CF hu2 h3w hB3
  have HX2 := Bx.mk (HX.out.new HU2.out)
  have HD2 := Bx.mk (HDR.out.new HU2.out)
  have HW := Bx.mk (show B3 ≤ w2.heap.size by have := HU2.out.size; rw [HB3.out] at this; exact this)
  clear HX HDR hx0
  obtain ⟨d0, d1, d2, _⟩ := o3_at H3.out
  repeat' (first | fail | go_values | go_skip | go_guarded | go_step | go_upon | go_back)
  go_loopw [7, 20] (fun o iv wr => ∃ (j : Nat) (o0 : Option Addr) (o1 o2 : Nat) (a : List E4) (Y : List Et), j ≤ n ∧ iv = .int .i64 j ∧ o = .slice o0 o1 o2 ∧ o1 ≤ j ∧ a.length = o1 ∧ Bx (wr.ownsRow w2.heap.size 43 2 (.slice o0 o1 o2) o1 (ec a)) ∧ Bx (Al (Cz w2.heap.size wr) a Y) ∧ Bx (PR D (stays D (L.take j)) Y) ∧ Bx (New w2 wr)) (fun _ iv _ => n - (intOf iv).toNat)
  case atStart => exact ⟨0, none, 0, 0, [], [], by omega, rfl, rfl, Nat.le_refl _, rfl, ⟨World.ownsRow_nil _ _ _ _⟩, ⟨trivial⟩, ⟨trivial⟩, ⟨Upd.refl _ _⟩⟩
  case round =>
    obtain ⟨j, o0, o1, o2, a, Y, hj, rfl, rfl, ho1j, hal, HO, HA, HP, HN⟩ := hrel
    by_cases hlt : j < n
    · have hjL : j < L.length := by rw [HHL.out]; exact hlt
      have hji : (j : Int) < (n : Int) := by omega
      obtain ⟨eb, eo, s0, s1, s2, rfl, k0, k1, hco⟩ := (HX2.out.new HN.out).el j hjL
      have hcoW : Co w2 (s0, s1, s2) L[j].2 := by
        obtain ⟨_, _, s0', s1', s2', e0, _, e1, hc⟩ := HX2.out.el j hjL
        have q := HN.out.cell e1 (fun q => q)
        simp only [Option.some.injEq, Addr.mk.injEq, and_true] at e0
        obtain ⟨rfl, rfl⟩ := e0
        rw [k1] at q
        simp only [Option.some.injEq, Value.slice.injEq] at q
        obtain ⟨rfl, rfl, rfl⟩ := q
        exact hc
      have HCO := Bx.mk (Cz.old hcoW)
      have HST := Bx.mk (stays_take D L j hjL)
      have hSq := hs.len L[j] (List.getElem_mem hjL)
      have hSk := hs.k L[j] (List.getElem_mem hjL)
      have HPN := Bx.mk (fun (y : Et) (r : PRel D L[j] y) => HP.out.snoc r)
      have HPR := Bx.mk (fun y => (Iff.rfl : PRel D L[j] y ↔ PRel D L[j] y))
      generalize L[j] = q at *
      obtain ⟨i, l⟩ := q
      dsimp only at k0 k1 hco hcoW HCO hSq hSk HST
      obtain ⟨m0, m1⟩ := e2_new wr i s0 s1 s2
      have hbox := heap_alloc_new wr (.cells #[.int .u32 i, .slice s0 s1 s2] 43)
      have hA := (Upd.refl Nowhere wr).alloc (.cells #[.int .u32 i, .slice s0 s1 s2] 43)
      have hNA := HN.out.trans hA
      obtain ⟨y0, y1, y2, _⟩ := o3_at (hNA.blk H3.out (fun q => q))
      have HCN := Bx.mk (Contains_any g0 g1 g2 D.gone i _ (HD2.out.gone.new hNA) hs.g)
      have HBox := Bx.mk hbox
      clear hbox hcoW
      cases hg : decide (i ∈ D.gone) with
      | true =>
        rw [hg] at HCN HST
        have HP2 := Bx.mk (show PR D (stays D (L.take (j + 1))) Y by rw [HST.out, if_pos rfl, List.append_nil]; exact HP.out)
        clear hg HPN HPR HST
        repeat' (first | (go_at_call 25; (with_reducible refine (HCN.out).mono ?_); rintro e3 w3 ⟨rfl, hu3⟩; dsimp only) | go_values | go_skip | go_guarded | go_step | go_upon | go_back)
        go_roundw
        case rel => exact ⟨j + 1, o0, o1, o2, a, Y, by omega, by go_num, rfl, by omega, hal, ⟨own_new HO.out (hA.trans hu3)⟩, ⟨HA.out.map fun _ _ q => q.new (hA.trans hu3)⟩, HP2, ⟨hNA.trans hu3⟩⟩
        case measure => simp [intOf]; omega
      | false =>
        rw [hg] at HCN HST
        have HSN := Bx.mk (show stays D (L.take (j + 1)) = stays D (L.take j) ++ [(i, l)] by rw [HST.out, if_neg Bool.false_ne_true])
        clear hg HST HPR
        go_upto_region 9 with (first
          | (go_at_call 25; (with_reducible refine (HCN.out).mono ?_); rintro e3 w3 ⟨rfl, hu3⟩; dsimp only))
        have hA3 := hA.trans hu3
        have HA3 := Bx.mk hA3
        have hN3 := HN.out.trans hA3
        obtain ⟨x0, x1, x2, _⟩ := o3_at (hN3.blk H3.out (fun q => q))
        have HB3' := Bx.mk (hu3.blk HBox.out (fun q => q))
        obtain ⟨n0, n1, _⟩ := o2_at HB3'.out
        have HIX := Bx.mk (idxChg_any h0 h1 h2 D.chg i wr.heap.size w3 (HD2.out.chg.new hN3) hs.h n0)
        clear m0 m1 hu3 hA3
        have HN3 := Bx.mk hN3
        cases hf : D.chg.find? (fun c => c.id == i) with
        | none =>
          have HIN := Bx.mk (HIX.out.mono (R' := fun e w4 => e = .returned (.int .i64 (-1)) ∧ New w3 w4) (fun e w4 hh => by
            obtain ⟨h, k⟩ := hh
            rcases h with ⟨_, _, _, h⟩ | ⟨h, _⟩
            · rw [hf] at h; cases h
            · exact ⟨h, k⟩))
          have HP2 := Bx.mk (show PR D (stays D (L.take (j + 1))) (Y ++ [(i, l)]) by
            rw [HSN.out]
            refine HPN.out (i, l) ⟨rfl, ?_⟩
            show (match D.chg.find? (fun c => c.id == i) with | none => l = l | some c => _)
            rw [hf])
          clear hf HIX HPN HSN
          repeat' (first | (first
            | (go_at_call 26; (with_reducible refine (HIN.out).mono ?_); rintro e4 w4 ⟨rfl, hu4⟩; (obtain ⟨f0, f1, _⟩ := o2_at (hu4.blk HB3'.out (fun q => q)); have hv := (HA3.out.trans hu4).alloc (.cells #[.int .u32 i, .slice s0 s1 s2] 43); have hvN := HN.out.trans hv; have ho1 := own_new HO.out hv; have hsr := src_one (P := Try.prog) (w := w4) Try.underlying22 [.int .u32 i, .slice s0 s1 s2] 2 rfl (by intro u hu; simp at hu; rcases hu with rfl | rfl <;> rfl)); dsimp only)
            | (at_builtin; refine wpList_appN _ rfl _ _ 22 22 rfl _ 43 (.agg #[.int .u32 0, .slice none 0 0]) 2 32 Try.underlying22 infoE rfl _ _ _ ho1 rfl _ _ _ hsr rfl _ hvN ?c1 ?c2 ?_; (case c1 => unfold maxLen; omega); (case c2 => omega); intro v5 w5 ho5 hu5 hk5 hv5); (obtain ⟨A5, c5, rfl, _⟩ := own_rd ho5)) | go_values | go_skip | go_guarded | go_step | go_upon | go_back)
          have HG := Bx.mk (grow_ent ho1 (HA.out.map fun _ _ q => q.new hv) i l s0 s1 s2 (HCO.out.new hvN) ho5 hk5)
          clear ho5 hk5 hv5 ho1 hsr
          go_roundw
          case rel => exact ⟨j + 1, A5, _, c5, a ++ [(i, s0, s1, s2)], Y ++ [(i, l)], by omega, by go_num, rfl, by omega, by rw [List.length_append, hal]; rfl, ⟨HG.out.1⟩, ⟨HG.out.2⟩, HP2, ⟨hu5⟩⟩
          case measure => simp [intOf]; omega
        | some ch =>
          have HIN := Bx.mk (HIX.out.mono (R' := fun e w4 => (∃ j', ∃ hj' : j' < D.chg.length, e = .returned (.int .i64 (j' : Nat)) ∧ D.chg[j'] = ch) ∧ New w3 w4) (fun e w4 hh => by
            obtain ⟨h, k⟩ := hh
            rcases h with ⟨j', hj', e1, h⟩ | ⟨_, h⟩
            · rw [hf] at h; exact ⟨⟨j', hj', e1, (Option.some.inj h).symm⟩, k⟩
            · rw [hf] at h; cases h))
          have HP2 := Bx.mk (fun (l' : List C4) (hp : (turnL l ch).Perm l') (ho : l'.Pairwise (fun p q => p.k ≤ q.k)) => show PR D (stays D (L.take (j + 1))) (Y ++ [(i, l')]) by
            rw [HSN.out]
            refine HPN.out (i, l') ⟨rfl, ?_⟩
            show (match D.chg.find? (fun c => c.id == i) with | none => l' = l | some c => (turnL l c).Perm l' ∧ l'.Pairwise (fun p q => p.k ≤ q.k))
            rw [hf]; exact ⟨hp, ho⟩)
          have hSC := hs.hs ch (List.mem_of_find?_eq_some hf)
          clear hf HIX HPN HSN
          have HL1 := Bx.mk HD2.out.chg.len
          go_upto_region 11 with (first
            | (go_at_call 26; (with_reducible refine (HIN.out).mono ?_); rintro e4 w4 ⟨⟨j', hj', rfl, HCH⟩, hu4⟩; dsimp only))
          have hA4 := HA3.out.trans hu4
          have hN4 := HN.out.trans hA4
          have hd4 : New w4 w4.drew := (Upd.refl Nowhere w4).drew
          obtain ⟨cb, co, u0, u1, u2, v0, v1, v2, rfl, k2, k3, k4, k5, hcu, hcv⟩ := (HD2.out.chg.new (hN4.trans hd4)).el j' hj'
          rw [HCH] at k2 k3 hcu hcv
          obtain ⟨f0, f1, ff⟩ := o2_at ((hu4.trans hd4).blk HB3'.out (fun q => q))
          obtain ⟨_, _, x2', _⟩ := o3_at ((hN4.trans hd4).blk H3.out (fun q => q))
          have hjn' : (j' : Int) < (h1 : Int) := by have := HL1.out; omega
          have HTU := Bx.mk (turn_any i s0 s1 s2 l ch.id ch u0 u1 u2 v0 v1 v2 w4.drew (HCO.out.co.new (hN4.trans hd4)) hcu hcv (Nat.le_trans hSq (by omega)) (Nat.le_trans hSC.nw (by omega)) (Nat.le_trans hSC.st (by omega)) hSk)
          have HB4 := Bx.mk ((hu4.trans hd4).blk HB3'.out (fun q => q))
          generalize hlt' : ch.lost.toNat = LT at *
          generalize hid' : ch.id = ID at *
          clear hcu hcv hlt' hid' HCH
          go_cut [] (fun wx => ∃ (t0 : Option Addr) (t1 t2 : Nat) (l' : List C4), Bx (wx.heap[wr.heap.size]? = some (.cells #[.int .u32 i, .slice t0 t1 t2] 43 (0, 0))) ∧ Bx (Cn w2.heap.size wx (t0, t1, t2) l') ∧ Bx ((turnL l ch).Perm l') ∧ Bx (l'.Pairwise (fun p q => p.k ≤ q.k)) ∧ Bx (New wr wx))
          case first =>
            go_region_law (first
              | (go_simp; (go_at_call 28; (with_reducible refine (HTU.out).mono ?_); rintro e7 w7 ⟨⟨⟨t0, t1, t2⟩, l', rfl, hcn, hpm, hpw⟩, hu7⟩; dsimp only); have HB7 := Bx.mk (hu7.blk HB4.out (fun q => q)); obtain ⟨g7, g8, g9⟩ := o2_at HB7.out))
            all_goals (
              have hcn2 := (Only.of_obj HB7.out (upd_set2 w7 wr.heap.size (.int .u32 i) (.slice t0 t1 t2))).cn (Cn.lower hcn (show w2.heap.size ≤ _ from (hN4.trans hd4).size)) (by decide)
              repeat' (first | fail | go_values | go_skip | go_guarded | go_step | go_upon | go_back)
              go_meet
              case rel => exact ⟨t0, t1, t2, l', ⟨o2_set HB7.out _ _⟩, ⟨hcn2⟩, ⟨hpm⟩, ⟨hpw⟩, ⟨(((hA4.trans hd4).trans hu7).setCell (p := ⟨wr.heap.size, 0, none⟩) (.inr (Nat.le_refl _)) _).setCell (p := ⟨wr.heap.size, 1, none⟩) (.inr (Nat.le_refl _)) _⟩⟩)
          case rest =>
            obtain ⟨t0, t1, t2, l', HBx, HCn, HPm, HPw, HNx⟩ := hcut
            rename World => wy
            obtain ⟨f0', f1', _⟩ := o2_at HBx.out
            have hv := HNx.out.alloc (.cells #[.int .u32 i, .slice t0 t1 t2] 43)
            have hvN := HN.out.trans hv
            have ho1 := own_new HO.out hv
            have hsr := src_one (P := Try.prog) (w := wy) Try.underlying22 [.int .u32 i, .slice t0 t1 t2] 2 rfl (by intro u hu; simp at hu; rcases hu with rfl | rfl <;> rfl)
            have HP3 := Bx.mk (HP2.out l' HPm.out HPw.out)
            clear HP2 f0 f1 ff
            repeat' (first | (at_builtin; refine wpList_appN _ rfl _ _ 22 22 rfl _ 43 (.agg #[.int .u32 0, .slice none 0 0]) 2 32 Try.underlying22 infoE rfl _ _ _ ho1 rfl _ _ _ hsr rfl _ hvN ?c1 ?c2 ?_; (case c1 => unfold maxLen; omega); (case c2 => omega); intro v5 w5 ho5 hu5 hk5 hv5); (obtain ⟨A5, c5, rfl, _⟩ := own_rd ho5) | go_values | go_skip | go_guarded | go_step | go_upon | go_back)
            have HG := Bx.mk (grow_ent ho1 (HA.out.map fun _ _ q => q.new hv) i l' t0 t1 t2 (.inl (HCn.out.new ((Upd.refl Nowhere wy).alloc _))) ho5 hk5)
            clear ho5 hk5 hv5 ho1 hsr
            go_roundw
            case rel => exact ⟨j + 1, A5, _, c5, a ++ [(i, t0, t1, t2)], Y ++ [(i, l')], by omega, by go_num, rfl, by omega, by rw [List.length_append, hal]; rfl, ⟨HG.out.1⟩, ⟨HG.out.2⟩, HP3, ⟨hu5⟩⟩
            case measure => simp [intOf]; omega
    · obtain rfl : j = n := by omega
      have HT := Bx.mk (show L.take j = L from List.take_of_length_le (by rw [HHL.out]; exact Nat.le_refl _))
      rw [HT.out] at HP
      have hji : ¬ (j : Int) < (j : Int) := by omega
      obtain ⟨esC, hrC, halC⟩ := HD2.out.come.ex
      have hlC : esC.length = c1 := by rw [halC.len]; exact HD2.out.come.len
      have hcb : c1 ≤ 450 := by rw [← hlC, halC.len]; exact hs.c
      have hsrc := (hrC.new HN.out).src (P := Try.prog) (n := c1) (c := c2) (size := 2) Try.underlying22 HD2.out.come.nil (by rw [ec_length, hlC]) (ec_one esC)
      have hN := HN.out
      have ho1 := HO.out
      obtain ⟨y0, y1, y2, _⟩ := o3_at (hN.blk H3.out (fun q => q))
      go_upto_region 15 with (first
        | (at_builtin; refine wpList_appN _ rfl _ _ 22 22 rfl _ 43 (.agg #[.int .u32 0, .slice none 0 0]) 2 32 Try.underlying22 infoE rfl _ _ _ ho1 rfl _ _ _ hsrc rfl _ hN ?c1 ?c2 ?_; (case c1 => unfold maxLen; omega); (case c2 => omega); intro v5 w5 ho5 hu5 hk5 hv5); (obtain ⟨A5, c5, rfl, _⟩ := own_rd ho5))
      have k5 := Only.of_app ho1 hk5
      have hal5 : Al (Cz w2.heap.size w5) (a ++ esC) (Y ++ D.come) := (HA.out.map fun _ _ q => q.only k5 _ hk5 (fun b hb => own_ge ho1 b hb)).append (halC.map fun _ _ q => ((Cz.old q).new hN).only k5 _ hk5 (fun b hb => own_ge ho1 b hb))
      rw [← ec_append] at ho5
      have hlen5 : (a ++ esC).length = o1 + c1 := by rw [List.length_append, hal, hlC]
      have HSO := Bx.mk (sortE_any (l := a ++ esC) ho5 hlen5 (by omega))
      have HO5 := Bx.mk ho5
      have HAL5 := Bx.mk hal5
      clear hal5 ho5 hk5 hv5 k5 hsrc hrC halC hlC ho1
      generalize o1 + c1 = m at *
      go_upto_region 16 with (first
        | (go_at_call 29; (with_reducible refine (HSO.out).mono ?_); rintro e7 w7 ⟨rfl, es7, ho7, hp7, hs7, hu7⟩; dsimp only))
      obtain ⟨N, hpN, halN⟩ := HAL5.out.perm hp7
      have HC := Bx.mk (show Cand L D N from ⟨Y, HP.out, hpN, pw_keys halN hs7⟩)
      have k7 := Only.of_app HO5.out hu7
      have halN7 := halN.map fun _ _ q => q.only k7 _ hu7 (fun b hb => own_ge HO5.out b hb)
      have hN7 : New w2 w7 := hu5.then hu7 (fun b hb => .inr (own_ge HO5.out b hb))
      have hl7 : es7.length = m := by rw [← hlen5]; exact hp7.length_eq.symm
      have HE7 := Bx.mk (own_enl (show w7.ownsRow w2.heap.size 43 2 (.slice A5 m c5) m (ec es7) from ho7) hl7 (halN7.map fun _ _ q => q.co))
      obtain ⟨hsmN, hlN⟩ := HC.out.sm hs
      have hmN : m ≤ 900 := by rw [← HE7.out.len]; exact hlN
      have HDI := Bx.mk (Diff_any A j p L A5 m c5 N w7 (HX2.out.new hN7) HE7.out (by omega) (by omega) hSm hsmN)
      have HSD := Bx.mk (diffD_smD (a := L) (b := N) (by rw [HHL.out]; omega) (by omega) hsmN)
      have HDE := Bx.mk (show diffE L N = frm 0 N by unfold diffE; rw [if_neg (by simp [hz])])
      have HDD := Bx.mk (fun (h : frm 0 N = 0) => show diffD L N = mrg L N by unfold diffD; rw [HDE.out, if_pos h])
      have HN7 := Bx.mk hN7
      rw [HDE.out] at HDI
      have HSm2 := Bx.mk hsmN
      clear halN7 halN hpN hp7 hs7 hu7 k7 ho7 hl7 HAL5 HO5 HA HO HP hlN hsmN
      by_cases hf : frm 0 N = 0
      · rw [hf] at HDI
        have HF := Bx.mk hf
        have HQ := Bx.mk (HDD.out hf)
        rw [HQ.out] at HDI HSD
        clear hf HDD
        go_upto_region 17 with (first
          | (go_at_call 18; (with_reducible refine (HDI.out).mono ?_); rintro e8 w8 ⟨⟨gg, cc, hh, rfl, hdn⟩, hu8⟩; obtain ⟨a0, a2, b0, b2, f0, f2, rfl, rfl, rfl, hdr⟩ := hdn.r; dsimp only))
        have hX := (Upd.refl Nowhere w8).alloc (.cells #[.slice a0 (mrg L N).gone.length a2, .slice b0 (mrg L N).come.length b2, .slice f0 (mrg L N).chg.length f2] 26)
        have hN8 := (hN7.trans hu8).trans hX
        have hNr : New w7 (w8.alloc (.cells #[.slice a0 (mrg L N).gone.length a2, .slice b0 (mrg L N).come.length b2, .slice f0 (mrg L N).chg.length f2] 26)) := hu8.trans hX
        obtain ⟨z0, z1, z2, _⟩ := o3_at (heap_alloc_new w8 (.cells #[.slice a0 (mrg L N).gone.length a2, .slice b0 (mrg L N).come.length b2, .slice f0 (mrg L N).chg.length f2] 26))
        obtain ⟨x0, x1, x2, _⟩ := o3_at (hN8.blk H3.out (fun q => q))
        have HSA := Bx.mk (same_any a0 _ a2 b0 _ b2 f0 _ f2 (mrg L N) g0 g1 g2 c0 c1 c2 h0 h1 h2 D _ (hdr.new hX) (HD2.out.new hN8) HSD.out)
        clear hdr hdn
        generalize w8.alloc (.cells #[.slice a0 (mrg L N).gone.length a2, .slice b0 (mrg L N).come.length b2, .slice f0 (mrg L N).chg.length f2] 26) = w9 at *
        generalize (mrg L N).gone.length = ga at *
        generalize (mrg L N).come.length = gb at *
        generalize (mrg L N).chg.length = gc at *
        by_cases he : mrg L N = D
        · rw [decide_eq_true he] at HSA
          have HE := Bx.mk he
          clear he
          have HCP := Bx.mk (fun (W : World) (k : New w7 W) => Copy_any A5 m c5 N W (HE7.out.new k) (by omega) (fun x hx => Nat.le_trans (HSm2.out x hx).len (by omega)))
          repeat' (first | (first
            | (go_at_call 32; (with_reducible refine (HSA.out).mono ?_); rintro ea wa ⟨rfl, hua⟩; dsimp only)
            | (go_at_call 33; (with_reducible refine (HCP.out _ (hNr.trans hua)).mono ?_); rintro eb wb ⟨⟨t, rfl, hen⟩, hub⟩; dsimp only)) | go_values | go_skip | go_guarded | go_step | go_upon | go_back)
          go_returns
          refine ⟨⟨N, HC.out, .inl ⟨t, rfl, ?_, HF.out, HE.out⟩⟩, ((HU2.out.trans hN8).trans hua).trans hub⟩
          exact hen.lower (by rw [HB3.out]; exact Nat.le_trans HW.out (Nat.le_trans hN8.size hua.size))
        · rw [decide_eq_false he] at HSA
          have HE := Bx.mk he
          clear he
          repeat' (first | (go_at_call 32; (with_reducible refine (HSA.out).mono ?_); rintro ea wa ⟨rfl, hua⟩; dsimp only) | go_values | go_skip | go_guarded | go_step | go_upon | go_back)
          go_returns
          exact ⟨⟨N, HC.out, .inr ⟨rfl, fun h => HE.out h.2⟩⟩, (HU2.out.trans hN8).trans hua⟩
      · have HF := Bx.mk hf
        obtain ⟨f, hff⟩ : ∃ f, frm 0 N = f := ⟨_, rfl⟩
        rw [hff] at HDI hf
        clear HDD
        repeat' (first | (go_at_call 18; (with_reducible refine (HDI.out).mono ?_); rintro e8 w8 ⟨⟨gg, cc, hh, rfl, hdn⟩, hu8⟩; obtain ⟨a0, a2, b0, b2, f0, f2, rfl, rfl, rfl, hdr⟩ := hdn.r; dsimp only) | go_values | go_skip | go_guarded | go_step | go_upon | go_back)
        go_returns
        exact ⟨⟨N, HC.out, .inr ⟨rfl, fun h => HF.out h.1⟩⟩, ((HU2.out.trans hN7).trans hu8).alloc _⟩
end Go.Proofs.Ytdnkdmdmekdfkaa
