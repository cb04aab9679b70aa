/- Deltas: what they are; in memory. -/
import Derived.Test.YtdnkdmdmekdfkaaDf4
namespace Go.Proofs.Ytdnkdmdmekdfkaa
open Go.RowKit
/-- blocks of one type may turn, and no others -/
def Only (T : TypeId) (w w' : World) : Prop := Upd (fun b => ∃ cs fz, w.heap[b]? = some (.cells cs T fz)) w w'
theorem Only.of_new {T : TypeId} {w w' : World} (h : New w w') : Only T w w' := New.upd h
theorem own_type {w : World} {base e size n b : Nat} {v : Value} {xs : List Value} (h : w.ownsRow base e size v n xs) (hb : v.ownBlock = some b) : ∃ cs, w.heap[b]? = some (.cells cs e (0, 0)) := by
  obtain ⟨_, ⟨rfl, _⟩ | ⟨g1, c1, cur1, rfl, _, hh1, _⟩⟩ := h
  · cases hb
  · simp only [Value.ownBlock, Option.some.injEq] at hb
    subst hb
    exact ⟨_, hh1⟩
theorem Only.of_app {w w' : World} {base e size n : Nat} {v : Value} {xs : List Value} (h : w.ownsRow base e size v n xs) (k : Upd (fun b => v.ownBlock = some b) w w') : Only e w w' :=
  k.mono fun b hb => by obtain ⟨cs, hc⟩ := own_type h hb; exact ⟨cs, _, hc⟩
theorem Only.of_obj {w w' : World} {g T : Nat} {cs : Array Value} {fz : Nat × Nat} (hg : w.heap[g]? = some (.cells cs T fz)) (k : Upd (fun b => b = g) w w') : Only T w w' :=
  k.mono fun b hb => by subst hb; exact ⟨cs, fz, hg⟩
theorem Only.heap {T T' g : Nat} {w w' : World} {cs : Array Value} {fz : Nat × Nat} (k : Only T w w') (hg : w.heap[g]? = some (.cells cs T' fz)) (hne : T' ≠ T) : w'.heap[g]? = some (.cells cs T' fz) :=
  Upd.blk k hg fun ⟨cs', fz', q⟩ => by
    rw [hg] at q
    injection q with q
    injection q with _ q
    exact hne q
theorem Only.own {T : TypeId} {w w' : World} {base e size n : Nat} {v : Value} {xs : List Value} (k : Only T w w') (h : w.ownsRow base e size v n xs) (hne : e ≠ T) : w'.ownsRow base e size v n xs :=
  own_upd h k fun b hb ⟨cs', fz', q⟩ => by
    obtain ⟨cs, hc⟩ := own_type h hb
    rw [hc] at q
    injection q with q
    injection q with _ q
    exact hne q
theorem Only.cn {T : TypeId} {base : Nat} {w w' : World} {s : Sl} {l : List C4} (k : Only T w w') (h : Cn base w s l) (hne : 46 ≠ T) : Cn base w' s l := k.own h hne
theorem Only.en {T : TypeId} {base : Nat} {w w' : World} {v : Value} {L : List Et} (k : Only T w w') (h : EnN base w v L) (h1 : 43 ≠ T) (h2 : 46 ≠ T) : EnN base w' v L := by
  obtain ⟨es, ho, hal⟩ := h.ex
  exact ⟨es, k.own ho h1, hal.map fun _ _ q => k.cn q h2⟩
structure Ch where
  id : Nat
  lost : BitVec 8
  nw : List C4
  st : List C4
structure Dl where
  gone : List Nat
  come : List Et
  chg : List Ch
abbrev H4 := Nat × Nat × Sl × Sl
def encH (x : H4) : List Value := [.int .u32 x.1, .int .u8 x.2.1, .slice x.2.2.1.1 x.2.2.1.2.1 x.2.2.1.2.2, .slice x.2.2.2.1 x.2.2.2.2.1 x.2.2.2.2.2]
def hc (hs : List H4) : List Value := hs.flatMap encH
theorem hc_length (es : List H4) : (hc es).length = es.length * 4 := by
  induction es with
  | nil => rfl
  | cons q L ih => simp only [hc, List.flatMap_cons, List.length_append, List.length_cons, encH, List.length_nil] at ih ⊢; omega
theorem hc_append (x y : List H4) : hc (x ++ y) = hc x ++ hc y := List.flatMap_append
theorem hc_one (es : List H4) : ∀ u ∈ hc es, u.oneCell' = true := by
  intro u hu
  simp only [hc, List.mem_flatMap] at hu
  obtain ⟨q, _, hq⟩ := hu
  simp [encH] at hq
  rcases hq with rfl | rfl | rfl | rfl <;> rfl
theorem hc_get (es : List H4) (i : Nat) (h : i < es.length) (k : Nat) (hk : k < 4) : (hc es)[i * 4 + k]? = (encH es[i])[k]? := by
  induction es generalizing i with
  | nil => exact absurd h (Nat.not_lt_zero _)
  | cons q L ih =>
    cases i with
    | zero =>
      rw [Nat.zero_mul, Nat.zero_add]
      show (encH q ++ hc L)[k]? = _
      rw [List.getElem?_append_left (by exact hk)]; rfl
    | succ i =>
      have := ih i (by simpa using h)
      have e : (i + 1) * 4 + k = (i * 4 + k) + 4 := by omega
      rw [e]
      exact this
/-- the changes that the elements stand for -/
def Ah (R : Sl → List C4 → Prop) : List H4 → List Ch → Prop
  | [], [] => True
  | e :: es, x :: L => (e.1 = x.id ∧ e.2.1 = x.lost.toNat ∧ R e.2.2.1 x.nw ∧ R e.2.2.2 x.st) ∧ Ah R es L
  | _, _ => False
section
variable {R R' : Sl → List C4 → Prop}
theorem Ah.len : ∀ {es : List H4} {L : List Ch}, Ah R es L → es.length = L.length
  | [], [], _ => rfl
  | e :: es, x :: L, h => by rw [List.length_cons, List.length_cons, Ah.len h.2]
  | [], _ :: _, h => h.elim
  | _ :: _, [], h => h.elim
theorem Ah.get : ∀ {es : List H4} {L : List Ch}, Ah R es L → ∀ (j : Nat) (hj : j < L.length) (hj' : j < es.length), es[j].1 = L[j].id ∧ es[j].2.1 = L[j].lost.toNat ∧ R es[j].2.2.1 L[j].nw ∧ R es[j].2.2.2 L[j].st
  | [], [], _, j, hj, _ => absurd hj (Nat.not_lt_zero _)
  | e :: es, x :: L, h, j, hj, hj' => by
    cases j with
    | zero => exact h.1
    | succ j => exact Ah.get h.2 j (by simpa using hj) (by simpa using hj')
  | [], _ :: _, h, _, _, _ => h.elim
  | _ :: _, [], h, _, _, _ => h.elim
theorem Ah.map (f : ∀ s l, R s l → R' s l) : ∀ {es : List H4} {L : List Ch}, Ah R es L → Ah R' es L
  | [], [], _ => trivial
  | e :: es, x :: L, h => ⟨⟨h.1.1, h.1.2.1, f _ _ h.1.2.2.1, f _ _ h.1.2.2.2⟩, Ah.map f h.2⟩
  | [], _ :: _, h => h.elim
  | _ :: _, [], h => h.elim
theorem Ah.append : ∀ {es : List H4} {L : List Ch} {es' : List H4} {L' : List Ch}, Ah R es L → Ah R es' L' → Ah R (es ++ es') (L ++ L')
  | [], [], _, _, _, k => k
  | e :: es, x :: L, _, _, h, k => ⟨h.1, Ah.append h.2 k⟩
  | [], _ :: _, _, _, h, _ => h.elim
  | _ :: _, [], _, _, h, _ => h.elim
end
/-- changes of the call's own -/
structure ChN (base : Nat) (w : World) (v : Value) (L : List Ch) : Prop where
  ex : ∃ es, w.ownsRow base 57 4 v L.length (hc es) ∧ Ah (Cn base w) es L
theorem Only.ch {T : TypeId} {base : Nat} {w w' : World} {v : Value} {L : List Ch} (k : Only T w w') (h : ChN base w v L) (h1 : 57 ≠ T) (h2 : 46 ≠ T) : ChN base w' v L := by
  obtain ⟨es, ho, hal⟩ := h.ex
  exact ⟨es, k.own ho h1, hal.map fun _ _ q => k.cn q h2⟩
theorem ChN.new {base : Nat} {w w' : World} {v : Value} {L : List Ch} (h : ChN base w v L) (k : New w w') : ChN base w' v L := by
  obtain ⟨es, ho, hal⟩ := h.ex
  exact ⟨es, own_new ho k, hal.map fun _ _ q => q.new k⟩
def u32s (l : List Nat) : List Value := l.map fun (i : Nat) => Value.int .u32 (i : Int)
theorem u32s_length (l : List Nat) : (u32s l).length = l.length := by simp [u32s]
theorem u32s_append (a b : List Nat) : u32s (a ++ b) = u32s a ++ u32s b := List.map_append
theorem u32s_one (l : List Nat) : ∀ u ∈ u32s l, u.oneCell' = true := by
  intro u hu; obtain ⟨_, _, rfl⟩ := List.mem_map.1 hu; rfl
theorem u32s_get (l : List Nat) (j : Nat) (h : j < l.length) : (u32s l)[j]? = some (.int .u32 l[j]) := by
  rw [u32s, List.getElem?_map, List.getElem?_eq_getElem h]; rfl
def GoN (base : Nat) (w : World) (v : Value) (l : List Nat) : Prop := w.ownsRow base 40 1 v l.length (u32s l)
/-- a delta of the call's own: its three rows -/
structure DlN (base : Nat) (w : World) (g c h : Value) (D : Dl) : Prop where
  gone : GoN base w g D.gone
  come : EnN base w c D.come
  chg : ChN base w h D.chg
theorem DlN.new {base : Nat} {w w' : World} {g c h : Value} {D : Dl} (d : DlN base w g c h D) (k : New w w') : DlN base w' g c h D := ⟨own_new d.gone k, d.come.new k, d.chg.new k⟩
theorem DlN.lower {base base' : Nat} {w : World} {g c h : Value} {D : Dl} (d : DlN base w g c h D) (k : base' ≤ base) : DlN base' w g c h D := by
  obtain ⟨es, ho, hal⟩ := d.chg.ex
  exact ⟨own_lower d.gone k, d.come.lower k, es, own_lower ho k, hal.map fun _ _ q => q.lower k⟩
theorem Only.dl {T : TypeId} {base : Nat} {w w' : World} {g c h : Value} {D : Dl} (k : Only T w w') (d : DlN base w g c h D) (h0 : 40 ≠ T) (h1 : 43 ≠ T) (h2 : 46 ≠ T) (h3 : 57 ≠ T) : DlN base w' g c h D :=
  ⟨k.own d.gone h0, k.en d.come h1 h2, k.ch d.chg h3 h2⟩
/-- one more is gone -/
theorem DlN.grow1 {base : Nat} {w w' : World} {g c h g' : Value} {D : Dl} (d : DlN base w g c h D) (i : Nat) (ho : w'.ownsRow base 40 1 g' (D.gone.length + 1) (u32s D.gone ++ [.int .u32 i])) (hk : Upd (fun b => g.ownBlock = some b) w w') : DlN base w' g' c h ⟨D.gone ++ [i], D.come, D.chg⟩ := by
  have k := Only.of_app d.gone hk
  refine ⟨?_, k.en d.come (by decide) (by decide), k.ch d.chg (by decide) (by decide)⟩
  unfold GoN; rw [List.length_append, u32s_append]; exact ho
/-- one more has come -/
theorem DlN.grow2 {base : Nat} {w w' : World} {g c h c' : Value} {D : Dl} {es : List E4} (d : DlN base w g c h D) (hr : w.ownsRow base 43 2 c D.come.length (ec es)) (hal : Al (Cn base w) es D.come) (i : Nat) (l : List C4) (A : Option Addr) (n m : Nat) (hx : Cn base w (A, n, m) l) (ho : w'.ownsRow base 43 2 c' (D.come.length + 1) (ec es ++ [.int .u32 i, .slice A n m])) (hk : Upd (fun b => c.ownBlock = some b) w w') : DlN base w' g c' h ⟨D.gone, D.come ++ [(i, l)], D.chg⟩ := by
  have k := Only.of_app hr hk
  exact ⟨k.own d.gone (by decide), EnN.grow hr hal i l A n m hx ho hk, k.ch d.chg (by decide) (by decide)⟩
/-- one more has changed -/
theorem DlN.grow3 {base : Nat} {w w' : World} {g c h h' : Value} {D : Dl} {es : List H4} (d : DlN base w g c h D) (hr : w.ownsRow base 57 4 h D.chg.length (hc es)) (hal : Ah (Cn base w) es D.chg) (x : Ch) (s1 s2 : Sl) (hx1 : Cn base w s1 x.nw) (hx2 : Cn base w s2 x.st) (ho : w'.ownsRow base 57 4 h' (D.chg.length + 1) (hc es ++ [.int .u32 x.id, .int .u8 x.lost.toNat, .slice s1.1 s1.2.1 s1.2.2, .slice s2.1 s2.2.1 s2.2.2])) (hk : Upd (fun b => h.ownBlock = some b) w w') : DlN base w' g c h' ⟨D.gone, D.come, D.chg ++ [x]⟩ := by
  have k := Only.of_app hr hk
  refine ⟨k.own d.gone (by decide), k.en d.come (by decide) (by decide), es ++ [(x.id, x.lost.toNat, s1, s2)], ?_, ?_⟩
  · rw [List.length_append, hc_append]; exact ho
  · refine (hal.map fun _ _ q => k.cn q (by decide)).append ?_
    exact ⟨⟨rfl, rfl, k.cn hx1 (by decide), k.cn hx2 (by decide)⟩, trivial⟩
def Ch.none (c : Ch) : Bool := decide (c.lost.toNat = 0 ∧ c.nw.length = 0 ∧ c.st.length = 0)
def chgP (w n : Et) : Ch := ⟨n.1, lostP w.2 n.2, newP w.2 n.2, setP w.2 n.2⟩
/-- side by side -/
def mrg : List Et → List Et → Dl
  | [], [] => ⟨[], [], []⟩
  | w :: ws, [] => let d := mrg ws []; ⟨w.1 :: d.gone, d.come, d.chg⟩
  | [], n :: ns => let d := mrg [] ns; ⟨d.gone, n :: d.come, d.chg⟩
  | w :: ws, n :: ns =>
    if w.1 < n.1 then let d := mrg ws (n :: ns); ⟨w.1 :: d.gone, d.come, d.chg⟩
    else if n.1 < w.1 then let d := mrg (w :: ws) ns; ⟨d.gone, n :: d.come, d.chg⟩
    else let d := mrg ws ns; if (chgP w n).none = true then d else ⟨d.gone, d.come, chgP w n :: d.chg⟩
  termination_by a b => a.length + b.length
def Dl.add (a b : Dl) : Dl := ⟨a.gone ++ b.gone, a.come ++ b.come, a.chg ++ b.chg⟩
end Go.Proofs.Ytdnkdmdmekdfkaa
