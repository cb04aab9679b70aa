/- Diff and Patch at snapshots, in one piece. -/
import Derived.Test.YtdnkdmdmekdfkaaDf17
import Derived.Test.YtdnkdmdmekdfkaaDf18
namespace Go.Proofs.Ytdnkdmdmekdfkaa
open Go.RowKit
def Bd (L : List Et) : Prop := ∀ x ∈ L, x.1 < 4294967296 ∧ ∀ q ∈ x.2, q.k < 256
theorem sumL_mem {L : List Et} {x : Et} (h : x ∈ L) : x.2.length ≤ sumL L := by
  induction L with
  | nil => cases h
  | cons y L ih =>
    unfold sumL at ih ⊢
    rw [List.map_cons, List.sum_cons]
    rcases List.mem_cons.1 h with h | h
    · rw [h]; omega
    · have := ih h; omega
structure Ok (L : List Et) : Prop where
  f : frm 0 L = 0
  n : L.length ≤ 400
  l : ∀ x ∈ L, x.2.length ≤ 400
  b : Bd L
theorem few_ok {L : List Et} (hb : Bd L) (hf : few L = true) (h : frm 0 L = 0) : Ok L := by
  have hf := of_decide_eq_true hf
  exact ⟨h, by omega, fun x hx => by have := sumL_mem hx; omega, hb⟩
theorem few_sm {L : List Et} (hb : Bd L) (hf : few L = true) : Sm L ∧ L.length ≤ 400 := by
  have hf := of_decide_eq_true hf
  exact ⟨fun x hx => ⟨(hb x hx).1, by have := sumL_mem hx; omega, (hb x hx).2⟩, by omega⟩
theorem Ok.sm {L : List Et} (h : Ok L) : Sm L := fun x hx => ⟨(h.b x hx).1, Nat.le_trans (h.l x hx) (by omega), (h.b x hx).2⟩
theorem Ok.wf {L : List Et} (h : Ok L) : WfL L := (frm_wf L 0 h.f).1
theorem Ok.smP {L M : List Et} (hL : Ok L) (hM : Ok M) : SmP L (mrg L M) := by
  obtain ⟨h1, h2, h3, h4, h5⟩ := mrg_small L M
  have := hL.n
  have := hM.n
  refine ⟨by omega, fun x hx => (hL.b x hx).1, fun x hx => Nat.le_trans (hL.l x hx) (by omega), fun x hx => (hL.b x hx).2, by omega, by omega, fun x hx => hM.sm x (h4 x hx), by omega, fun c hc => ?_⟩
  obtain ⟨x, hx, n, hn, rfl⟩ := h5 c hc
  refine ⟨Nat.le_trans (List.length_filter_le _ _) (hM.l n hn), Nat.le_trans (List.length_filter_le _ _) (hM.l n hn), fun q hq => (hM.b n hn).2 q (List.mem_filter.1 hq).1, fun q hq => (hM.b n hn).2 q (List.mem_filter.1 hq).1⟩
theorem diffE_ok {L M : List Et} (hL : frm 0 L = 0) (hM : frm 0 M = 0) : diffE L M = 0 ∧ diffD L M = mrg L M := by
  have h : diffE L M = 0 := by unfold diffE; rw [if_neg (by simp [hL])]; exact hM
  exact ⟨h, by unfold diffD; rw [if_pos h]⟩
/-- Diff of two snapshots -/
theorem Diff_ok {A1 : Option Addr} {n1 p1 : Nat} {L1 : List Et} {A2 : Option Addr} {n2 p2 : Nat} {L2 : List Et} {w : World} (h1 : EnL w A1 n1 L1) (h2 : EnL w A2 n2 L2) (o1 : Ok L1) (o2 : Ok L2) (D : Dl) (hD : mrg L1 L2 = D) :
    Calls Try.prog 18 #[.slice A1 n1 p1, .slice A2 n2 p2] w fun e w' => (∃ (g0 : Option Addr) (g1 g2 : Nat) (c0 : Option Addr) (c1 c2 : Nat) (k0 : Option Addr) (k1 k2 : Nat), e = .returned (.tuple #[.agg #[.slice g0 g1 g2, .slice c0 c1 c2, .slice k0 k1 k2], .int .i64 0]) ∧ DlR w' g0 g1 g2 c0 c1 k0 k1 D) ∧ New w w' := by
  have := o1.n
  have := o2.n
  have e1 := h1.len
  have e2 := h2.len
  refine (Diff_any A1 n1 p1 L1 A2 n2 p2 L2 w h1 h2 (by omega) (by omega) o1.sm o2.sm).mono ?_
  rintro e w' ⟨⟨g, c, h, he, hd⟩, hu⟩
  rw [(diffE_ok o1.f o2.f).1] at he
  rw [(diffE_ok o1.f o2.f).2, hD] at hd
  obtain ⟨g0, g2, c0, c2, k0, k2, rfl, rfl, rfl, hr⟩ := hd.r
  exact ⟨⟨g0, _, g2, c0, _, c2, k0, _, k2, he, hr⟩, hu⟩
/-- Patch of a snapshot by its own delta -/
theorem Patch_ok {A : Option Addr} {n p : Nat} {L M : List Et} {g0 : Option Addr} {g1 g2 : Nat} {c0 : Option Addr} {c1 c2 : Nat} {h0 : Option Addr} {h1 h2 : Nat} {D : Dl} {w : World} (hx : EnL w A n L) (hd : DlR w g0 g1 g2 c0 c1 h0 h1 D) (o1 : Ok L) (o2 : Ok M) (hD : mrg L M = D) :
    Calls Try.prog 13 #[.slice A n p, .agg #[.slice g0 g1 g2, .slice c0 c1 c2, .slice h0 h1 h2]] w fun e w' => (∃ (t0 : Option Addr) (t1 t2 : Nat), e = .returned (.tuple #[.slice t0 t1 t2, .int .i64 0]) ∧ EnL w' t0 t1 M) ∧ New w w' := by
  subst hD
  refine (Patch_any A n p L g0 g1 g2 c0 c1 c2 h0 h1 h2 (mrg L M) w hx hd (o1.smP o2) o1.f).mono ?_
  rintro e w' ⟨⟨N, hC, h⟩, hu⟩
  obtain rfl := patch_uniq o1.wf o2.wf hC
  rcases h with ⟨⟨t0, t1, t2⟩, he, hen, _⟩ | ⟨_, hno⟩
  · obtain ⟨A', c', e', hl⟩ := hen.enl
    simp only [Value.slice.injEq] at e'
    obtain ⟨rfl, rfl, rfl⟩ := e'
    exact ⟨⟨_, _, _, he, hl⟩, hu⟩
  · exact absurd ⟨o2.f, rfl⟩ hno
theorem Twins_ok {A : Option Addr} {n c : Nat} {L : List Et} {w : World} (h : EnL w A n L) (hn : L.length ≤ 400) (hs : Sm L) : Calls Try.prog 11 #[.slice A n c] w fun e w' => (∃ (t0 : Option Addr) (t1 t2 : Nat), e = .returned (.slice t0 t1 t2) ∧ EnL w' t0 t1 L) ∧ New w w' := by
  have e1 := h.len
  refine (Twins_any A n c L w h (by omega) (fun x hx => (hs x hx).len)).mono ?_
  rintro e w' ⟨v, he, hen, hu⟩
  obtain ⟨A', c', rfl, hl⟩ := hen.enl
  exact ⟨⟨_, _, _, he, hl⟩, hu⟩
end Go.Proofs.Ytdnkdmdmekdfkaa
