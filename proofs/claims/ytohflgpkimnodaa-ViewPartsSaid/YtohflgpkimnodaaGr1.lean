/- A grid: its two maps and its sets; what leaving and coming do to them (plain law). -/
import Derived.Test.YtohflgpkimnodaaCe2
import Derived.Maps.Range
namespace Go.Proofs.Ytohflgpkimnodaa
open Go.RowKit Go.Maps
/-- the block of a map, made since -/
def Sm (n0 : Nat) (w : World) (b : Nat) : Prop := n0 ≤ b ∧ ∃ es clock, w.heap[b]? = some (.map es clock)
/-- nothing but maps has turned -/
abbrev GUpd (n0 : Nat) (w w' : World) : Prop := Upd (Sm n0 w) w w'
theorem GUpd.trans {n0 : Nat} {w w' w'' : World} (h : GUpd n0 w w') (k : GUpd n0 w' w'') : GUpd n0 w w'' := h.then k fun b q => by
  by_cases hb : b < w.heap.size
  · by_cases hs : Sm n0 w b
    · exact .inl hs
    · obtain ⟨q0, es, c, q⟩ := q
      exact .inl ⟨q0, es, c, by rw [← h.block b hb hs]; exact q⟩
  · exact .inr (by omega)
theorem GUpd.now {w w' w'' : World} (h : New w w') (k : GUpd w.heap.size w' w'') : New w w'' := h.then k fun b q => .inr q.1
theorem GUpd.new {n0 : Nat} {w w' : World} (h : New w w') : GUpd n0 w w' := h.upd
theorem GUpd.blk {n0 : Nat} {w w' : World} (h : GUpd n0 w w') {b : Nat} {cs : Array Value} {t : TypeId} {f : Nat × Nat} (hb : w.heap[b]? = some (.cells cs t f)) : w'.heap[b]? = some (.cells cs t f) :=
  Upd.blk h hb (fun ⟨_, es, c, q⟩ => by rw [hb] at q; cases q)
theorem GUpd.cell {n0 : Nat} {w w' : World} (h : GUpd n0 w w') {a : Addr} {v : Value} (hc : w.cell? a = some v) : w'.cell? a = some v := Upd.cell h hc (fun ⟨_, es, c, q⟩ => by simp [World.cell?, q] at hc)
theorem GUpd.rd {n0 : Nat} {w w' : World} (h : GUpd n0 w w') {A : Option Addr} {cs : List Value} (hr : Rd w A cs) : Rd w' A cs := by
  rcases hr with rfl | ⟨b, off, rfl, hc⟩
  · exact .inl rfl
  · exact .inr ⟨b, off, rfl, fun i u hi => h.cell (hc i u hi)⟩
section
variable {P : Program} {k : TypeId} {R : Value → Option (DataW Unit × List MemPlace)} {w w' : World} {b n : Nat} {D : DataW Unit} {S : Nat → Prop}
theorem ownsMap_upd (h : w.ownsMap P k R b n D) (u : Upd S w w') (hs : ¬ S b) : w'.ownsMap P k R b n D := by
  obtain ⟨es, clock, hb, r⟩ := h
  exact ⟨es, clock, u.blk hb hs, r⟩
theorem ownsMap_tight (h : w.ownsMap P k R b n D) : w.ownsMap P k R b (Maps.size D) D := by
  obtain ⟨es, clock, hb, F, _, rfl⟩ := h
  exact ⟨es, clock, hb, F, by simp [Maps.size, length_sorted], rfl⟩
theorem ownsMap_Sm {n0 : Nat} (h : w.ownsMap P k R b n D) (hn : n0 ≤ b) : Sm n0 w b := by
  obtain ⟨es, clock, hb, _⟩ := h
  exact ⟨hn, es, clock, hb⟩
theorem ownsMap_obj (h : w.ownsMap P k R b n D) : ∃ es clock, w.heap[b]? = some (.map es clock) := by
  obtain ⟨es, clock, hb, _⟩ := h
  exact ⟨es, clock, hb⟩
theorem turned_upd (h : w.mapTurned w' b) : Upd (fun x => x = b) w w' := (Upd.refl _ w).grown h.grown (fun k e => by cases e; exact .inl rfl)
/-- how many entries there are -/
theorem size_of_keys {α : Type} (K : Keyed P k) (h : w.ownsMap P k R b n D) (f : α → Lit) (L : List α) (hn : (L.map f).Nodup) (hh : ∀ l, has D l = true ↔ ∃ a ∈ L, l = f a) : Maps.size D = L.length := by
  obtain ⟨es, rfl, hp, hk⟩ := h.entries K
  have hp2 : (es.map fun p => p.1).Nodup := List.pairwise_map.2 hp
  have : (es.map fun p => p.1).Perm (L.map f) := by
    refine (List.perm_ext_iff_of_nodup hp2 hn).2 fun l => ?_
    have e : l ∈ L.map f ↔ has (.map es) l = true := by rw [hh l, List.mem_map]; exact ⟨fun ⟨a, h1, h2⟩ => ⟨a, h1, h2.symm⟩, fun ⟨a, h1, h2⟩ => ⟨a, h1, h2.symm⟩⟩
    rw [e, has_eq, List.any_eq_true, List.mem_map]
    constructor
    · rintro ⟨p, hp', rfl⟩
      exact ⟨p, hp', WideAt.sameKey_self (hk p hp')⟩
    · rintro ⟨p, hp', hq⟩
      exact ⟨p, hp', WideAt.sameKey_eq hq⟩
  have h2 := this.length_eq
  simpa [Maps.size] using h2
theorem size_zero (h : w.ownsMap P k R b n D) (hz : Maps.size D = 0) (l : Lit) : has D l = false := by
  obtain ⟨es, _, _, _, _, rfl⟩ := h
  have : (es.toList.map (WideElems.rg P k R)).foldr DataW.insert [] = [] := List.length_eq_zero_iff.1 (by simpa [Maps.size] using hz)
  rw [this, has_eq]; rfl
end
end Go.Proofs.Ytohflgpkimnodaa
