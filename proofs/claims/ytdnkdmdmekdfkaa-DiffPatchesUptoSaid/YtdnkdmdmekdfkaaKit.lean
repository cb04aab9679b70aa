/- Small laws of memory that all walks of this seat use: what a slice reads as, what a call leaves as it was, append, make. -/
import Derived.Laws.StructEq
import Derived.Test.YtdnkdmdmekdfkaaRows
import Derived.WalkKit
import Derived.WalkSpells
import Derived.WalkLawsBesides
import Derived.Lib.Hide
import Derived.Lib.ConvBytes
import Derived.Deep.AppendSrc
import Derived.Laws.MakeOwn
import Derived.Laws.OwnMore
import Derived.IntWalk
import Derived.Laws.BytesString
import Derived.Lib.SliceRun
import Derived.Lib.AppendZerosOnto
import Derived.Lib.SlBytesConst
namespace Go.Proofs.Ytdnkdmdmekdfkaa
open Go.RowKit

/-- A fact kept from the walk. -/
structure Bx (p : Prop) : Prop where
  mk ::
  out : p

/-- Blocks that S doesn't hold are as they were. -/
structure Upd (S : Nat → Prop) (w w' : World) : Prop where
  os : w'.os = w.os
  tape : w'.tape = w.tape
  output : w'.output = w.output
  size : w.heap.size ≤ w'.heap.size
  block : ∀ k, k < w.heap.size → ¬ S k → w'.heap[k]? = w.heap[k]?
def Nowhere : Nat → Prop := fun _ => False
/-- Nothing that was there has turned. -/
abbrev New (w w' : World) : Prop := Upd Nowhere w w'

section
variable {S S' : Nat → Prop} {w w' w'' : World}
theorem Upd.refl (S : Nat → Prop) (w : World) : Upd S w w := ⟨rfl, rfl, rfl, Nat.le_refl _, fun _ _ _ => rfl⟩
theorem Upd.trans (h : Upd S w w') (k : Upd S w' w'') : Upd S w w'' :=
  ⟨k.os.trans h.os, k.tape.trans h.tape, k.output.trans h.output, Nat.le_trans h.size k.size, fun i hi hs => (k.block i (Nat.lt_of_lt_of_le hi h.size) hs).trans (h.block i hi hs)⟩
/-- Two steps: what the second turns is what the first may turn, or new. -/
theorem Upd.then (h : Upd S w w') (k : Upd S' w' w'') (hs : ∀ b, S' b → S b ∨ w.heap.size ≤ b) : Upd S w w'' :=
  ⟨k.os.trans h.os, k.tape.trans h.tape, k.output.trans h.output, Nat.le_trans h.size k.size, fun i hi hn => (k.block i (Nat.lt_of_lt_of_le hi h.size) (fun q => (hs i q).elim hn (fun l => absurd l (Nat.not_le.2 hi)))).trans (h.block i hi hn)⟩
theorem Upd.mono (h : Upd S w w') (hs : ∀ b, S b → S' b) : Upd S' w w' := ⟨h.os, h.tape, h.output, h.size, fun i hi hn => h.block i hi fun q => hn (hs i q)⟩
theorem New.upd (h : New w w') : Upd S w w' := h.mono fun _ q => q.elim
theorem Upd.drew (h : Upd S w w') : Upd S w w'.drew := ⟨h.os, h.tape, h.output, h.size, h.block⟩
theorem Upd.drewN (h : Upd S w w') (n : Nat) : Upd S w (w'.drewN n) := ⟨h.os, h.tape, h.output, h.size, h.block⟩
theorem Upd.alloc (h : Upd S w w') (o : Obj) : Upd S w (w'.alloc o) :=
  h.trans ⟨rfl, rfl, rfl, by simp, fun k hk _ => Below.heap_alloc _ _ _ hk⟩
theorem Upd.setCell (h : Upd S w w') {p : Addr} (hp : S p.block ∨ w.heap.size ≤ p.block) (u : Value) : Upd S w (w'.setCell p u) :=
  h.then (S' := fun b => b = p.block) ⟨rfl, rfl, rfl, by simp [World.setCell], fun k _ hk => Below.heap_setCell _ _ _ _ hk⟩ (fun _ hb => hb ▸ hp)
theorem Upd.set1 (w : World) (p : Addr) (u : Value) : Upd (fun b => b = p.block) w (w.setCell p u) :=
  ⟨rfl, rfl, rfl, by simp [World.setCell], fun k _ hk => Below.heap_setCell _ _ _ _ hk⟩
theorem Upd.grown (h : Upd S w w') {row : Option Nat} (hg : w'.grownBy w'' row) (hr : ∀ k, row = some k → S k ∨ w.heap.size ≤ k) : Upd S w w'' :=
  h.then (S' := fun b => some b = row) ⟨hg.os, hg.tape, hg.output, hg.size, fun k hk hn => hg.block k hk hn⟩ (fun b hb => hr b hb.symm)
theorem Upd.of_below (h : Below w.heap.size w w') : New w w' := ⟨h.os, h.tape, h.output, h.size, fun k hk _ => h.block k hk⟩
theorem New.below (h : New w w') : Below w.heap.size w w' := ⟨h.os, h.tape, h.output, h.size, fun k hk => h.block k hk (fun q => q.elim)⟩
theorem Upd.blk (h : Upd S w w') {b : Nat} {o : Obj} (hb : w.heap[b]? = some o) (hn : ¬ S b) : w'.heap[b]? = some o :=
  (h.block b (Array.getElem?_eq_some_iff.1 hb).1 hn).trans hb
theorem Upd.cell (h : Upd S w w') {a : Addr} {v : Value} (hc : w.cell? a = some v) (hn : ¬ S a.block) : w'.cell? a = some v :=
  (World.cell?_of_block (w := w) (h.block a.block (World.block_lt_of_cell? w a hc) hn)).trans hc
end

/-- The cells cs lie at A. -/
def Rd (w : World) (A : Option Addr) (cs : List Value) : Prop :=
  cs = [] ∨ ∃ b off, A = some ⟨b, off, none⟩ ∧ ∀ i u, cs[i]? = some u → w.cell? ⟨b, off + i, none⟩ = some u

theorem Rd.nil (w : World) (A : Option Addr) : Rd w A [] := .inl rfl
theorem Rd.at_ {w : World} {A : Option Addr} {cs : List Value} (h : Rd w A cs) (k : Nat) (hk : k < cs.length) :
    ∃ b off, A = some ⟨b, off, none⟩ ∧ w.cell? ⟨b, off + k, none⟩ = some cs[k] := by
  rcases h with rfl | ⟨b, off, hA, hc⟩
  · simp at hk
  · exact ⟨b, off, hA, hc k _ (by simp [hk])⟩
theorem Rd.upd {S : Nat → Prop} {w w' : World} {A : Option Addr} {cs : List Value} (h : Rd w A cs) (k : Upd S w w') (hs : ∀ a, A = some a → cs ≠ [] → ¬ S a.block) : Rd w' A cs := by
  rcases h with rfl | ⟨b, off, hA, hc⟩
  · exact .inl rfl
  · by_cases hn : cs = []
    · exact .inl hn
    · exact .inr ⟨b, off, hA, fun i u hi => k.cell (hc i u hi) (hs ⟨b, off, none⟩ hA hn)⟩
theorem Rd.new {w w' : World} {A : Option Addr} {cs : List Value} (h : Rd w A cs) (k : New w w') : Rd w' A cs := h.upd k fun _ _ _ q => q.elim
theorem Rd.lt {w : World} {A : Option Addr} {cs : List Value} (h : Rd w A cs) (hn : cs ≠ []) : ∃ b off, A = some ⟨b, off, none⟩ ∧ b < w.heap.size := by
  rcases h with rfl | ⟨b, off, hA, hc⟩
  · exact absurd rfl hn
  · cases cs with
    | nil => exact absurd rfl hn
    | cons c cs => exact ⟨b, off, hA, World.block_lt_of_cell? w _ (hc 0 c rfl)⟩
theorem Rd.take {w : World} {A : Option Addr} {cs : List Value} (h : Rd w A cs) (n : Nat) : Rd w A (cs.take n) := by
  rcases h with rfl | ⟨b, off, hA, hc⟩
  · simp [Rd]
  · refine .inr ⟨b, off, hA, fun i u hi => hc i u ?_⟩
    rw [List.getElem?_take] at hi
    split at hi
    · exact hi
    · cases hi
theorem Rd.prefix_ {w : World} {A : Option Addr} {cs ds : List Value} (h : Rd w A (cs ++ ds)) : Rd w A cs := by
  have := h.take cs.length
  rwa [List.take_left] at this
theorem Rd.drop_lit {w : World} {b off : Nat} {cs : List Value} (h : Rd w (some ⟨b, off, none⟩) cs) (n : Nat) : Rd w (some ⟨b, off + n, none⟩) (cs.drop n) := by
  rcases h with rfl | ⟨b', off', hA, hcl⟩
  · simp [Rd]
  · simp only [Option.some.injEq, Addr.mk.injEq, and_true] at hA
    obtain ⟨rfl, rfl⟩ := hA
    exact .inr ⟨b, off + n, rfl, fun i u hi => by rw [List.getElem?_drop] at hi; rw [Nat.add_assoc]; exact hcl _ _ hi⟩
/-- A store into another block. -/
theorem Rd.set_ {w : World} {b o : Nat} {cs : List Value} (h : Rd w (some ⟨b, o, none⟩) cs) (p : Addr) (u : Value) (hp : b ≠ p.block) : Rd (w.setCell p u) (some ⟨b, o, none⟩) cs :=
  h.upd (Upd.set1 w p u) (by intro a ha _; simp at ha; subst ha; exact hp)
/-- The part from n on, at whatever address the model gives it. -/
theorem Rd.drop {w : World} {A : Option Addr} {cs : List Value} (h : Rd w A cs) (n c : Nat) (hc : cs.length ≤ c) : Rd w (if c = n then A else A.map (·.add n)) (cs.drop n) := by
  rcases h with rfl | ⟨b, off, hA, hcl⟩
  · simp [Rd]
  · by_cases hn : n < cs.length
    · rw [if_neg (by omega)]
      subst hA
      refine .inr ⟨b, off + n, ?_, fun i u hi => ?_⟩
      · by_cases h0 : n = 0
        · subst h0; simp [Addr.add]
        · simp [Addr.add, h0]
      · rw [List.getElem?_drop] at hi
        rw [Nat.add_assoc]; exact hcl _ _ hi
    · rw [List.drop_eq_nil_of_le (by omega)]; exact .inl rfl

/-- A row of a call's own reads as it is owned. -/
theorem own_rd {w : World} {base : Nat} {e : TypeId} {size n : Nat} {v : Value} {xs : List Value} (h : w.ownsRow base e size v n xs) : ∃ A c, v = .slice A n c ∧ n ≤ c ∧ c ≤ maxLen ∧ Rd w A xs ∧ (∀ a, A = some a → base ≤ a.block ∧ a.block < w.heap.size ∧ v.ownBlock = some a.block) := by
  obtain ⟨hl, h⟩ := h
  rcases h with ⟨rfl, rfl⟩ | ⟨g, cap, cur, rfl, hg, hh, hn, hm, hs, ht⟩
  · have : xs = [] := List.eq_nil_of_length_eq_zero (by simpa using hl)
    subst this
    exact ⟨none, 0, rfl, Nat.le_refl _, Nat.zero_le _, .inl rfl, fun _ q => by cases q⟩
  · refine ⟨some ⟨g, 0, none⟩, cap, rfl, hn, hm, .inr ⟨g, 0, rfl, fun i u hi => ?_⟩, fun a ha => ?_⟩
    · have hs' : i < xs.length := by rcases Nat.lt_or_ge i xs.length with q | q; exact q; rw [List.getElem?_eq_none q] at hi; cases hi
      rw [Nat.zero_add, World.cell?, hh]
      rw [← ht, List.getElem?_take] at hi
      split at hi
      · simpa using hi
      · cases hi
    · cases ha; exact ⟨hg, (Array.getElem?_eq_some_iff.1 hh).1, rfl⟩
theorem own_upd {S : Nat → Prop} {w w' : World} {base : Nat} {e : TypeId} {size n : Nat} {v : Value} {xs : List Value} (h : w.ownsRow base e size v n xs) (k : Upd S w w') (hs : ∀ b, v.ownBlock = some b → ¬ S b) : w'.ownsRow base e size v n xs := by
  obtain ⟨hl, h⟩ := h
  refine ⟨hl, ?_⟩
  rcases h with h | ⟨g, cap, cur, hv, hg, hh, r⟩
  · exact .inl h
  · exact .inr ⟨g, cap, cur, hv, hg, k.blk hh (hs g (by rw [hv]; rfl)), r⟩
theorem own_new {w w' : World} {base : Nat} {e : TypeId} {size n : Nat} {v : Value} {xs : List Value} (h : w.ownsRow base e size v n xs) (k : New w w') : w'.ownsRow base e size v n xs := own_upd h k fun _ _ q => q.elim
theorem own_lower {w : World} {base base' : Nat} {e : TypeId} {size n : Nat} {v : Value} {xs : List Value} (h : w.ownsRow base e size v n xs) (hb : base' ≤ base) : w.ownsRow base' e size v n xs := by
  obtain ⟨hl, h⟩ := h
  refine ⟨hl, ?_⟩
  rcases h with h | ⟨g, cap, cur, hv, hg, r⟩
  · exact .inl h
  · exact .inr ⟨g, cap, cur, hv, Nat.le_trans hb hg, r⟩
theorem own_ge {w : World} {base : Nat} {e : TypeId} {size n : Nat} {v : Value} {xs : List Value} (h : w.ownsRow base e size v n xs) (b : Nat) (hb : v.ownBlock = some b) : base ≤ b := (h.lt b hb).1
theorem own_len {w : World} {base : Nat} {e : TypeId} {size n : Nat} {v : Value} {xs : List Value} (h : w.ownsRow base e size v n xs) : xs.length = n * size := h.1
theorem own_max {w : World} {base : Nat} {e : TypeId} {size n : Nat} {v : Value} {xs : List Value} (h : w.ownsRow base e size v n xs) : n ≤ maxLen := by
  obtain ⟨A, c, _, h1, h2, _⟩ := own_rd h; omega
/-- An element of a row of one-cell elements. -/
theorem own_elem {w : World} {base : Nat} {e : TypeId} {n : Nat} {v : Value} {xs : List Value} (h : w.ownsRow base e 1 v n xs) (i : Nat) (hi : i < n) :
    ∃ g c, v = .slice (some ⟨g, 0, none⟩) n c ∧ base ≤ g ∧ (∃ u, xs[i]? = some u ∧ w.cell? ⟨g, i, none⟩ = some u) ∧ w.frozen? ⟨g, i, none⟩ = false ∧ (∀ u, (w.setCell ⟨g, i, none⟩ u).ownsRow base e 1 v n (xs.set i u)) := by
  have h' := h
  obtain ⟨hl, h⟩ := h
  rcases h with ⟨rfl, rfl⟩ | ⟨g, cap, cur, rfl, hg, hh, r⟩
  · exact absurd hi (Nat.not_lt_zero _)
  · exact ⟨g, cap, rfl, hg, ⟨xs[i]'(by omega), by simp [show i < xs.length by omega], by rw [h'.cellAt i (by omega)]; simp [show i < xs.length by omega]⟩, h'.frozenAt i, fun u => (h'.stored i u).1⟩

theorem own_some {w : World} {base : Nat} {e : TypeId} {size n : Nat} {v : Value} {xs : List Value} (h : w.ownsRow base e size v n xs) (hn : 0 < n) :
    ∃ g c, v = .slice (some ⟨g, 0, none⟩) n c ∧ base ≤ g ∧ g < w.heap.size ∧ n ≤ c ∧ c ≤ maxLen ∧ Rd w (some ⟨g, 0, none⟩) xs := by
  have h' := h
  obtain ⟨hl, h⟩ := h
  rcases h with ⟨rfl, rfl⟩ | ⟨g, cap, cur, rfl, hg, hh, hc, hm, r⟩
  · exact absurd hn (Nat.lt_irrefl 0)
  · obtain ⟨A, c, hv, _, _, hr, _⟩ := own_rd h'
    cases hv
    exact ⟨g, cap, rfl, hg, (Array.getElem?_eq_some_iff.1 hh).1, hc, hm, hr⟩
theorem own_none {w : World} {base : Nat} {e : TypeId} {size n c : Nat} {A : Option Addr} {xs : List Value} (h : w.ownsRow base e size (.slice A n c) n xs) (_hn : 0 < n) : A = none → n = 0 := by
  intro hA
  subst hA
  obtain ⟨_, h | ⟨_, _, _, h, _⟩⟩ := h
  · exact h.2
  · cases h
theorem one_of_int (l : List Int) (k : IntKind) : ∀ u ∈ l.map (Value.int k), u.oneCell' = true := by
  intro u hu; obtain ⟨_, _, rfl⟩ := List.mem_map.1 hu; rfl

section append
variable {P : Program}
/-- What an append's second operand adds: the run where there is room, and where there is none. -/
structure App (P : Program) (t tx e : TypeId) (i : TypeInfo) (z : Value) (x : Value) (m : Nat) (news : List Value) (w : World) : Prop where
  len : news.length = m * i.size
  none_ : m = 0 → ∀ ty, (Builtin.append_ #[t, tx] ty #[.slice none 0 0, x]).run P w = .ok (.slice none 0 0) w
  room : ∀ ty g n cap cur, w.heap[g]? = some (.cells cur e (0, 0)) → n + m ≤ cap → n * i.size + news.length ≤ cur.size →
    (Builtin.append_ #[t, tx] ty #[.slice (some ⟨g, 0, none⟩) n cap, x]).run P w = .ok (.slice (some ⟨g, 0, none⟩) (n + m) cap) (w.setRow g (cur.toList.take (n * i.size) ++ news ++ cur.toList.drop (n * i.size + news.length)).toArray)
  grow : ∀ ty base n cap (olds : List Value), (Builtin.firstCells i.size n (.slice base n cap)).run P w.drew = .ok olds.toArray w.drew → cap < n + m → ((n + m : Nat) : Int) ≤ 9223372036854775807 → (n + m) * i.bytes ≤ 140737488355328 →
    (Builtin.append_ #[t, tx] ty #[.slice base n cap, x]).run P w = .ok (.slice (some ⟨w.heap.size, 0, none⟩) (n + m) (grownCap w (n + m) cap e)) (w.drew.alloc (.cells ((olds ++ news).toArray ++ Builtin.zeroCells z.cells (grownCap w (n + m) cap e - (n + m))) e))
theorem Src.app {t tx e : TypeId} {i : TypeInfo} {z x : Value} {m : Nat} {news : List Value} {w : World} (ht : P.underlying t = some (.slice e)) (hi : P.info? e = some i) (hz : i.zero = some z) (hs : Src P i.size tx x m news w) : App P t tx e i z x m news w := by
  refine ⟨hs.newsLen, fun hm ty => ?_, fun ty g n cap cur hg hroom hfit => ?_, fun ty base n cap olds hold hg h63 hb => ?_⟩
  · subst hm
    have hn : news = [] := List.eq_nil_of_length_eq_zero (by simpa using hs.newsLen)
    subst hn
    rcases hs.kind with ⟨e', hk⟩ | hk <;> simp [Builtin.append_, run_underlying ht, run_underlying hk, sizeOf, typeInfo, hi, hs.len, hs.cells]
  · have hst := run_storeCells_at P g (n * i.size) e news 0 cur w hg (by simpa using hfit) hs.one
    simp only [Nat.add_zero] at hst
    rcases hs.kind with ⟨e', hk⟩ | hk <;> simp [Builtin.append_, run_underlying ht, run_underlying hk, sizeOf, typeInfo, hi, hs.len, hroom, hs.cells, Addr.add_lit, hst]
  · exact run_append_grow_src (P := P) w t tx ty e i z ht hi hz base n cap olds hold x m news hs hg h63 (growslice_fits (by omega) hb)
/-- 'append(xs, make([]T, m)...)' -/
theorem zeros_app {t tx e : TypeId} {i : TypeInfo} {z : Value} {m : Nat} {kn : IntKind} {w : World} (ht : P.underlying t = some (.slice e)) (hk : P.underlying tx = some (.int kn)) (hi : P.info? e = some i) (hz : i.zero = some z) (hzs : z.cells.size = i.size) (h0 : 0 < m) (hs0 : 0 < i.size) (hm : (m : Int) ≤ 9223372036854775807) (hmb : m * i.bytes ≤ 140737488355328)
    (h1 : ∀ u ∈ (Builtin.zeroCells z.cells m).toList, u.oneCell' = true) : App P t tx e i z (.int kn m) m (Builtin.zeroCells z.cells m).toList w := by
  have hl : (Builtin.zeroCells z.cells m).toList.length = m * i.size := by rw [Array.length_toList, size_zeroCells, hzs]
  refine ⟨hl, fun hm ty => by omega, fun ty g n cap cur hg hroom hfit => ?_, fun ty base n cap olds hold hg h63 hb => ?_⟩
  · have hst := run_storeCells_at P g (n * i.size) e _ 0 cur w hg (by simpa using hfit) h1
    simp only [Nat.add_zero] at hst
    have hw : IntKind.i64.wrap (m : Int) = m := by rw [IntKind.wrap_i64]; omega
    have hneg : ¬ ((m : Int) < 0) := by omega
    have h48i : ¬ (281474976710656 < (m : Int) * (i.bytes : Int)) := by rw [← Int.natCast_mul]; omega
    have hns : ¬ (m * i.size = 0) := Nat.mul_ne_zero (by omega) (by omega)
    simp [Builtin.append_, run_underlying ht, run_underlying hk, sizeOf, typeInfo, zeroValue, hi, hz, asInt, asIntOf, hw, hneg, h48i, hns, hroom, Addr.add_lit, hst]
  · have := Lib.run_append_grow_zeros (P := P) w t tx ty e i z kn kn ht hk hi hz base n cap olds hold m h0 hs0 hg h63 (by omega) (growslice_fits (by omega) hb)
    rw [this]
    congr 3
    apply Array.ext'
    simp

variable (w : World)
/-- append onto a row of the call's own, of whatever is appended. -/
theorem run_append_src (base : Nat) (t tx ty e : TypeId) (i : TypeInfo) (z : Value) (size bytes : Nat)
    (hsize : i.size = size) (hby : i.bytes = bytes) (hzs : z.cells.size = size)
    (v : Value) (n : Nat) (xs : List Value) (hown : w.ownsRow base e size v n xs)
    (x : Value) (m : Nat) (news : List Value) (hs : App P t tx e i z x m news w)
    (h63 : n + m ≤ maxLen) (hbytes : (n + m) * bytes ≤ 140737488355328) (hbase : base ≤ w.heap.size) :
    ∃ v' w', (Builtin.append_ #[t, tx] ty #[v, x]).run P w = .ok v' w' ∧ w'.ownsRow base e size v' (n + m) (xs ++ news) ∧ w.grownBy w' v.ownBlock ∧
      (v' = .slice none 0 0 ↔ v = .slice none 0 0 ∧ m = 0) := by
  subst hsize
  subst hby
  have hl := hs.len
  have hsmall : n + m ≤ 9223372036854775807 := by simp only [maxLen] at h63; omega
  have hlen : (xs ++ news).length = (n + m) * i.size := by rw [List.length_append, hown.1, hl, Nat.add_mul]
  have grown : ∀ (old : Nat), old < n + m → ∀ (row : Option Nat),
      (w.drew.alloc (.cells ((xs ++ news).toArray ++ Builtin.zeroCells z.cells (grownCap w (n + m) old e - (n + m))) e)).ownsRow base e i.size
        (.slice (some ⟨w.heap.size, 0, none⟩) (n + m) (grownCap w (n + m) old e)) (n + m) (xs ++ news) ∧
      w.grownBy (w.drew.alloc (.cells ((xs ++ news).toArray ++ Builtin.zeroCells z.cells (grownCap w (n + m) old e - (n + m))) e)) row := by
    intro old ho row
    have hge := grownCap_ge w (n + m) old e
    have hcm : grownCap w (n + m) old e ≤ maxLen := grownCap_le_maxLen w (n + m) old e h63
    refine ⟨⟨hlen, .inr ⟨w.heap.size, _, _, rfl, hbase, heap_alloc_new w.drew _, hge, hcm, ?_, ?_⟩⟩, ⟨rfl, rfl, rfl, by simp, fun k hk _ => heap_alloc_old w.drew _ hk⟩⟩
    · simp only [Array.size_append, List.size_toArray, size_zeroCells, hzs, hlen, ← Nat.add_mul]
      congr 1
      omega
    · simp only [Array.toList_append]
      rw [← hlen]
      exact List.take_left
  rcases hown.2 with ⟨rfl, rfl⟩ | ⟨g, cap, cur, rfl, hbg, hg, hnc, hcm, hcs, htake⟩
  · have hx : xs = [] := List.eq_nil_of_length_eq_zero (by simpa using hown.1)
    subst hx
    by_cases hm : m = 0
    · have hr := hs.none_ hm ty
      subst hm
      have hn : news = [] := List.eq_nil_of_length_eq_zero (by simpa using hl)
      subst hn
      exact ⟨.slice none 0 0, w, hr, World.ownsRow_nil w base e i.size, ⟨rfl, rfl, rfl, Nat.le_refl _, fun _ _ _ => rfl⟩, by simp⟩
    · have hold : (Builtin.firstCells i.size 0 (.slice none 0 0)).run P w.drew = .ok ([] : List Value).toArray w.drew := run_firstCells_none w.drew i.size 0 0 0
      have hr := hs.grow ty none 0 0 [] hold (by omega) (by omega) hbytes
      have hgr := grown 0 (by omega) (Value.ownBlock (.slice none 0 0))
      simp only [List.nil_append] at hgr ⊢
      exact ⟨_, _, hr, hgr.1, hgr.2, by simp [hm]⟩
  · by_cases hroom : n + m ≤ cap
    · have hfit : n * i.size + news.length ≤ cur.size := by rw [hl, hcs, ← Nat.add_mul]; exact Nat.mul_le_mul_right _ hroom
      have hr := hs.room ty g n cap cur hg hroom hfit
      refine ⟨_, _, hr, ⟨hlen, .inr ⟨g, cap, _, rfl, hbg, setRow_heap w g cur _ e _ hg, hroom, hcm, ?_, ?_⟩⟩, ⟨rfl, rfl, rfl, by simp, fun k _ hk => setRow_other w g k _ (fun e => hk (by simp [Value.ownBlock, e]))⟩, by simp⟩
      · simp only [List.size_toArray, List.length_append, List.length_take, List.length_drop, Array.length_toList]
        omega
      · rw [htake, ← hlen]
        exact List.take_left
    · have holds : ∀ j u, xs[j]? = some u → w.cell? ((⟨g, 0, none⟩ : Addr).add j) = some u := hown.cells (g := g) rfl
      have hold : (Builtin.firstCells i.size n (.slice (some ⟨g, 0, none⟩) n cap)).run P w.drew = .ok xs.toArray w.drew :=
        run_firstCells_some w.drew i.size n _ n cap xs hown.1 (by simpa using holds)
      have hr := hs.grow ty (some ⟨g, 0, none⟩) n cap xs hold (by omega) (by omega) hbytes
      have hgr := grown cap (by omega) (Value.ownBlock (.slice (some ⟨g, 0, none⟩) n cap))
      exact ⟨_, _, hr, hgr.1, hgr.2, by simp⟩

/-- The arm of a walk: append onto a row that may be written. -/
theorem wpList_app' {ops : Array Oper} {rest : List Oper} {o : Oper} {a : Act} {Q : Exit → Act → World → Prop} (hgd : o.guard = none) (s x : Operand) (t tx : TypeId)
    (ho : o.op = .call { callee := .builtin .append, args := #[s, x], argTypes := #[t, tx] })
    (base : Nat) (e : TypeId) (i : TypeInfo) (z : Value) (size bytes : Nat)
    (hsize : i.size = size) (hby : i.bytes = bytes) (hzs : z.cells.size = size)
    (v : Value) (n : Nat) (xs : List Value) (hown : w.ownsRow base e size v n xs) (hs : a.eval s = v)
    (xv : Value) (m : Nat) (news : List Value) (hsrc : App P t tx e i z xv m news w) (hx : a.eval x = xv)
    (S : Nat → Prop) (w0 : World) (hU : Upd S w0 w) (hbase : base ≤ w0.heap.size) (hS : ∀ b, v.ownBlock = some b → S b ∨ w0.heap.size ≤ b)
    (h63 : n + m ≤ maxLen) (hbytes : (n + m) * bytes ≤ 140737488355328)
    (h : ∀ v' w', w'.ownsRow base e size v' (n + m) (xs ++ news) → Upd S w0 w' → Upd (fun k => v.ownBlock = some k) w w' → (v' = .slice none 0 0 ↔ v = .slice none 0 0 ∧ m = 0) → wpList P ops Q rest (a.put o.dst v') w') : wpList P ops Q (o :: rest) a w := by
  refine wpList_plain hgd fun K hK => ?_
  obtain ⟨v', w', hr, h2, h3, h4⟩ := run_append_src (P := P) w base t tx o.type e i z size bytes hsize hby hzs v n xs hown xv m news hsrc h63 hbytes (Nat.le_trans hbase hU.size)
  unfold Oper.wp execOp
  simp only [ho, resolve, invoke, builtin, Sem.run_bind, Sem.run_pure, Result.andThen_ok, List.map_toArray, List.map_cons, List.map_nil, hs, hx, hr]
  have hk : Upd (fun k => v.ownBlock = some k) w w' := ⟨h3.os, h3.tape, h3.output, h3.size, fun k hk hn => h3.block k hk (fun q => hn q.symm)⟩
  exact hK _ _ (h v' w' h2 (hU.then hk hS) hk h4)
/-- The arm of a walk: append onto a row of the call's own (made since w0). -/
theorem wpList_appN {ops : Array Oper} {rest : List Oper} {o : Oper} {a : Act} {Q : Exit → Act → World → Prop} (hgd : o.guard = none) (s x : Operand) (t tx : TypeId)
    (ho : o.op = .call { callee := .builtin .append, args := #[s, x], argTypes := #[t, tx] })
    (w0 : World) (e : TypeId) (z : Value) (size bytes : Nat) (ht : P.underlying t = some (.slice e)) (hinfo : (P.info? e).map (fun i => (i.zero, i.size, i.bytes)) = some (some z, size, bytes)) (hzs : z.cells.size = size)
    (v : Value) (n : Nat) (xs : List Value) (hown : w.ownsRow w0.heap.size e size v n xs) (hs : a.eval s = v)
    (xv : Value) (m : Nat) (news : List Value) (hsrc : Src P size tx xv m news w) (hx : a.eval x = xv)
    (S : Nat → Prop) (hU : Upd S w0 w)
    (h63 : n + m ≤ maxLen) (hbytes : (n + m) * bytes ≤ 140737488355328)
    (h : ∀ v' w', w'.ownsRow w0.heap.size e size v' (n + m) (xs ++ news) → Upd S w0 w' → Upd (fun k => v.ownBlock = some k) w w' → (v' = .slice none 0 0 ↔ v = .slice none 0 0 ∧ m = 0) → wpList P ops Q rest (a.put o.dst v') w') : wpList P ops Q (o :: rest) a w := by
  obtain ⟨i, hi, hz, hsize, hby⟩ := info_parts hinfo
  exact wpList_app' w hgd s x t tx ho w0.heap.size e i z size bytes hsize hby hzs v n xs hown hs xv m news (Src.app ht hi hz (hsize ▸ hsrc)) hx S w0 hU (Nat.le_refl _) (fun b hb => .inr (own_ge hown b hb)) h63 hbytes h
/-- The arm of a walk: 'append(xs, make([]T, m)...)' onto a row of the call's own. -/
theorem wpList_appZ {ops : Array Oper} {rest : List Oper} {o : Oper} {a : Act} {Q : Exit → Act → World → Prop} (hgd : o.guard = none) (s x : Operand) (t tx : TypeId) (kn : IntKind)
    (ho : o.op = .call { callee := .builtin .append, args := #[s, x], argTypes := #[t, tx] })
    (w0 : World) (e : TypeId) (z : Value) (bytes : Nat) (ht : P.underlying t = some (.slice e)) (htx : P.underlying tx = some (.int kn)) (hinfo : (P.info? e).map (fun i => (i.zero, i.size, i.bytes)) = some (some z, 1, bytes)) (hz1 : z.cells = #[z]) (hone : z.oneCell' = true)
    (v : Value) (n : Nat) (xs : List Value) (hown : w.ownsRow w0.heap.size e 1 v n xs) (hs : a.eval s = v)
    (m : Nat) (hx : a.eval x = .int kn m) (h0 : 0 < m)
    (S : Nat → Prop) (hU : Upd S w0 w)
    (h63 : n + m ≤ maxLen) (hbytes : (n + m) * bytes ≤ 140737488355328)
    (h : ∀ v' w', w'.ownsRow w0.heap.size e 1 v' (n + m) (xs ++ List.replicate m z) → Upd S w0 w' → Upd (fun k => v.ownBlock = some k) w w' → (v' = .slice none 0 0 ↔ v = .slice none 0 0 ∧ m = 0) → wpList P ops Q rest (a.put o.dst v') w') : wpList P ops Q (o :: rest) a w := by
  obtain ⟨i, hi, hz, hsize, hby⟩ := info_parts hinfo
  have hzc : (Builtin.zeroCells z.cells m).toList = List.replicate m z := by
    rw [hz1]
    apply List.ext_getElem
    · simp [Builtin.zeroCells]
    · intro j h1 h2
      simp [Builtin.zeroCells, Nat.mod_one]
  have happ := zeros_app (P := P) (w := w) (m := m) (kn := kn) ht htx hi hz (by rw [hz1, hsize]; rfl) h0 (by omega) (by simp only [maxLen] at h63; omega) (by rw [hby]; exact Nat.le_trans (Nat.mul_le_mul_right _ (by omega)) hbytes) (by rw [hzc]; intro u hu; rw [List.eq_of_mem_replicate hu]; exact hone)
  rw [hzc] at happ
  exact wpList_app' w hgd s x t tx ho w0.heap.size e i z 1 bytes hsize hby (by rw [hz1]; rfl) v n xs hown hs _ m _ happ hx S w0 hU (Nat.le_refl _) (fun b hb => .inr (own_ge hown b hb)) h63 hbytes h
theorem at_wpList {w : World} {ops l : _} {a : Act} {Q : Exit → Act → World → Prop} (h : wpList P ops Q l a w) : wpList P ops Q l a w := h
/-- 'make([]T, n)', T of one cell. -/
theorem wpList_make {w : World} {ops : Array Oper} {rest : List Oper} {o : Oper} {a : Act} {Q : Exit → Act → World → Prop} (hgd : o.guard = none) (t : TypeId) (x y : Operand) (ho : o.op = .makeSlice t x y)
    (e : TypeId) (z : Value) (bytes : Nat) (ht : P.underlying t = some (.slice e)) (hinfo : (P.info? e).map (fun i => (i.zero, i.size, i.bytes)) = some (some z, 1, bytes)) (hz1 : z.cells = #[z])
    (n : Nat) (kl kc : IntKind) (hx : a.eval x = .int kl n) (hy : a.eval y = .int kc n) (hb : bytes * n ≤ 281474976710656) (h63 : n ≤ maxLen) (w0 : World) (S : Nat → Prop) (hU : Upd S w0 w)
    (h : ∀ w', w'.ownsRow w.heap.size e 1 (.slice (some ⟨w.heap.size, 0, none⟩) n n) n (List.replicate n z) → Upd S w0 w' → New w w' → wpList P ops Q rest (a.put o.dst (.slice (some ⟨w.heap.size, 0, none⟩) n n)) w') : wpList P ops Q (o :: rest) a w := by
  obtain ⟨i, hi, hz, hsize, hby⟩ := info_parts hinfo
  obtain ⟨w', hr, ho', hg⟩ := run_make_full (P := P) w w.heap.size t e i z 1 ht hi hz hsize kl kc n (by rw [hby]; exact hb) h63 (Nat.le_refl _)
  have hN : New w w' := ⟨hg.os, hg.tape, hg.output, hg.size, fun k hk _ => hg.block k hk (by simp)⟩
  rw [hz1, Nat.mul_one, toList_madeCells_one] at ho'
  refine wpList_plain hgd fun K hK => ?_
  unfold Oper.wp execOp
  simp only [ho, hx, hy, Sem.run_bind, hr, Result.andThen_ok, Sem.run_pure]
  exact hK _ _ (h w' ho' (hU.then hN (fun _ q => q.elim)) hN)
/-- An operation whose run is known. -/
theorem wpList_run {w : World} {ops : Array Oper} {rest : List Oper} {o : Oper} {a : Act} {Q : Exit → Act → World → Prop} (hgd : o.guard = none) (v : Value) (w' : World) (h : (execOp a.eval o).run P w = .ok (.value v) w')
    (k : wpList P ops Q rest (a.put o.dst v) w') : wpList P ops Q (o :: rest) a w := by
  refine wpList_plain hgd fun K hK => ?_
  unfold Oper.wp
  rw [h]
  exact hK _ _ k
theorem wpList_buildSlice {w : World} {ops : Array Oper} {rest : List Oper} {o : Oper} {a : Act} {Q : Exit → Act → World → Prop} (hgd : o.guard = none) (t n : Nat) (parts : List (Nat × Operand)) (ho : o.op = .buildSlice t n parts.toArray) (vals : List (Nat × Value)) (v : Value) (w' : World) (h : (Instr.buildSlice t n vals.toArray).run P w = .ok v w')
    (hv : parts.map (fun (i, x) => (i, a.eval x)) = vals)
    (k : wpList P ops Q rest (a.put o.dst v) w') : wpList P ops Q (o :: rest) a w := by
  refine wpList_run hgd v w' ?_ k
  unfold execOp
  simp only [ho, List.map_toArray, hv, Sem.run_bind, h, Result.andThen_ok, Sem.run_pure]
/-- append inside a region that draws its order (for go_region_law). -/
theorem step_appN {ops : Array Oper} {o : Oper} {a : Act} {K : Act → World → Prop} {Q : Exit → Act → World → Prop} {E : Prop} (hgd : o.guard = none) (s x : Operand) (t tx : TypeId)
    (ho : o.op = .call { callee := .builtin .append, args := #[s, x], argTypes := #[t, tx] })
    (w0 : World) (e : TypeId) (z : Value) (size bytes : Nat) (ht : P.underlying t = some (.slice e)) (hinfo : (P.info? e).map (fun i => (i.zero, i.size, i.bytes)) = some (some z, size, bytes)) (hzs : z.cells.size = size)
    (v : Value) (n : Nat) (xs : List Value) (hown : w.ownsRow w0.heap.size e size v n xs) (hs : a.eval s = v)
    (xv : Value) (m : Nat) (news : List Value) (hsrc : Src P size tx xv m news w) (hx : a.eval x = xv)
    (S : Nat → Prop) (hU : Upd S w0 w)
    (h63 : n + m ≤ maxLen) (hbytes : (n + m) * bytes ≤ 140737488355328)
    (h : ∀ v' w', w'.ownsRow w0.heap.size e size v' (n + m) (xs ++ news) → Upd S w0 w' → Upd (fun k => v.ownBlock = some k) w w' → (v' = .slice none 0 0 ↔ v = .slice none 0 0 ∧ m = 0) → K (a.put o.dst v') w') :
    if Region.wanted o (yielded ops a.tmps) = true then Oper.wp P o a w K Q else E := by
  rw [if_pos (by simp [Region.wanted, hgd])]
  obtain ⟨i, hi, hz, hsize, hby⟩ := info_parts hinfo
  obtain ⟨v', w', hr, h2, h3, h4⟩ := run_append_src (P := P) w w0.heap.size t tx o.type e i z size bytes hsize hby hzs v n xs hown xv m news (Src.app ht hi hz (hsize ▸ hsrc)) h63 hbytes hU.size
  unfold Oper.wp execOp
  simp only [ho, resolve, invoke, builtin, Sem.run_bind, Sem.run_pure, Result.andThen_ok, List.map_toArray, List.map_cons, List.map_nil, hs, hx, hr]
  have hk : Upd (fun k => v.ownBlock = some k) w w' := ⟨h3.os, h3.tape, h3.output, h3.size, fun k hk hn => h3.block k hk (fun q => hn q.symm)⟩
  exact h v' w' h2 (hU.then hk (fun b hb => .inr (own_ge hown b hb))) hk h4
/-- 'min(x, y)', two integers. -/
theorem wpList_min {w : World} {ops : Array Oper} {rest : List Oper} {o : Oper} {a : Act} {Q : Exit → Act → World → Prop} (hgd : o.guard = none) (s x : Operand) (t tx : TypeId)
    (ho : o.op = .call { callee := .builtin .min, args := #[s, x], argTypes := #[t, tx] }) (k kx : IntKind) (p q m : Int) (hm : min p q = m) (hs : a.eval s = .int k p) (hx : a.eval x = .int kx q)
    (h : wpList P ops Q rest (a.put o.dst (.int k m)) w) : wpList P ops Q (o :: rest) a w := by
  refine wpList_run hgd (.int k m) w ?_ h
  unfold execOp
  simp only [ho, resolve, invoke, builtin, Sem.run_bind, Sem.run_pure, Result.andThen_ok, List.map_toArray, List.map_cons, List.map_nil, hs, hx, Builtin.min_, List.foldlM, Builtin.min2]
  rw [show (if q < p then q else p) = m by omega]
end append

abbrev Byte := BitVec 8
def u8s (xs : List Byte) : List Value := xs.map fun x => .int .u8 x.toNat
def bools (xs : List Bool) : List Value := xs.map .bool
theorem u8s_length (xs : List Byte) : (u8s xs).length = xs.length := by simp [u8s]
theorem bools_length (xs : List Bool) : (bools xs).length = xs.length := by simp [bools]
theorem u8s_one (l : List Byte) : ∀ u ∈ u8s l, u.oneCell' = true := by
  intro u hu; obtain ⟨_, _, rfl⟩ := List.mem_map.1 hu; rfl
theorem bools_one (l : List Bool) : ∀ u ∈ bools l, u.oneCell' = true := by
  intro u hu; obtain ⟨_, _, rfl⟩ := List.mem_map.1 hu; rfl
theorem u8s_at {w : World} {A : Option Addr} {xs : List Byte} (h : Rd w A (u8s xs)) (k : Nat) (hk : k < xs.length) :
    ∃ b off, A = some ⟨b, off, none⟩ ∧ w.cell? ⟨b, off + k, none⟩ = some (.int .u8 xs[k].toNat) := by
  obtain ⟨b, off, h1, h2⟩ := h.at_ k (by simpa [u8s] using hk)
  exact ⟨b, off, h1, by simpa [u8s] using h2⟩
theorem bools_at {w : World} {A : Option Addr} {xs : List Bool} (h : Rd w A (bools xs)) (k : Nat) (hk : k < xs.length) :
    ∃ b off, A = some ⟨b, off, none⟩ ∧ w.cell? ⟨b, off + k, none⟩ = some (.bool xs[k]) := by
  obtain ⟨b, off, h1, h2⟩ := h.at_ k (by simpa [bools] using hk)
  exact ⟨b, off, h1, by simpa [bools] using h2⟩

/-- Cells at an address are loaded. -/
theorem Rd.load {P : Program} {w : World} {A : Option Addr} {cs : List Value} (h : Rd w A cs) {a : Addr} (ha : A = some a) : (loadCells a cs.length).run P w = .ok cs.toArray w := by
  rcases h with rfl | ⟨b, off, hA, hc⟩
  · simp [loadCells, loadCellsFrom]
  · obtain rfl := Option.some.inj (ha.symm.trans hA)
    have := run_firstCells_some (P := P) w 1 cs.length ⟨b, off, none⟩ cs.length cs.length cs (by simp) (fun j u hj => by
      have := hc j u hj
      by_cases h0 : j = 0
      · subst h0; simpa [Addr.add] using this
      · simpa [Addr.add, h0] using this)
    simpa [Builtin.firstCells] using this
theorem Rd.src {P : Program} {w : World} {A : Option Addr} {cs : List Value} {tx e : TypeId} {n c size : Nat} (h : Rd w A cs) (hk : P.underlying tx = some (.slice e)) (hn : A = none → n = 0) (hl : cs.length = n * size) (h1 : ∀ u ∈ cs, u.oneCell' = true) : Src P size tx (.slice A n c) n cs w := by
  cases hA : A with
  | none =>
    obtain rfl := hn hA
    have : cs = [] := List.eq_nil_of_length_eq_zero (by omega)
    subst this
    exact ⟨.inl ⟨e, hk⟩, fun _ => rfl, run_firstCells_none w size 0 0 c, run_firstCells_none w.drew size 0 0 c, by simp, fun _ h => by cases h⟩
  | some a =>
    subst hA
    have e1 := h.load (P := P) rfl
    have e2 := (show Rd w.drew (some a) cs from by
      rcases h with h | ⟨b, off, hA, hc⟩
      · exact .inl h
      · exact .inr ⟨b, off, hA, fun i u hi => by simpa using hc i u hi⟩).load (P := P) rfl
    exact ⟨.inl ⟨e, hk⟩, fun _ => rfl, by simpa [Builtin.firstCells, ← hl] using e1, by simpa [Builtin.firstCells, ← hl] using e2, hl, h1⟩

/-- A row of the call's own is appended. -/
theorem own_src {P : Program} {w : World} {base : Nat} {tx e e' : TypeId} {n size : Nat} {v : Value} {xs : List Value} (hk : P.underlying tx = some (.slice e')) (h : w.ownsRow base e size v n xs) (h1 : ∀ u ∈ xs, u.oneCell' = true) : Src P size tx v n xs w := by
  obtain ⟨A, c, rfl, hn, _, hr, _⟩ := own_rd h
  refine hr.src hk (fun hA => ?_) h.1 h1
  subst hA
  obtain ⟨_, h | ⟨_, _, _, h, _⟩⟩ := h
  · exact h.2
  · cases h
/-- Bytes as a string. -/
def strOf (xs : List Byte) : ByteArray := ⟨(xs.map fun b => UInt8.ofBitVec b).toArray⟩
theorem strOf_inj {xs ys : List Byte} : strOf xs = strOf ys ↔ xs = ys := by
  refine ⟨fun h => ?_, fun h => h ▸ rfl⟩
  simp only [strOf, ByteArray.mk.injEq] at h
  have h' := congrArg Array.toList h
  simp only at h'
  exact (List.map_inj_right (fun a b hab => by simpa using hab)).1 h'
theorem foldl_push (ns : List Byte) : ∀ r : ByteArray, ns.foldl (fun (r : ByteArray) n => r.push (UInt8.ofNat (n.toNat : Int).toNat)) r = ⟨r.data ++ (ns.map fun b => UInt8.ofBitVec b).toArray⟩ := by
  induction ns with
  | nil => intro r; simp
  | cons n ns ih =>
    intro r
    rw [List.foldl_cons, ih]
    have : UInt8.ofNat (n.toNat : Int).toNat = UInt8.ofBitVec n := by
      rw [Int.toNat_natCast]
      apply UInt8.toBitVec_inj.1
      apply BitVec.eq_of_toNat_eq
      simp
    rw [this]
    simp [ByteArray.push]
theorem conv_str {P : Program} {w : World} {src dst e : TypeId} {A : Option Addr} {xs : List Byte} {n c : Nat} (hs : P.underlying src = some (.slice e)) (he : P.underlying e = some (.int .u8)) (hd : P.underlying dst = some .string)
    (h : Rd w A (u8s xs)) (hl : xs.length = n) : (convert src dst (.slice A n c)).run P w = .ok (.string (strOf xs)) w := by
  subst hl
  rw [run_convert_bytes_string w src dst e A _ c hs he hd]
  cases hA : A with
  | none =>
    have : xs = [] := by
      rcases h with h | ⟨b, off, h, _⟩
      · simpa [u8s] using h
      · rw [hA] at h; cases h
    subst this
    simp [Conv.bytesToString, strOf]; rfl
  | some a =>
    have hld := h.load (P := P) hA
    rw [u8s_length] at hld
    rw [run_bytesToString w a xs.length c (xs.map fun x : Byte => (x.toNat : Int)) (by rw [hld, u8s, List.map_map]; rfl), List.foldl_map]
    congr 2
    have := foldl_push xs ByteArray.empty
    rw [this]
    simp [strOf, ByteArray.empty, ByteArray.emptyWithCapacity]
    rfl

theorem take_snoc_bool (l : List Bool) (j : Nat) (h : j < l.length) : l.take (j + 1) = l.take j ++ [l.getD j false] := by
  rw [List.take_succ_eq_append_getElem h]; simp [List.getElem?_eq_getElem h]
/-- The call hands back a new row. -/
def RetRow (e : TypeId) (size n : Nat) (xs : List Value) (w : World) (en : Ending) (w' : World) : Prop := ∃ v, en = .returned v ∧ w'.ownsRow w.heap.size e size v n xs ∧ New w w'
/-- The call hands back a new row and a number (of an error). -/
def RetRowE (e : TypeId) (size n : Nat) (xs : List Value) (k : Int) (w : World) (en : Ending) (w' : World) : Prop := ∃ v, en = .returned (.tuple #[v, .int .i64 k]) ∧ w'.ownsRow w.heap.size e size v n xs ∧ New w w'
theorem cells_new (w : World) (cs : List Value) (e : TypeId) : ∀ j u, cs[j]? = some u → (w.alloc (.cells cs.toArray e)).cell? ((⟨w.heap.size, 0, none⟩ : Addr).add j) = some u := by
  intro j u h
  rw [show (⟨w.heap.size, 0, none⟩ : Addr).add j = ⟨w.heap.size, j, none⟩ by unfold Addr.add; split <;> simp_all]
  rw [World.cell?, heap_alloc_new]
  simpa using h
theorem rd_new (w : World) (cs : List Value) (e : TypeId) (fz : Nat × Nat := (0, 0)) : Rd (w.alloc (.cells cs.toArray e fz)) (some ⟨w.heap.size, 0, none⟩) cs := by
  refine .inr ⟨w.heap.size, 0, rfl, fun i u h => ?_⟩
  rw [Nat.zero_add, World.cell?, heap_alloc_new]
  simpa using h
theorem own_lit0 (w : World) (base : Nat) (e size : Nat) (hb : base ≤ w.heap.size) : (w.alloc (.cells #[] e)).ownsRow base e size (.slice (some ⟨w.heap.size, 0, none⟩) 0 0) 0 [] := by
  have := World.ownsRow_lit (base := base) (e := e) (size := size) w #[] 0 hb (by simp [maxLen]) (by simp)
  simpa using this
theorem strOf_toList (xs : List Byte) : (strOf xs).toList = xs.map fun b => UInt8.ofBitVec b := by rw [ByteArray.toList_eq]; simp [strOf]
theorem strOf_beq (xs ys : List Byte) : ((strOf xs).toList == (strOf ys).toList) = decide (xs = ys) := by
  rw [strOf_toList, strOf_toList, Bool.eq_iff_iff, beq_iff_eq, decide_eq_true_iff]
  exact List.map_inj_right (fun a b hab => by simpa using hab)
theorem own_bool {w : World} {base : Nat} {e : TypeId} {n : Nat} {v : Value} {L : List Bool} (h : w.ownsRow base e 1 v n (bools L)) (i : Nat) (hi : i < n) :
    ∃ g c, v = .slice (some ⟨g, 0, none⟩) n c ∧ base ≤ g ∧ w.cell? ⟨g, i, none⟩ = some (.bool (L.getD i false)) ∧ w.frozen? ⟨g, i, none⟩ = false ∧ (∀ b, (w.setCell ⟨g, i, none⟩ (.bool b)).ownsRow base e 1 v n (bools (L.set i b))) := by
  obtain ⟨g, c, hv, hg, ⟨u, hu, hc⟩, hf, hs⟩ := own_elem h i hi
  have : u = .bool (L.getD i false) := by
    simp only [bools, List.getElem?_map, Option.map_eq_some_iff] at hu
    obtain ⟨b, hb, rfl⟩ := hu
    simp [hb]
  subst this
  refine ⟨g, c, hv, hg, hc, hf, fun b => ?_⟩
  have := hs (.bool b)
  rwa [show (bools L).set i (.bool b) = bools (L.set i b) by simp [bools, List.map_set]] at this
theorem own_u8 {w : World} {base : Nat} {e : TypeId} {n : Nat} {v : Value} {L : List Byte} (h : w.ownsRow base e 1 v n (u8s L)) (i : Nat) (hi : i < n) :
    ∃ g c, v = .slice (some ⟨g, 0, none⟩) n c ∧ base ≤ g ∧ w.cell? ⟨g, i, none⟩ = some (.int .u8 (L.getD i 0#8).toNat) ∧ w.frozen? ⟨g, i, none⟩ = false ∧ (∀ b : Byte, (w.setCell ⟨g, i, none⟩ (.int .u8 b.toNat)).ownsRow base e 1 v n (u8s (L.set i b))) := by
  obtain ⟨g, c, hv, hg, ⟨u, hu, hc⟩, hf, hs⟩ := own_elem h i hi
  have : u = .int .u8 (L.getD i 0#8).toNat := by
    simp only [u8s, List.getElem?_map, Option.map_eq_some_iff] at hu
    obtain ⟨b, hb, rfl⟩ := hu
    simp [hb]
  subst this
  refine ⟨g, c, hv, hg, hc, hf, fun b => ?_⟩
  have := hs (.int .u8 b.toNat)
  rwa [show (u8s L).set i (.int .u8 b.toNat) = u8s (L.set i b) by simp [u8s, List.map_set]] at this
theorem rd_none {w : World} {A : Option Addr} {cs : List Value} (h : Rd w A cs) (hA : A = none) : cs = [] := by
  rcases h with h | ⟨b, off, h, _⟩
  · exact h
  · rw [hA] at h; cases h
theorem u8s_nil {xs : List Byte} (h : u8s xs = []) : xs = [] := by simpa [u8s] using h
theorem u8s_take (xs : List Byte) (n : Nat) : u8s (xs.take n) = (u8s xs).take n := by simp [u8s, List.map_take]
theorem u8s_drop (xs : List Byte) (n : Nat) : u8s (xs.drop n) = (u8s xs).drop n := by simp [u8s, List.map_drop]
theorem u8s_append (xs ys : List Byte) : u8s (xs ++ ys) = u8s xs ++ u8s ys := by simp [u8s]
theorem bools_append (xs ys : List Bool) : bools (xs ++ ys) = bools xs ++ bools ys := by simp [bools]

def fillTo (f : Nat → Value) (z : Value) (n k : Nat) : List Value := (List.range n).map fun i => if i < k then f i else z
theorem fillTo_length (f : Nat → Value) (z : Value) (n k : Nat) : (fillTo f z n k).length = n := by simp [fillTo]
theorem fillTo_zero (f : Nat → Value) (z : Value) (n : Nat) : fillTo f z n 0 = List.replicate n z := by
  apply List.ext_getElem <;> simp [fillTo]
theorem fillTo_all (f : Nat → Value) (z : Value) (n : Nat) : fillTo f z n n = (List.range n).map f := by
  apply List.ext_getElem
  · simp [fillTo]
  · intro i h1 h2; simp [fillTo] at h1 ⊢; omega
theorem fillTo_set (f : Nat → Value) (z : Value) (n k : Nat) : (fillTo f z n k).set k (f k) = fillTo f z n (k + 1) := by
  apply List.ext_getElem
  · simp [fillTo]
  · intro i h1 h2
    simp only [fillTo, List.getElem_set, List.getElem_map, List.getElem_range]
    by_cases h : k = i
    · subst h; simp
    · rw [if_neg h]
      by_cases h' : i < k
      · rw [if_pos h', if_pos (by omega)]
      · rw [if_neg h', if_neg (by omega)]

theorem rd_of_cells {w : World} {x : Addr} {cs : List Value} (h : ∀ i (hi : i < cs.length), w.cell? (x.add i) = some cs[i]) : Rd w (some x) cs := by
  cases cs with
  | nil => exact .inl rfl
  | cons c cs =>
    have h0 := h 0 (by simp)
    have hs : x.spot = none := by
      cases hx : x.spot with
      | none => rfl
      | some s =>
        simp only [Addr.add, World.cell?, hx] at h0
        split at h0 <;> simp_all
    obtain ⟨b, off, spot⟩ := x
    cases hs
    refine .inr ⟨b, off, rfl, fun i u hi => ?_⟩
    obtain ⟨hlt, rfl⟩ := List.getElem?_eq_some_iff.1 hi
    rw [← h i hlt]
    congr 1
    by_cases h0 : i = 0
    · subst h0; simp [Addr.add]
    · simp [Addr.add, h0]
/-- What a law's slice of bytes reads as. -/
theorem bytes_of_row {w : World} {a : Option Addr} {len cap : Nat} {zs : List Int}
    (h : (a = none ∧ len = 0 ∧ cap = 0 ∧ zs = []) ∨ ∃ x, a = some x ∧ len ≤ cap ∧ cap ≤ maxLen ∧ zs.length = cap ∧ (∀ i, i < zs.length → w.cell? (x.add i) = some (.int .u8 (zs.getD i 0))) ∧ ∀ n ∈ zs, (Lit.int .u8 n).wf = true) :
    ∃ xs : List Byte, xs.length = len ∧ len ≤ cap ∧ (a = none → len = 0) ∧ Rd w a (u8s xs) := by
  rcases h with ⟨rfl, rfl, rfl, rfl⟩ | ⟨x, rfl, hl, hm, hz, hc, hw⟩
  · exact ⟨[], rfl, Nat.le_refl _, fun _ => rfl, .inl rfl⟩
  · refine ⟨(zs.take len).map (BitVec.ofInt 8), by simp; omega, hl, (fun h => by cases h), ?_⟩
    refine rd_of_cells fun i hi => ?_
    have hi' : i < len := by simp [u8s] at hi; omega
    have hiz : i < zs.length := by omega
    rw [hc i hiz]
    have hwf := hw (zs[i]) (List.getElem_mem hiz)
    simp only [Lit.wf, IntKind.has, decide_eq_true_eq, Bool.and_eq_true] at hwf
    simp only [u8s, List.getElem_map, List.getElem_take, List.getD_eq_getElem?_getD, List.getElem?_eq_getElem hiz, Option.getD_some, BitVec.toNat_ofInt]
    congr 2
    have : IntKind.u8.min = 0 ∧ IntKind.u8.max = 255 := by decide
    omega
theorem nat_of_wf {k : IntKind} {a : Int} (h : (Lit.int k a).wf = true) (hk : k.min = 0) : ∃ n : Nat, a = n ∧ (n : Int) ≤ k.max := by
  simp only [Lit.wf, IntKind.has, decide_eq_true_eq, Bool.and_eq_true, hk] at h
  obtain ⟨n, rfl⟩ := Int.eq_ofNat_of_zero_le h.1
  exact ⟨n, rfl, h.2⟩
theorem bv8_of_wf {a : Int} (h : (Lit.int .u8 a).wf = true) : ∃ b : BitVec 8, a = (b.toNat : Int) := by
  obtain ⟨n, rfl, hn⟩ := nat_of_wf h rfl
  have : IntKind.u8.max = 255 := by decide
  exact ⟨BitVec.ofNat 8 n, by rw [BitVec.toNat_ofNat, Nat.mod_eq_of_lt (by omega)]⟩
theorem bv32_of_wf {a : Int} (h : (Lit.int .u32 a).wf = true) : ∃ b : BitVec 32, a = (b.toNat : Int) := by
  obtain ⟨n, rfl, hn⟩ := nat_of_wf h rfl
  have : IntKind.u32.max = 4294967295 := by decide
  exact ⟨BitVec.ofNat 32 n, by rw [BitVec.toNat_ofNat, Nat.mod_eq_of_lt (by omega)]⟩

theorem equal_loop {P : Program} (w : World) (d : Nat) (e : TypeId) (k : IntKind) (he : P.underlying e = some (.int k)) (xs ys : List Int) (hl : xs.length = ys.length) (n : Nat) : ∀ j, j + n = xs.length →
    (forIn (List.range' j n) (none, ()) fun (i : Nat) (_ : Option Bool × Unit) => do
        let a ← part e (xs.map (Value.int k)).toArray (i * 1)
        let b ← part e (ys.map (Value.int k)).toArray (i * 1)
        let r ← Op.equalIn (d + 1) e a b
        if (!r) = true then pure (ForInStep.done (some false, ())) else (pure (ForInStep.yield (none, ())) : Sem (ForInStep (Option Bool × Unit)))).run P w
      = .ok (if xs.drop j = ys.drop j then (none, ()) else (some false, ())) w := by
  induction n with
  | zero =>
    intro j hj
    rw [List.drop_of_length_le (by omega), List.drop_of_length_le (by omega)]
    simp
  | succ n ih =>
    intro j hj
    have hp : ∀ (zs : List Int) (h : j < zs.length), (part e (zs.map (Value.int k)).toArray (j * 1)).run P w = .ok (.int k zs[j]) w := by
      intro zs h
      simp [part, isAgg, run_underlying he, h]
    rw [List.range'_succ, List.forIn_cons]
    simp only [Sem.run_bind, hp xs (by omega), hp ys (by omega), Result.andThen_ok, run_equalIn_int w d e k k _ _ he, Sem.run_ite, Sem.run_pure]
    rw [List.drop_eq_getElem_cons (show j < xs.length by omega), List.drop_eq_getElem_cons (show j < ys.length by omega)]
    by_cases hq : xs[j]'(by omega) = ys[j]'(by omega)
    · rw [hq]
      simp only [beq_self_eq_true, Bool.not_true, Bool.false_eq_true, if_false, Sem.run_pure, Result.andThen_ok]
      rw [ih (j + 1) (by omega)]
      by_cases hd : xs.drop (j + 1) = ys.drop (j + 1)
      · rw [if_pos hd, if_pos (by rw [hd])]
      · rw [if_neg hd, if_neg (by intro h; injection h; contradiction)]
    · have : (xs[j]'(by omega) == ys[j]'(by omega)) = false := by simpa using hq
      simp only [this, Bool.not_false, if_true, Sem.run_pure, Result.andThen_ok]
      rw [if_neg (by intro h; injection h; contradiction)]
theorem run_equalIn_array {P : Program} (w : World) (d : Nat) (t e : TypeId) (k : IntKind) (len : Nat) {z : Option Value} {bytes : Nat} (ht : P.underlying t = some (.array len e)) (he : P.underlying e = some (.int k)) (hinfo : (P.info? e).map (fun i => (i.zero, i.size, i.bytes)) = some (z, 1, bytes))
    (xs ys : List Int) (hx : xs.length = len) (hy : ys.length = len) :
    (Op.equalIn (d + 2) t (.agg (xs.map (Value.int k)).toArray) (.agg (ys.map (Value.int k)).toArray)).run P w = .ok (decide (xs = ys)) w := by
  obtain ⟨i, hi, hz⟩ := Option.map_eq_some_iff.mp hinfo
  obtain ⟨-, hsz, -⟩ := by simpa using hz
  rw [Op.equalIn]
  have hs : (sizeOf e).run P w = .ok 1 w := by simp [sizeOf, typeInfo, hi, hsz]
  simp only [Sem.run_bind, run_underlying ht, Result.andThen_ok, hs, Std.Legacy.Range.forIn_eq_forIn_range']
  have := equal_loop w d e k he xs ys (hx.trans hy.symm) len 0 (by omega)
  simp only [Std.Legacy.Range.size]
  rw [show (len - 0 + 1 - 1) / 1 = len by omega]
  rw [this]
  by_cases h : xs = ys
  · subst h; simp
  · simp [h]
theorem run_eql_array {P : Program} (w : World) (t e : TypeId) (k : IntKind) (len : Nat) {z : Option Value} {bytes : Nat} (ht : P.underlying t = some (.array len e)) (he : P.underlying e = some (.int k)) (hinfo : (P.info? e).map (fun i => (i.zero, i.size, i.bytes)) = some (z, 1, bytes))
    (xs ys : List Int) (hx : xs.length = len) (hy : ys.length = len) :
    (binOp .eql t (.agg (xs.map (Value.int k)).toArray) (.agg (ys.map (Value.int k)).toArray)).run P w = .ok (.bool (decide (xs = ys))) w := by
  rw [run_eql_struct, run_equalIn_array w 9998 t e k len ht he hinfo xs ys hx hy, Result.andThen_ok]
end Go.Proofs.Ytdnkdmdmekdfkaa
