/- Rows that are cut within their room: append(s[:i], s[j:]...), clear; an append within a region, onto a row that somebody holds. -/
import Derived.Test.YtdnkdmdmekdfkaaOwn
import Derived.Deep.RegionLaw
namespace Go.Proofs.Ytdnkdmdmekdfkaa
open Go.RowKit
section
variable {P : Program} {w : World}
/-- The front of a row is a row. -/
theorem own_front {base e size n cap i g : Nat} {xs : List Value} (h : w.ownsRow base e size (.slice (some ⟨g, 0, none⟩) n cap) n xs) (hi : i ≤ n) : w.ownsRow base e size (.slice (some ⟨g, 0, none⟩) i cap) i (xs.take (i * size)) := by
  obtain ⟨hl, ⟨hv, _⟩ | ⟨g', cap', cur, hv, hg, hh, hn, hm, hs, ht⟩⟩ := h
  · cases hv
  · simp only [Value.slice.injEq, Option.some.injEq, Addr.mk.injEq, and_true, true_and] at hv
    obtain ⟨rfl, rfl⟩ := hv
    have hle : i * size ≤ n * size := Nat.mul_le_mul_right _ hi
    refine ⟨by rw [List.length_take]; omega, .inr ⟨g, cap, cur, rfl, hg, hh, by omega, hm, hs, ?_⟩⟩
    rw [← ht, List.take_take, Nat.min_eq_left hle]
/-- append where there is room. -/
theorem run_append_room {base : Nat} {t tx ty e : TypeId} {i : TypeInfo} {z : Value} {g n cap : Nat} {xs : List Value} (hown : w.ownsRow base e i.size (.slice (some ⟨g, 0, none⟩) n cap) n xs)
    {x : Value} {m : Nat} {news : List Value} (hs : App P t tx e i z x m news w) (hroom : n + m ≤ cap) :
    ∃ w', (Builtin.append_ #[t, tx] ty #[.slice (some ⟨g, 0, none⟩) n cap, x]).run P w = .ok (.slice (some ⟨g, 0, none⟩) (n + m) cap) w' ∧ w'.ownsRow base e i.size (.slice (some ⟨g, 0, none⟩) (n + m) cap) (n + m) (xs ++ news) ∧ Upd (fun b => b = g) w w' := by
  obtain ⟨hl, ⟨hv, _⟩ | ⟨g', cap', cur, hv, hg, hh, hn, hm, hcs, ht⟩⟩ := hown
  · cases hv
  · simp only [Value.slice.injEq, Option.some.injEq, Addr.mk.injEq, and_true, true_and] at hv
    obtain ⟨rfl, rfl⟩ := hv
    have hlen : (xs ++ news).length = (n + m) * i.size := by rw [List.length_append, hl, hs.len, Nat.add_mul]
    have hfit : n * i.size + news.length ≤ cur.size := by rw [hs.len, hcs, ← Nat.add_mul]; exact Nat.mul_le_mul_right _ hroom
    have hr := hs.room ty g n cap cur hh hroom hfit
    refine ⟨_, hr, ⟨hlen, .inr ⟨g, cap, _, rfl, hg, setRow_heap w g cur _ e _ hh, hroom, hm, ?_, ?_⟩⟩, ⟨rfl, rfl, rfl, by simp, fun k _ hk => setRow_other w g k _ hk⟩⟩
    · simp only [List.size_toArray, List.length_append, List.length_take, List.length_drop, Array.length_toList]
      omega
    · rw [ht, ← hlen]
      exact List.take_left
/-- append where there is room, inside a region that draws its order (for go_region_law). -/
theorem step_room {ops : Array Oper} {o : Oper} {a : Act} {K : Act → World → Prop} {Q : Exit → Act → World → Prop} {E : Prop} (hgd : o.guard = none) (s x : Operand) (t tx : TypeId)
    (ho : o.op = .call { callee := .builtin .append, args := #[s, x], argTypes := #[t, tx] })
    (base : Nat) (e : TypeId) (z : Value) (size bytes : Nat) (ht : P.underlying t = some (.slice e)) (hinfo : (P.info? e).map (fun i => (i.zero, i.size, i.bytes)) = some (some z, size, bytes))
    (g n cap : Nat) (xs : List Value) (hown : w.ownsRow base e size (.slice (some ⟨g, 0, none⟩) n cap) n xs) (hs : a.eval s = .slice (some ⟨g, 0, none⟩) n cap)
    (xv : Value) (m : Nat) (news : List Value) (hsrc : Src P size tx xv m news w) (hx : a.eval x = xv) (hroom : n + m ≤ cap)
    (h : ∀ w', w'.ownsRow base e size (.slice (some ⟨g, 0, none⟩) (n + m) cap) (n + m) (xs ++ news) → Upd (fun b => b = g) w w' → K (a.put o.dst (.slice (some ⟨g, 0, none⟩) (n + m) cap)) w') :
    if Region.wanted o (yielded ops a.tmps) = true then Oper.wp P o a w K Q else E := by
  rw [if_pos (by simp [Region.wanted, hgd])]
  obtain ⟨i, hi, hz, hsize, hby⟩ := info_parts hinfo
  subst hsize
  obtain ⟨w', hr, h2, h3⟩ := run_append_room (P := P) (ty := o.type) hown (Src.app ht hi hz hsrc) hroom
  unfold Oper.wp execOp
  simp only [ho, resolve, invoke, builtin, Sem.run_bind, Sem.run_pure, Result.andThen_ok, List.map_toArray, List.map_cons, List.map_nil, hs, hx, hr]
  exact h w' h2 h3
/-- append where there is room: the arm of a walk. -/
theorem wpList_room {ops : Array Oper} {rest : List Oper} {o : Oper} {a : Act} {Q : Exit → Act → World → Prop} (hgd : o.guard = none) (s x : Operand) (t tx : TypeId)
    (ho : o.op = .call { callee := .builtin .append, args := #[s, x], argTypes := #[t, tx] })
    (base : Nat) (e : TypeId) (z : Value) (size bytes : Nat) (ht : P.underlying t = some (.slice e)) (hinfo : (P.info? e).map (fun i => (i.zero, i.size, i.bytes)) = some (some z, size, bytes))
    (g n cap : Nat) (xs : List Value) (hown : w.ownsRow base e size (.slice (some ⟨g, 0, none⟩) n cap) n xs) (hs : a.eval s = .slice (some ⟨g, 0, none⟩) n cap)
    (xv : Value) (m : Nat) (news : List Value) (hsrc : Src P size tx xv m news w) (hx : a.eval x = xv) (hroom : n + m ≤ cap)
    (h : ∀ w', w'.ownsRow base e size (.slice (some ⟨g, 0, none⟩) (n + m) cap) (n + m) (xs ++ news) → Upd (fun b => b = g) w w' → wpList P ops Q rest (a.put o.dst (.slice (some ⟨g, 0, none⟩) (n + m) cap)) w') : wpList P ops Q (o :: rest) a w := by
  obtain ⟨i, hi, hz, hsize, hby⟩ := info_parts hinfo
  subst hsize
  obtain ⟨w', hr, h2, h3⟩ := run_append_room (P := P) (ty := o.type) hown (Src.app ht hi hz hsrc) hroom
  refine wpList_run hgd _ w' ?_ (h w' h2 h3)
  unfold execOp
  simp only [ho, resolve, invoke, builtin, Sem.run_bind, Sem.run_pure, Result.andThen_ok, List.map_toArray, List.map_cons, List.map_nil, hs, hx, hr]
/-- clear behind a row, within its room: the arm of a walk. -/
theorem wpList_clear {ops : Array Oper} {rest : List Oper} {o : Oper} {a : Act} {Q : Exit → Act → World → Prop} (hgd : o.guard = none) (s : Operand) (t : TypeId)
    (ho : o.op = .call { callee := .builtin .clear, args := #[s], argTypes := #[t] })
    (run : ∃ w', (Builtin.clear_ #[t] o.type #[a.eval s]).run P w = .ok (.tuple #[]) w' ∧ wpList P ops Q rest (a.put o.dst (.tuple #[])) w') : wpList P ops Q (o :: rest) a w := by
  obtain ⟨w', hr, h⟩ := run
  refine wpList_run hgd _ w' ?_ h
  unfold execOp
  simp only [ho, resolve, invoke, builtin, Sem.run_bind, Sem.run_pure, Result.andThen_ok, List.map_toArray, List.map_cons, List.map_nil, hr]
/-- append onto a row that somebody holds, inside a region that draws its order (for go_region_law). -/
theorem step_appB {ops : Array Oper} {o : Oper} {a : Act} {K : Act → World → Prop} {Q : Exit → Act → World → Prop} {E : Prop} (hgd : o.guard = none) (s x : Operand) (t tx : TypeId)
    (ho : o.op = .call { callee := .builtin .append, args := #[s, x], argTypes := #[t, tx] })
    (base : Nat) (e : TypeId) (z : Value) (size bytes : Nat) (ht : P.underlying t = some (.slice e)) (hinfo : (P.info? e).map (fun i => (i.zero, i.size, i.bytes)) = some (some z, size, bytes)) (hzs : z.cells.size = size)
    (v : Value) (n : Nat) (xs : List Value) (hown : w.ownsRow base e size v n xs) (hs : a.eval s = v)
    (xv : Value) (m : Nat) (news : List Value) (hsrc : Src P size tx xv m news w) (hx : a.eval x = xv)
    (hbase : base ≤ w.heap.size) (h63 : n + m ≤ maxLen) (hbytes : (n + m) * bytes ≤ 140737488355328)
    (h : ∀ v' w', w'.ownsRow base e size v' (n + m) (xs ++ news) → Upd (fun k => v.ownBlock = some k) w w' → (∀ b, v'.ownBlock = some b → v.ownBlock = some b ∨ w.heap.size ≤ b) → K (a.put o.dst v') w') :
    if Region.wanted o (yielded ops a.tmps) = true then Oper.wp P o a w K Q else E := by
  rw [if_pos (by simp [Region.wanted, hgd])]
  obtain ⟨i, hi, hz, hsize, hby⟩ := info_parts hinfo
  have hsa := Src.app ht hi hz (hsize ▸ hsrc)
  obtain ⟨v', w', hr, h2, h3, h4⟩ := run_append_src (P := P) w base t tx o.type e i z size bytes hsize hby hzs v n xs hown xv m news hsa h63 hbytes hbase
  have hwh := append_where (hsize ▸ hown) hsa h63 (hby ▸ hbytes) hr
  unfold Oper.wp execOp
  simp only [ho, resolve, invoke, builtin, Sem.run_bind, Sem.run_pure, Result.andThen_ok, List.map_toArray, List.map_cons, List.map_nil, hs, hx, hr]
  have hk : Upd (fun k => v.ownBlock = some k) w w' := ⟨h3.os, h3.tape, h3.output, h3.size, fun k hk hn => h3.block k hk (fun q => hn q.symm)⟩
  exact h v' w' h2 hk hwh
theorem zeroCells_one (cs : Array Value) (h0 : 0 < cs.size) (h : ∀ u ∈ cs, u.oneCell' = true) (m : Nat) : ∀ u ∈ (Builtin.zeroCells cs m).toList, u.oneCell' = true := by
  intro u hu
  obtain ⟨j, hj, rfl⟩ := List.getElem_of_mem hu
  simp only [Builtin.zeroCells, ]
  have hlt : j % cs.size < cs.size := Nat.mod_lt _ h0
  simp [hlt]
  exact h _ (Array.getElem_mem hlt)
/-- clear behind a row, within its room. -/
theorem run_clear_own {base : Nat} {t ty e : TypeId} {i : TypeInfo} {z : Value} {g n cap k c : Nat} {xs : List Value} (ht : P.underlying t = some (.slice e)) (hi : P.info? e = some i) (hz : i.zero = some z) (hzs : z.cells.size = i.size) (h1 : ∀ m, ∀ u ∈ (Builtin.zeroCells z.cells m).toList, u.oneCell' = true)
    (hown : w.ownsRow base e i.size (.slice (some ⟨g, 0, none⟩) n cap) n xs) (hk : n + k ≤ cap) :
    ∃ w', (Builtin.clear_ #[t] ty #[.slice (some ⟨g, n * i.size, none⟩) k c]).run P w = .ok (.tuple #[]) w' ∧ w'.ownsRow base e i.size (.slice (some ⟨g, 0, none⟩) n cap) n xs ∧ Upd (fun b => b = g) w w' := by
  rcases Nat.eq_zero_or_pos k with rfl | hpos
  · exact ⟨w, by simp [Builtin.clear_, run_underlying ht], hown, Upd.refl _ _⟩
  obtain ⟨hl, ⟨hv, _⟩ | ⟨g', cap', cur, hv, hg, hh, hn, hm, hcs, htk⟩⟩ := hown
  · cases hv
  · simp only [Value.slice.injEq, Option.some.injEq, Addr.mk.injEq, and_true, true_and] at hv
    obtain ⟨rfl, rfl⟩ := hv
    have hzl : (Builtin.zeroCells z.cells k).toList.length = k * i.size := by rw [Array.length_toList, size_zeroCells, hzs]
    have hfit : n * i.size + k * i.size ≤ cur.size := by rw [hcs, ← Nat.add_mul]; exact Nat.mul_le_mul_right _ hk
    have hst := run_storeCells_at P g (n * i.size) e (Builtin.zeroCells z.cells k).toList 0 cur w hh (by rw [hzl]; omega) (h1 k)
    simp only [Nat.add_zero] at hst
    obtain ⟨k', rfl⟩ : ∃ k', k = k' + 1 := ⟨k - 1, by omega⟩
    refine ⟨_, by simp [Builtin.clear_, run_underlying ht, zeroValue, typeInfo, hi, hz, hst]; rfl, ⟨hl, .inr ⟨g, cap, _, rfl, hg, setRow_heap w g cur _ e _ hh, hn, hm, ?_, ?_⟩⟩, ⟨rfl, rfl, rfl, by simp, fun k _ hk => setRow_other w g k _ hk⟩⟩
    · simp only [List.size_toArray, List.length_append, List.length_take, List.length_drop, Array.length_toList]
      rw [Array.length_toList] at hzl
      omega
    · rw [← htk]
      have : (cur.toList.take (n * i.size)).length = n * i.size := by rw [List.length_take, Array.length_toList]; omega
      simp only [List.append_assoc]
      rw [List.take_append_of_le_length (by omega), List.take_of_length_le (by omega)]
end
end Go.Proofs.Ytdnkdmdmekdfkaa
