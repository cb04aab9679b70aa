/- Appends onto a row that somebody else holds: any base, and where the row lies behind it. -/
import Derived.Test.YtdnkdmdmekdfkaaCalm
namespace Go.Proofs.Ytdnkdmdmekdfkaa
open Go.RowKit
section
variable {P : Program} {w : World}
/-- Behind an append the row lies where it lay, or in a new block. -/
theorem append_where {base : Nat} {t tx ty e : TypeId} {i : TypeInfo} {z : Value}
    {v : Value} {n : Nat} {xs : List Value} (hown : w.ownsRow base e i.size v n xs)
    {x : Value} {m : Nat} {news : List Value} (hs : App P t tx e i z x m news w)
    (h63 : n + m ≤ maxLen) (hbytes : (n + m) * i.bytes ≤ 140737488355328) {v' : Value} {w' : World}
    (hr : (Builtin.append_ #[t, tx] ty #[v, x]).run P w = .ok v' w') : ∀ b, v'.ownBlock = some b → v.ownBlock = some b ∨ w.heap.size ≤ b := by
  have hsmall : n + m ≤ 9223372036854775807 := by simp only [maxLen] at h63; omega
  have hown' := hown
  have key : ∀ (u : Value) (w2 : World), (Builtin.append_ #[t, tx] ty #[v, x]).run P w = .ok u w2 → (∀ b, u.ownBlock = some b → v.ownBlock = some b ∨ w.heap.size ≤ b) → ∀ b, v'.ownBlock = some b → v.ownBlock = some b ∨ w.heap.size ≤ b := by
    intro u w2 hu hb
    rw [hr] at hu
    injection hu with h1 h2
    subst h1
    exact hb
  rcases hown.2 with ⟨rfl, rfl⟩ | ⟨g, cap, cur, rfl, hbg, hg, hnc, hcm, hcs, htake⟩
  · by_cases hm : m = 0
    · exact key _ _ (hs.none_ hm ty) (by intro b hb; exact .inl hb)
    · have hold : (Builtin.firstCells i.size 0 (.slice none 0 0)).run P w.drew = .ok ([] : List Value).toArray w.drew := run_firstCells_none w.drew i.size 0 0 0
      have hr := hs.grow ty none 0 0 [] hold (by omega) (by omega) hbytes
      exact key _ _ hr (by intro b hb; simp [Value.ownBlock] at hb; exact .inr (by omega))
  · by_cases hroom : n + m ≤ cap
    · have hfit : n * i.size + news.length ≤ cur.size := by rw [hs.len, hcs, ← Nat.add_mul]; exact Nat.mul_le_mul_right _ hroom
      exact key _ _ (hs.room ty g n cap cur hg hroom hfit) (by intro b hb; exact .inl (by simpa [Value.ownBlock] using hb))
    · have holds : ∀ j u, xs[j]? = some u → w.cell? ((⟨g, 0, none⟩ : Addr).add j) = some u := hown'.cells (g := g) rfl
      have hold : (Builtin.firstCells i.size n (.slice (some ⟨g, 0, none⟩) n cap)).run P w.drew = .ok xs.toArray w.drew :=
        run_firstCells_some w.drew i.size n _ n cap xs hown'.1 (by simpa using holds)
      exact key _ _ (hs.grow ty (some ⟨g, 0, none⟩) n cap xs hold (by omega) (by omega) hbytes) (by intro b hb; simp [Value.ownBlock] at hb; exact .inr (by omega))
/-- The arm of a walk: append onto a row that somebody holds. -/
theorem wpList_appB {ops : Array Oper} {rest : List Oper} {o : Oper} {a : Act} {Q : Exit → Act → World → Prop} (hgd : o.guard = none) (s x : Operand) (t tx : TypeId)
    (ho : o.op = .call { callee := .builtin .append, args := #[s, x], argTypes := #[t, tx] })
    (base : Nat) (e : TypeId) (z : Value) (size bytes : Nat) (ht : P.underlying t = some (.slice e)) (hinfo : (P.info? e).map (fun i => (i.zero, i.size, i.bytes)) = some (some z, size, bytes)) (hzs : z.cells.size = size)
    (v : Value) (n : Nat) (xs : List Value) (hown : w.ownsRow base e size v n xs) (hs : a.eval s = v)
    (xv : Value) (m : Nat) (news : List Value) (hsrc : Src P size tx xv m news w) (hx : a.eval x = xv)
    (hbase : base ≤ w.heap.size) (h63 : n + m ≤ maxLen) (hbytes : (n + m) * bytes ≤ 140737488355328)
    (h : ∀ v' w', w'.ownsRow base e size v' (n + m) (xs ++ news) → Upd (fun k => v.ownBlock = some k) w w' → (∀ b, v'.ownBlock = some b → v.ownBlock = some b ∨ w.heap.size ≤ b) → wpList P ops Q rest (a.put o.dst v') w') : wpList P ops Q (o :: rest) a w := by
  obtain ⟨i, hi, hz, hsize, hby⟩ := info_parts hinfo
  have hsa := Src.app ht hi hz (hsize ▸ hsrc)
  refine wpList_plain hgd fun K hK => ?_
  obtain ⟨v', w', hr, h2, h3, h4⟩ := run_append_src (P := P) w base t tx o.type e i z size bytes hsize hby hzs v n xs hown xv m news hsa h63 hbytes hbase
  have hwh := append_where (hsize ▸ hown) hsa h63 (hby ▸ hbytes) hr
  unfold Oper.wp execOp
  simp only [ho, resolve, invoke, builtin, Sem.run_bind, Sem.run_pure, Result.andThen_ok, List.map_toArray, List.map_cons, List.map_nil, hs, hx, hr]
  have hk : Upd (fun k => v.ownBlock = some k) w w' := ⟨h3.os, h3.tape, h3.output, h3.size, fun k hk hn => h3.block k hk (fun q => hn q.symm)⟩
  exact hK _ _ (h v' w' h2 hk hwh)
end
end Go.Proofs.Ytdnkdmdmekdfkaa
