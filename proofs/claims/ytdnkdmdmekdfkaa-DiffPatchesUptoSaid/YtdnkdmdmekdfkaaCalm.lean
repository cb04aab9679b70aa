/- Regions that draw their order, whose callees may make memory but change none: one walk, in the order of the text. -/
import Derived.Test.YtdnkdmdmekdfkaaKit
import Derived.Deep.QuietTactic
import Derived.BigQuiet
namespace Go.Proofs.Ytdnkdmdmekdfkaa
open Go.RowKit

/-- a world after w in which nothing old has changed. -/
structure After (w : World) where
  to : World
  h : New w to
instance (w : World) : Nonempty (After w) := ⟨⟨w, Upd.refl _ _⟩⟩
theorem After.ex {w w' : World} (h : New w w') : ∃ x : After w, w' = x.to := ⟨⟨w', h⟩, rfl⟩

theorem wp_region_calm {P : Program} {id : Nat} {Q : Exit → Act → World → Prop} {a : Act} {w : World} {l : List Oper} (hm : P.follows .mixedOrders = true) (hB : Region.lexB .any l.toArray = true)
    (h : wpQuiet P l.toArray (fun w' => ∃ x : After w, w' = x.to) (fun a' => ∀ w', New w w' → Q .normal a' w') l a) : (Code.region id l.toArray true).wp P Q a w := by
  refine wp_region_quiet (C := fun w' => ∃ x : After w, w' = x.to) hm hB (After.ex ((Upd.refl _ w).drew)) ?_
  have e : (fun a' => ∀ w', (∃ x : After w, w' = x.to) → Q .normal a' w') = fun a' => ∀ w', New w w' → Q .normal a' w' := by
    funext a'
    apply propext
    exact ⟨fun h w' hn => h w' (After.ex hn), fun h w' ⟨x, hx⟩ => h w' (hx ▸ x.h)⟩
  rw [e]
  simpa using h

/-- a callee's contract, met in such a world. -/
theorem Calls.calm {P : Program} {f : FuncId} {args : Array Value} {w : World} {x : After w} {v : Value}
    (h : Calls P f args x.to fun e w' => e = .returned v ∧ New x.to w') : Calls P f args x.to fun e w'' => e = .returned v ∧ ∃ y : After w, w'' = y.to :=
  h.mono fun _ _ ⟨he, hn⟩ => ⟨he, After.ex (x.h.trans hn)⟩
theorem Calls.calm_same {P : Program} {f : FuncId} {args : Array Value} {w : World} {x : After w} {v : Value}
    (h : Calls P f args x.to fun e w' => e = .returned v ∧ w' = x.to) : Calls P f args x.to fun e w'' => e = .returned v ∧ ∃ y : After w, w'' = y.to :=
  h.mono fun _ _ ⟨he, hn⟩ => ⟨he, x, hn⟩

theorem wpList_max {P : Program} {w : World} {ops : Array Oper} {rest : List Oper} {o : Oper} {a : Act} {Q : Exit → Act → World → Prop} (hgd : o.guard = none) (s x : Operand) (t tx : TypeId)
    (ho : o.op = .call { callee := .builtin .max, args := #[s, x], argTypes := #[t, tx] }) (k kx : IntKind) (p q m : Int) (hm : max p q = m) (hs : a.eval s = .int k p) (hx : a.eval x = .int kx q)
    (h : wpList P ops Q rest (a.put o.dst (.int k m)) w) : wpList P ops Q (o :: rest) a w := by
  refine wpList_run hgd (.int k m) w ?_ h
  unfold execOp
  simp only [ho, resolve, invoke, builtin, Sem.run_bind, Sem.run_pure, Result.andThen_ok, List.map_toArray, List.map_cons, List.map_nil, hs, hx, Builtin.max_, List.foldlM, Builtin.max2]
  rw [show (if p < q then q else p) = m by omega]
end Go.Proofs.Ytdnkdmdmekdfkaa
