/- The walks of the writer of bits. -/
import Derived.Test.YtefnpkmbjabcmaaDoorOwn
import Derived.Test.YtefnpkmbjabcmaaDoorBiPure
import Derived.Laws.BitsAllLaws
namespace Go.Proofs.YtefnpkmbjabcmaaDoor
open Go.RowKit

theorem info8 : (Tryd.prog.info? 5).map (fun i => (i.zero, i.size, i.bytes)) = some (some (.int .u8 0), 1, 1) := by kernel_rfl
theorem infob : (Tryd.prog.info? 4).map (fun i => (i.zero, i.size, i.bytes)) = some (some (.bool false), 1, 1) := by kernel_rfl

section
variable {w w' : World} {base g N : Nat} {v : Value} {p : List (BitVec 8)}
end
set_option maxHeartbeats 400000 in
theorem Clone_any (A : Option Addr) (c : Nat) (xs : List (BitVec 8)) (w : World) (hm : xs.length ≤ 140737488351232) (hx : Rd w A (u8s xs)) :
    Calls Tryd.prog 25 #[.slice A xs.length c] w (RetRow 5 1 xs.length (u8s xs) w) := by
  have hn := Lib.run_eql_slice_nil (P := Tryd.prog) w 22 5 A xs.length c 0 0 Tryd.underlying22
  cases A with
  | none =>
    obtain rfl := u8s_nil (rd_none hx rfl)
    replace hn : (binOp BinOp.eql 22 (.slice none 0 c) (.slice none 0 0)).run Tryd.prog w = .ok (.bool true) w := hn
    go_enter Tryd.func25, Tryd.ntmps25
    go_wp2
    go_ret
    exact ⟨_, rfl, World.ownsRow_nil _ _ _ _, .refl _ _⟩
  | some a =>
    have hl0 := own_lit0 w w.heap.size 5 1 (Nat.le_refl _)
    have hs := (hx.new ((Upd.refl _ w).alloc (.cells #[] 5))).src (P := Tryd.prog) (n := xs.length) (c := c) (size := 1) Tryd.underlying22 (fun h => by cases h) (by simp [u8s]) (u8s_one xs)
    go_enter Tryd.func25, Tryd.ntmps25
    go_wp2_with (at_builtin; refine wpList_appN _ rfl _ _ 22 22 rfl _ 5 (.int .u8 0) 1 1 Tryd.underlying22 info8 rfl _ _ _ hl0 rfl _ _ _ hs rfl _ ((Upd.refl Nowhere w).alloc _) ?c1 ?c2 ?_; (case c1 => unfold maxLen; omega); (case c2 => omega); intro v' w1 ho hu hk hv)
    go_ret
    simp only [Nat.zero_add, List.nil_append] at ho
    exact ⟨_, rfl, ho, hu⟩
theorem Clone_n (A : Option Addr) (n c : Nat) (xs : List (BitVec 8)) (w : World) (hl : xs.length = n) (hm : n ≤ 140737488351232) (hx : Rd w A (u8s xs)) :
    Calls Tryd.prog 25 #[.slice A n c] w (RetRow 5 1 n (u8s xs) w) := by subst hl; exact Clone_any A c xs w hm hx
set_option maxHeartbeats 400000 in
theorem Same_any (A A' : Option Addr) (c c' : Nat) (xs ys : List (BitVec 8)) (w : World) (hx : Rd w A (u8s xs)) (hy : Rd w A' (u8s ys)) :
    Calls Tryd.prog 9 #[.slice A xs.length c, .slice A' ys.length c'] w fun e w' => e = .returned (.bool (decide (xs = ys))) ∧ w = w' := by
  have h1 := conv_str (c := c) Tryd.underlying22 Tryd.underlying5 Tryd.underlying9 hx rfl
  have h2 := conv_str (c := c') Tryd.underlying22 Tryd.underlying5 Tryd.underlying9 hy rfl
  clear hx hy
  go_enter Tryd.func9, Tryd.ntmps9
  go_wp2
  go_ret
  exact ⟨congrArg (fun b => Ending.returned (.bool b)) (strOf_beq xs ys), rfl⟩
theorem Same_n (A A' : Option Addr) (n n' c c' : Nat) (xs ys : List (BitVec 8)) (w : World) (hl : xs.length = n) (hl' : ys.length = n') (hx : Rd w A (u8s xs)) (hy : Rd w A' (u8s ys)) :
    Calls Tryd.prog 9 #[.slice A n c, .slice A' n' c'] w fun e w' => e = .returned (.bool (decide (xs = ys))) ∧ w = w' := by subst hl; subst hl'; exact Same_any A A' c c' xs ys w hx hy

end Go.Proofs.YtefnpkmbjabcmaaDoor
