/- The table of components. -/
import Derived.Test.YtdnkdmdmekdfkaaCalm
import Derived.Test.YtdnkdmdmekdfkaaLen
namespace Go.Proofs.Ytdnkdmdmekdfkaa
open Go.RowKit

structure Fld where
  s : ByteArray
  lo : Int
  hi : Int
def flds (k : Nat) : List Fld :=
  if k = 0 then [⟨⟨#[120]⟩, -524288, 524287⟩, ⟨⟨#[121]⟩, -524288, 524287⟩]
  else if k = 1 then [⟨⟨#[100, 120]⟩, -32768, 32767⟩, ⟨⟨#[100, 121]⟩, -32768, 32767⟩]
  else if k = 2 then [⟨⟨#[108, 101, 102, 116]⟩, 0, 4095⟩]
  else if k = 3 then [⟨⟨#[115, 104, 97, 112, 101]⟩, 0, 15⟩, ⟨⟨#[104, 112]⟩, 0, 1000⟩, ⟨⟨#[115, 105, 122, 101]⟩, 1, 100⟩]
  else if k = 4 then [⟨⟨#[116, 101, 97, 109]⟩, 0, 7⟩, ⟨⟨#[99, 111, 108, 111, 114]⟩, 0, 255⟩, ⟨⟨#[102, 108, 97, 103, 115]⟩, 0, 31⟩]
  else if k = 5 then [⟨⟨#[101, 118, 101, 114, 121]⟩, 1, 255⟩, ⟨⟨#[108, 101, 102, 116]⟩, 0, 254⟩, ⟨⟨#[115, 104, 97, 112, 101]⟩, 0, 15⟩]
  else []
def nm (k : Nat) : ByteArray :=
  if k = 0 then ⟨#[112, 111, 115]⟩ else if k = 1 then ⟨#[118, 101, 108]⟩ else if k = 2 then ⟨#[108, 105, 102, 101]⟩ else if k = 3 then ⟨#[98, 111, 100, 121]⟩ else if k = 4 then ⟨#[116, 97, 103]⟩ else if k = 5 then ⟨#[115, 112, 97, 119, 110]⟩ else ⟨#[]⟩
def told (k : Nat) : Bool := decide (k < 5)
def fcells (l : List Fld) : List Value := l.flatMap fun f => [.string f.s, .int .i32 f.lo, .int .i32 f.hi]
theorem six (k : Nat) : k = 0 ∨ k = 1 ∨ k = 2 ∨ k = 3 ∨ k = 4 ∨ k = 5 ∨ 6 ≤ k := by omega
theorem flds_big (k : Nat) (h : 6 ≤ k) : flds k = [] := by
  unfold flds
  rw [if_neg (by omega), if_neg (by omega), if_neg (by omega), if_neg (by omega), if_neg (by omega), if_neg (by omega)]
theorem nm_big (k : Nat) (h : 6 ≤ k) : nm k = ⟨#[]⟩ := by
  unfold nm
  rw [if_neg (by omega), if_neg (by omega), if_neg (by omega), if_neg (by omega), if_neg (by omega), if_neg (by omega)]
theorem told_big (k : Nat) (h : 6 ≤ k) : told k = false := decide_eq_false (by omega)

theorem under_new (w : World) (o o' : Obj) : ((w.alloc o).alloc o').heap[w.heap.size]? = some o :=
  (Below.heap_alloc _ _ _ (by simp)).trans (heap_alloc_new w o)
theorem rd_new1 (w : World) (o : Obj) (cs : List Value) (e : TypeId) : Rd ((w.alloc o).alloc (.cells cs.toArray e)) (some ⟨w.heap.size + 1, 0, none⟩) cs := by
  have := rd_new (w.alloc o) cs e
  rwa [show (w.alloc o).heap.size = w.heap.size + 1 by simp] at this
set_option maxHeartbeats 1000000 in
theorem of_any (k : Nat) (w : World) (hk : k < 256) :
    Calls Try.prog 77 #[.int .u8 k] w fun e w' => ∃ A, e = .returned (.agg #[.string (nm k), .bool (told k), .slice A (flds k).length (flds k).length]) ∧ Rd w' A (fcells (flds k)) ∧ New w w' := by
  rcases six k with rfl | rfl | rfl | rfl | rfl | rfl | h6
  · go_enter Try.func77, Try.ntmps77
    go_wp2
    refine bodyPost_ret (results_cell_row Try.results77 _ _ w.heap.size 105 _ (0, 0) _ rfl (under_new w _ _) Try.underlying105 rfl (by kernel_rfl)) rfl ?_
    exact ⟨some ⟨w.heap.size + 1, 0, none⟩, rfl, rd_new1 w _ (fcells (flds 0)) _, ((Upd.refl _ _).alloc _).alloc _⟩
  · go_enter Try.func77, Try.ntmps77
    go_wp2
    refine bodyPost_ret (results_cell_row Try.results77 _ _ w.heap.size 105 _ (0, 0) _ rfl (under_new w _ _) Try.underlying105 rfl (by kernel_rfl)) rfl ?_
    exact ⟨some ⟨w.heap.size + 1, 0, none⟩, rfl, rd_new1 w _ (fcells (flds 1)) _, ((Upd.refl _ _).alloc _).alloc _⟩
  · go_enter Try.func77, Try.ntmps77
    go_wp2
    refine bodyPost_ret (results_cell_row Try.results77 _ _ w.heap.size 105 _ (0, 0) _ rfl (under_new w _ _) Try.underlying105 rfl (by kernel_rfl)) rfl ?_
    exact ⟨some ⟨w.heap.size + 1, 0, none⟩, rfl, rd_new1 w _ (fcells (flds 2)) _, ((Upd.refl _ _).alloc _).alloc _⟩
  · go_enter Try.func77, Try.ntmps77
    go_wp2
    refine bodyPost_ret (results_cell_row Try.results77 _ _ w.heap.size 105 _ (0, 0) _ rfl (under_new w _ _) Try.underlying105 rfl (by kernel_rfl)) rfl ?_
    exact ⟨some ⟨w.heap.size + 1, 0, none⟩, rfl, rd_new1 w _ (fcells (flds 3)) _, ((Upd.refl _ _).alloc _).alloc _⟩
  · go_enter Try.func77, Try.ntmps77
    go_wp2
    refine bodyPost_ret (results_cell_row Try.results77 _ _ w.heap.size 105 _ (0, 0) _ rfl (under_new w _ _) Try.underlying105 rfl (by kernel_rfl)) rfl ?_
    exact ⟨some ⟨w.heap.size + 1, 0, none⟩, rfl, rd_new1 w _ (fcells (flds 4)) _, ((Upd.refl _ _).alloc _).alloc _⟩
  · go_enter Try.func77, Try.ntmps77
    go_wp2
    refine bodyPost_ret (results_cell_row Try.results77 _ _ w.heap.size 105 _ (0, 0) _ rfl (under_new w _ _) Try.underlying105 rfl (by kernel_rfl)) rfl ?_
    exact ⟨some ⟨w.heap.size + 1, 0, none⟩, rfl, rd_new1 w _ (fcells (flds 5)) _, ((Upd.refl _ _).alloc _).alloc _⟩
  · have h0 : ¬ (k : Int) = 0 := by omega
    have h1 : ¬ (k : Int) = 1 := by omega
    have h2 : ¬ (k : Int) = 2 := by omega
    have h3 : ¬ (k : Int) = 3 := by omega
    have h4 : ¬ (k : Int) = 4 := by omega
    have h5 : ¬ (k : Int) = 5 := by omega
    go_enter Try.func77, Try.ntmps77
    go_wp2
    refine bodyPost_ret (results_cell_row Try.results77 _ _ w.heap.size 105 _ (0, 0) _ rfl (heap_alloc_new _ _) Try.underlying105 rfl (by kernel_rfl)) rfl ?_
    rw [flds_big k h6, nm_big k h6, told_big k h6]
    exact ⟨none, rfl, .inl rfl, (Upd.refl _ _).alloc _⟩
end Go.Proofs.Ytdnkdmdmekdfkaa
