/- The document's examples: the walk. -/
import Derived.Test.YtdnkdmdmekdfkaaDf15
import Derived.Test.YtdnkdmdmekdfkaaDf16
import Derived.Test.YtdnkdmdmekdfkaaDfP2
namespace Go.Proofs.Ytdnkdmdmekdfkaa
open Go.RowKit
def aw1 : List Et := [(1024, [⟨2, 5, 0, 0⟩]), (1025, [])]
def aw2 : List Et := [(1025, [⟨4, 0, 0, 0⟩]), (1026, [])]
def awD : Dl := ⟨[1024], [(1026, [])], [⟨1025, 0#8, [⟨4, 0, 0, 0⟩], []⟩]⟩
theorem aw_frm1 : frm 0 aw1 = 0 := by decide
theorem aw_frm2 : frm 0 aw2 = 0 := by decide
theorem aw_mrg : mrg aw1 aw2 = awD := by
  unfold aw1 aw2
  rw [mrg, if_pos (by decide), mrg, if_neg (by decide), if_neg (by decide)]
  rw [if_neg (by decide), mrg, mrg]
  rfl
theorem aw_diffE : diffE aw1 aw2 = 0 := by unfold diffE; rw [if_neg (by rw [aw_frm1]; simp)]; exact aw_frm2
theorem aw_diffD : diffD aw1 aw2 = awD := by unfold diffD; rw [if_pos aw_diffE]; exact aw_mrg
theorem EnL.mk1 {w : World} {b : Nat} {es : List E4} {L : List Et} {n : Nat} (h : w.heap[b]? = some (.cells (ec es).toArray 43 (0, 0))) (hl : es.length = n) (ha : Al (Co w) es L) : EnL w (some ⟨b, 0, none⟩) n L :=
  ⟨by rw [← ha.len]; exact hl, (fun q => by cases q), es, .inr ⟨b, 0, rfl, fun i u hi => by rw [World.cell?, h]; simpa using hi⟩, ha⟩
theorem Co.mk1 {w : World} {b n c : Nat} {l : List C4} (h : w.heap[b]? = some (.cells (ccells l).toArray 46 (0, 0))) (hl : l.length = n) : Co w (some ⟨b, 0, none⟩, n, c) l :=
  ⟨hl, (fun q => by cases q), .inr ⟨b, 0, rfl, fun i u hi => by rw [World.cell?, h]; simpa using hi⟩⟩
theorem Go_.mk1 {w : World} {b n c : Nat} {l : List Nat} (h : w.heap[b]? = some (.cells (u32s l).toArray 40 (0, 0))) (hl : l.length = n) : Go_ w (some ⟨b, 0, none⟩, n, c) l :=
  ⟨hl, (fun q => by cases q), .inr ⟨b, 0, rfl, fun i u hi => by rw [World.cell?, h]; simpa using hi⟩⟩
theorem ChL.mk1 {w : World} {b : Nat} {es : List H4} {L : List Ch} {n : Nat} (h : w.heap[b]? = some (.cells (hc es).toArray 57 (0, 0))) (hl : es.length = n) (ha : Ah (Co w) es L) : ChL w (some ⟨b, 0, none⟩) n L :=
  ⟨by rw [← ha.len]; exact hl, (fun q => by cases q), es, .inr ⟨b, 0, rfl, fun i u hi => by rw [World.cell?, h]; simpa using hi⟩, ha⟩
theorem Sm_aw1 : Sm aw1 := fun x hx => by
  unfold aw1 at hx
  simp at hx
  rcases hx with rfl | rfl
  · exact ⟨by decide, by decide, by decide⟩
  · exact ⟨by decide, by decide, by decide⟩
theorem Sm_aw2 : Sm aw2 := fun x hx => by
  unfold aw2 at hx
  simp at hx
  rcases hx with rfl | rfl
  · exact ⟨by decide, by decide, by decide⟩
  · exact ⟨by decide, by decide, by decide⟩
theorem heapA (w : World) (o : Obj) (B : Nat) (hB : w.heap.size = B) : (w.alloc o).heap[B]? = some o := by rw [← hB]; exact heap_alloc_new w o
theorem newA (w : World) (o : Obj) : New w (w.alloc o) := (Upd.refl _ w).alloc o
theorem Patch_aw (g0 : Option Addr) (g2 : Nat) (c0 : Option Addr) (c2 : Nat) (h0 : Option Addr) (h2 : Nat) (w : World) (hd : DlR w g0 1 g2 c0 0 h0 0 ⟨[1024], [], []⟩) :
    Calls Try.prog 13 #[.slice none 0 0, .agg #[.slice g0 1 g2, .slice c0 0 c2, .slice h0 0 h2]] w fun e w' => e = .returned (.tuple #[.slice none 0 0, .int .i64 4]) ∧ New w w' := by
  refine (Patch_any none 0 0 [] g0 1 g2 c0 0 c2 h0 0 h2 ⟨[1024], [], []⟩ w (EnL.zero w) hd ⟨by simp, (fun x h => by cases h), (fun x h => by cases h), (fun x h => by cases h), by simp, by simp, (fun x h => by cases h), by simp, (fun x h => by cases h)⟩ rfl).mono ?_
  rintro e w' ⟨⟨N, _, h⟩, hu⟩
  rcases h with ⟨t, _, _, _, h4⟩ | ⟨h1, _⟩
  · have := (mrg_small [] N).1
    rw [h4] at this
    simp at this
  · exact ⟨h1, hu⟩
set_option maxRecDepth 4000 in
set_option maxHeartbeats 8000000 in
theorem awake19_any (w : World) : Calls Try.prog 8 #[] w fun e w' => e = .returned (.bool true) ∧ New w w' := by
  obtain ⟨B, hB⟩ : ∃ B, w.heap.size = B := ⟨_, rfl⟩
  have q1 := heapA w (.cells #[.int .u8 4, .int .i32 0, .int .i32 0, .int .i32 0] 46) B hB
  have s1 : (w.alloc (.cells #[.int .u8 4, .int .i32 0, .int .i32 0, .int .i32 0] 46)).heap.size = B + 1 := by simp [hB]
  have n1 := newA w (.cells #[.int .u8 4, .int .i32 0, .int .i32 0, .int .i32 0] 46)
  go_enter Try.func8, Try.ntmps8
  go_upto_region 3 with (fail)
  have HB := Bx.mk hB
  clear hB
  generalize w.alloc (.cells #[.int .u8 4, .int .i32 0, .int .i32 0, .int .i32 0] 46) = w1 at *
  have q2 := heapA w1 (.cells #[.int .u8 2, .int .i32 5, .int .i32 0, .int .i32 0] 46) _ s1
  have s2 : (w1.alloc (.cells #[.int .u8 2, .int .i32 5, .int .i32 0, .int .i32 0] 46)).heap.size = B + 1 + 1 := by simp [s1]
  have n2 := newA w1 (.cells #[.int .u8 2, .int .i32 5, .int .i32 0, .int .i32 0] 46)
  have p1 := n2.blk q1 (fun q => q)
  generalize w1.alloc (.cells #[.int .u8 2, .int .i32 5, .int .i32 0, .int .i32 0] 46) = w2 at *
  have q3 := heapA w2 (.cells #[.int .u32 1024, .slice (some ⟨B + 1, 0, none⟩) 1 1, .int .u32 1025, .slice none 0 0] 43) _ s2
  have s3 : (w2.alloc (.cells #[.int .u32 1024, .slice (some ⟨B + 1, 0, none⟩) 1 1, .int .u32 1025, .slice none 0 0] 43)).heap.size = B + 1 + 1 + 1 := by simp [s2]
  have n3 := newA w2 (.cells #[.int .u32 1024, .slice (some ⟨B + 1, 0, none⟩) 1 1, .int .u32 1025, .slice none 0 0] 43)
  have p1' := n3.blk p1 (fun q => q)
  have p2 := n3.blk q2 (fun q => q)
  generalize w2.alloc (.cells #[.int .u32 1024, .slice (some ⟨B + 1, 0, none⟩) 1 1, .int .u32 1025, .slice none 0 0] 43) = w3 at *
  have q4 := heapA w3 (.cells #[.int .u32 1025, .slice (some ⟨B, 0, none⟩) 1 1, .int .u32 1026, .slice none 0 0] 43) _ s3
  have n4 := newA w3 (.cells #[.int .u32 1025, .slice (some ⟨B, 0, none⟩) 1 1, .int .u32 1026, .slice none 0 0] 43)
  have hco4 : Co (w3.alloc (.cells #[.int .u32 1025, .slice (some ⟨B, 0, none⟩) 1 1, .int .u32 1026, .slice none 0 0] 43)) (some ⟨B, 0, none⟩, 1, 1) [⟨4, 0, 0, 0⟩] := Co.mk1 (n4.blk p1' (fun q => q)) rfl
  have he1 : EnL (w3.alloc (.cells #[.int .u32 1025, .slice (some ⟨B, 0, none⟩) 1 1, .int .u32 1026, .slice none 0 0] 43)) (some ⟨B + 1 + 1, 0, none⟩) 2 aw1 :=
    EnL.mk1 (es := [(1024, some ⟨B + 1, 0, none⟩, 1, 1), (1025, none, 0, 0)]) (n4.blk q3 (fun q => q)) rfl ⟨⟨rfl, Co.mk1 (n4.blk p2 (fun q => q)) rfl⟩, ⟨rfl, Co.zero _ _⟩, trivial⟩
  have he2 : EnL (w3.alloc (.cells #[.int .u32 1025, .slice (some ⟨B, 0, none⟩) 1 1, .int .u32 1026, .slice none 0 0] 43)) (some ⟨B + 1 + 1 + 1, 0, none⟩) 2 aw2 :=
    EnL.mk1 (es := [(1025, some ⟨B, 0, none⟩, 1, 1), (1026, none, 0, 0)]) q4 rfl ⟨⟨rfl, hco4⟩, ⟨rfl, Co.zero _ _⟩, trivial⟩
  have HDI := Bx.mk (Diff_any _ 2 2 aw1 _ 2 2 aw2 _ he1 he2 (by omega) (by omega) Sm_aw1 Sm_aw2)
  rw [aw_diffE, aw_diffD] at HDI
  have hN4 := ((n1.trans n2).trans n3).trans n4
  have HCO := Bx.mk hco4
  have s3' := Bx.mk s3
  clear p1 p2 p1' q1 q2 q3 q4 n1 n2 n3 he1 he2 hco4 s1 s2
  generalize B + 1 + 1 + 1 = B3 at *
  generalize B + 1 + 1 = B2 at *
  generalize B + 1 = B1 at *
  go_upto_region 4 with (first
    | (go_at_call 18; (with_reducible refine (HDI.out).mono ?_); rintro e5 w5 ⟨⟨gg, cc, hh, rfl, hdn⟩, hu5⟩; obtain ⟨a0, a2, b0, b2, f0, f2, rfl, rfl, rfl, hdr⟩ := hdn.r; dsimp only))
  have h5 := heap_alloc_new w5 (.cells #[.slice a0 awD.gone.length a2, .slice b0 awD.come.length b2, .slice f0 awD.chg.length f2] 26)
  have n5 := newA w5 (.cells #[.slice a0 awD.gone.length a2, .slice b0 awD.come.length b2, .slice f0 awD.chg.length f2] 26)
  have HN5 := Bx.mk ((hN4.trans hu5).trans n5)
  have HDR := Bx.mk (hdr.new n5)
  have HC5 := Bx.mk (HCO.out.new (hu5.trans n5))
  clear hdn hdr
  generalize hga : awD.gone.length = ga at *
  generalize hgb : awD.come.length = gb at *
  generalize hgc : awD.chg.length = gc at *
  clear hga hgb hgc
  generalize w5.alloc (.cells #[.slice a0 ga a2, .slice b0 gb b2, .slice f0 gc f2] 26) = w6 at *
  generalize w5.heap.size = B5 at *
  have n6 := newA w6 (.cells #[.int .u32 1024] 40)
  have hgo6 : Go_ (w6.alloc (.cells #[.int .u32 1024] 40)) (some ⟨w6.heap.size, 0, none⟩, 1, 1) [1024] := Go_.mk1 (heap_alloc_new w6 _) rfl
  have HPA := Bx.mk (Patch_aw _ 1 none 0 none 0 _ ⟨hgo6, EnL.zero _, ChL.zero _⟩)
  clear hgo6
  go_upto_region 5 with (first
    | (go_at_call 13; (with_reducible refine (HPA.out).mono ?_); rintro e7 w7 ⟨rfl, hu7⟩; dsimp only))
  have HN7 := Bx.mk ((HN5.out.trans n6).trans hu7)
  have h7 := (n6.trans hu7).blk h5 (fun q => q)
  have HDR7 := Bx.mk (HDR.out.new (n6.trans hu7))
  have HC7 := Bx.mk (HC5.out.new (n6.trans hu7))
  obtain ⟨d0, d1, d2, _⟩ := o3_at h7
  clear n6 hu7 h5 h7 n5
  have n8 := newA w7 (.cells #[.int .u32 1024] 40)
  have q8 := heap_alloc_new w7 (.cells #[.int .u32 1024] 40)
  have s8 : (w7.alloc (.cells #[.int .u32 1024] 40)).heap.size = w7.heap.size + 1 := by simp
  have n9 := newA (w7.alloc (.cells #[.int .u32 1024] 40)) (.cells #[.int .u32 1026, .slice none 0 0] 43)
  have q9 := heapA (w7.alloc (.cells #[.int .u32 1024] 40)) (.cells #[.int .u32 1026, .slice none 0 0] 43) _ s8
  have s9 : ((w7.alloc (.cells #[.int .u32 1024] 40)).alloc (.cells #[.int .u32 1026, .slice none 0 0] 43)).heap.size = w7.heap.size + 1 + 1 := by simp
  have n10 := newA ((w7.alloc (.cells #[.int .u32 1024] 40)).alloc (.cells #[.int .u32 1026, .slice none 0 0] 43)) (.cells #[.int .u32 1025, .int .u8 0, .slice (some ⟨B, 0, none⟩) 1 1, .slice none 0 0] 57)
  have q10 := heapA ((w7.alloc (.cells #[.int .u32 1024] 40)).alloc (.cells #[.int .u32 1026, .slice none 0 0] 43)) (.cells #[.int .u32 1025, .int .u8 0, .slice (some ⟨B, 0, none⟩) 1 1, .slice none 0 0] 57) _ s9
  have hN10 := (n8.trans n9).trans n10
  have HSA := Bx.mk (refSame_any a0 ga a2 b0 gb b2 f0 gc f2 awD (some ⟨w7.heap.size, 0, none⟩) 1 1 (some ⟨w7.heap.size + 1, 0, none⟩) 1 1 (some ⟨w7.heap.size + 1 + 1, 0, none⟩) 1 1 awD _ (HDR7.out.new hN10)
    ⟨Go_.mk1 ((n9.trans n10).blk q8 (fun q => q)) rfl, EnL.mk1 (es := [(1026, none, 0, 0)]) (n10.blk q9 (fun q => q)) rfl ⟨⟨rfl, Co.zero _ _⟩, trivial⟩, ChL.mk1 (es := [(1025, 0, (some ⟨B, 0, none⟩, 1, 1), (none, 0, 0))]) q10 rfl ⟨⟨rfl, rfl, HC7.out.new hN10, Co.zero _ _⟩, trivial⟩⟩
    (by rw [← aw_mrg]; exact mrg_smD (by decide) (by decide) Sm_aw2))
  rw [decide_eq_true rfl] at HSA
  clear n8 n9 n10 q8 q9 q10 s8 s9
  repeat' (first | (go_at_call 16; (with_reducible refine (HSA.out).mono ?_); rintro e11 w11 ⟨rfl, hu11⟩; dsimp only) | go_values | go_skip | go_guarded | go_step | go_upon | go_back)
  go_returns
  exact ⟨rfl, (HN7.out.trans hN10).trans hu11⟩
end Go.Proofs.Ytdnkdmdmekdfkaa
