/- state.New, Move, Line, Concat. -/
import Derived.Test.YtaadajadeemndaaSt8
import Derived.Test.YtaadajadeemndaaMat3
namespace Go.Proofs.Ytaadajadeemndaa
open Go.RowKit Go.BigFrame

set_option maxRecDepth 100000 in
set_option maxHeartbeats 4000000 in
theorem stMove_any (x : St) (P C D : Value) (u v : Int) (d : Bool) (Y : St × Int) (w : World) (h : StAt w x P C D) (hY : toS (fun a b => startL x.p a b) x u v d = Y) : Calls Try.prog 11 #[.agg (stC x P C D).toArray, .int .i64 u, .int .i64 v, .bool d] w
    fun r w' => ∃ P' C' D', r = .returned (.tuple #[.agg (stC Y.1 P' C' D').toArray, .int .i64 Y.2]) ∧ StOwn w' w.heap.size Y.1 P' C' D' ∧ Below w.heap.size w w' := by
  obtain ⟨w0, hw0⟩ : ∃ w0 : World, w0 = (w.alloc (.cells (stC x P C D).toArray 34)).alloc (.cells (stC zeroS (.slice none 0 0) (.slice none 0 0) (.slice none 0 0)).toArray 34) := ⟨_, rfl⟩
  have hB0 : Below w.heap.size w w0 := by rw [hw0]; exact bal (bal (Below.refl _ _) _) _
  have hA : BC w0 w.heap.size (stC x P C D) := by rw [hw0]; exact (BC.new (stC x P C D) 34 rfl).below (bal (Below.refl _ _) _)
  have hR : BC w0 (w.heap.size + 1) (stC zeroS (.slice none 0 0) (.slice none 0 0) (.slice none 0 0)) := by rw [hw0]; exact BC.new (w := w.alloc (.cells (stC x P C D).toArray 34)) _ 34 (by simp)
  have hgA := hA.lt
  have hgR := hR.lt
  have h0 := h.below hB0
  rw [zero_lit] at hw0
  have HT := Lib.hid fun W (hb : Below w0.heap.size w0 W) => toStart_any x P C D u v d Y W (h0.below hb) hY
  have HR := Lib.hid hR
  clear hY h0 h hR
  go_enter Try.func11, Try.ntmps11
  go_upto_region 1 with (fail)
  rw [← hw0]
  clear hw0
  go_wp2_with (first
    | (refine wpList_load_rec rfl _ _ rfl w.heap.size rfl _ 24 stT hA rfl ?_)
    | fail)
  refine (HT.out _ (Below.refl _ _)).mono ?_; rintro e w1 ⟨P1, C1, D1, rfl, ho1, hb1⟩
  have B1 := btr hB0 hb1
  have R1 := HR.out.below hb1
  have hone := ho1.at.one
  have hF := R1.putAll (stC Y.1 P1 C1 D1) rfl
  have hFB := below_setCells (Nat.le_succ w.heap.size) (stC Y.1 P1 C1 D1) 0 _ B1
  go_wp2_with (first
    | (refine wpList_store_rec rfl _ _ _ rfl (w.heap.size + 1) (stC Y.1 P1 C1 D1) _ rfl rfl 24 stT R1 rfl rfl hone ?_)
    | fail)
  refine bodyPost_ret (result_rec rfl rfl rfl stT hF rfl) rfl ?_
  exact ⟨P1, C1, D1, rfl, (ho1.setCells hgR _ _).mono (Nat.le_of_lt hgA), hFB⟩
set_option maxRecDepth 100000 in
set_option maxHeartbeats 4000000 in
theorem stLine_any (x : St) (P C D : Value) (u v : Int) (d : Bool) (Y : St × Int) (w : World) (h : StAt w x P C D) (hY : toS (fun a b => onL x.p ⟨2, a, b, 0, 0⟩) x u v d = Y) : Calls Try.prog 16 #[.agg (stC x P C D).toArray, .int .i64 u, .int .i64 v, .bool d] w
    fun r w' => ∃ P' C' D', r = .returned (.tuple #[.agg (stC Y.1 P' C' D').toArray, .int .i64 Y.2]) ∧ StOwn w' w.heap.size Y.1 P' C' D' ∧ Below w.heap.size w w' := by
  obtain ⟨w0, hw0⟩ : ∃ w0 : World, w0 = (w.alloc (.cells (stC x P C D).toArray 34)).alloc (.cells (stC zeroS (.slice none 0 0) (.slice none 0 0) (.slice none 0 0)).toArray 34) := ⟨_, rfl⟩
  have hB0 : Below w.heap.size w w0 := by rw [hw0]; exact bal (bal (Below.refl _ _) _) _
  have hA : BC w0 w.heap.size (stC x P C D) := by rw [hw0]; exact (BC.new (stC x P C D) 34 rfl).below (bal (Below.refl _ _) _)
  have hR : BC w0 (w.heap.size + 1) (stC zeroS (.slice none 0 0) (.slice none 0 0) (.slice none 0 0)) := by rw [hw0]; exact BC.new (w := w.alloc (.cells (stC x P C D).toArray 34)) _ 34 (by simp)
  have hgA := hA.lt
  have hgR := hR.lt
  have h0 := h.below hB0
  rw [zero_lit] at hw0
  have HT := Lib.hid fun W (hb : Below w0.heap.size w0 W) => toLine_any x P C D u v d Y W (h0.below hb) hY
  have HR := Lib.hid hR
  clear hY h0 h hR
  go_enter Try.func16, Try.ntmps16
  go_upto_region 1 with (fail)
  rw [← hw0]
  clear hw0
  go_wp2_with (first
    | (refine wpList_load_rec rfl _ _ rfl w.heap.size rfl _ 24 stT hA rfl ?_)
    | fail)
  refine (HT.out _ (Below.refl _ _)).mono ?_; rintro e w1 ⟨P1, C1, D1, rfl, ho1, hb1⟩
  have B1 := btr hB0 hb1
  have R1 := HR.out.below hb1
  have hone := ho1.at.one
  have hF := R1.putAll (stC Y.1 P1 C1 D1) rfl
  have hFB := below_setCells (Nat.le_succ w.heap.size) (stC Y.1 P1 C1 D1) 0 _ B1
  go_wp2_with (first
    | (refine wpList_store_rec rfl _ _ _ rfl (w.heap.size + 1) (stC Y.1 P1 C1 D1) _ rfl rfl 24 stT R1 rfl rfl hone ?_)
    | fail)
  refine bodyPost_ret (result_rec rfl rfl rfl stT hF rfl) rfl ?_
  exact ⟨P1, C1, D1, rfl, (ho1.setCells hgR _ _).mono (Nat.le_of_lt hgA), hFB⟩
/-- A new state. -/
def newS (h : Int) : St := ⟨devM h, [], [], 0, 0, 0, 255, 65536, 0, 0, [], 0, obZero, 65536⟩
set_option maxRecDepth 100000 in
set_option maxHeartbeats 4000000 in
theorem stNew_any (h : Int) (w : World) (h1 : 1 ≤ h) (h2 : h ≤ 64) : Calls Try.prog 9 #[.int .i64 h] w
    fun e w' => e = .returned (.tuple #[.agg (stC (newS h) (.slice none 0 0) (.slice none 0 0) (.slice none 0 0)).toArray, .int .i64 0]) ∧ Below w.heap.size w w' := by
  have HD := Lib.hid fun W => matDevice_any h W h1 h2
  unfold mtv at HD
  obtain ⟨w0, hw0⟩ : ∃ w0 : World, w0 = w.alloc (.cells (stC zeroS (.slice none 0 0) (.slice none 0 0) (.slice none 0 0)).toArray 34) := ⟨_, rfl⟩
  have hB0 : Below w.heap.size w w0 := by rw [hw0]; exact bal (Below.refl _ _) _
  have hS : BC w0 w.heap.size (stC zeroS (.slice none 0 0) (.slice none 0 0) (.slice none 0 0)) := by rw [hw0]; exact BC.new _ 34 rfl
  rw [zero_lit] at hw0
  obtain ⟨y, hy⟩ : ∃ y, newS h = y := ⟨_, rfl⟩
  have hym : devM h = y.m := by rw [← hy]; rfl
  have hyr : stC y (.slice none 0 0) (.slice none 0 0) (.slice none 0 0) = [.int .i64 y.m.a, .int .i64 y.m.b, .int .i64 y.m.c, .int .i64 y.m.d, .int .i64 y.m.e, .int .i64 y.m.f, .slice none 0 0, .slice none 0 0, .int .u8 0, .int .u8 0, .int .u8 0, .int .u8 255,
    .int .i64 65536, .int .i64 0, .int .i64 0, .slice none 0 0, .int .i64 0, .int .i64 0, .bool false, .int .i64 0, .int .i64 0, .int .i64 0, .string { data := #[] }, .int .i64 65536] := by rw [← hy]; rfl
  rw [hym] at HD
  rw [hy]
  clear hym hy
  have HYR := Lib.hid hyr
  clear hyr
  go_enter Try.func9, Try.ntmps9
  go_upto_region 1 with (fail)
  rw [← hw0]
  clear hw0
  go_wp2_with fail
  refine (HD.out _).mono ?_; rintro e w1 ⟨rfl, hb1⟩
  have B1 := btr hB0 hb1
  have hS1 := hS.below hb1
  have B2 : Below w.heap.size w (w1.alloc (.cells (mtC y.m).toArray 25)) := bal B1 _
  have hS2 := hS1.below (bal (Below.refl _ _) (.cells (mtC y.m).toArray 25))
  have hF := hS2.putAll (stC y (.slice none 0 0) (.slice none 0 0) (.slice none 0 0)) rfl
  have hFB := below_setCells (Nat.le_refl w.heap.size) (stC y (.slice none 0 0) (.slice none 0 0) (.slice none 0 0)) 0 _ B2
  have hone : ∀ v ∈ stC y (.slice none 0 0) (.slice none 0 0) (.slice none 0 0), v.oneCell' = true := stC_one rfl rfl rfl
  go_wp2_with (first
    | (refine wpList_store_rec rfl _ _ _ rfl w.heap.size (stC y (.slice none 0 0) (.slice none 0 0) (.slice none 0 0)) _ rfl (by rw [HYR.out]; rfl) 24 stT hS2 rfl rfl hone ?_)
    | fail)
  refine bodyPost_ret (result_rec rfl rfl rfl stT hF rfl) rfl ?_
  exact ⟨rfl, hFB⟩
end Go.Proofs.Ytaadajadeemndaa
