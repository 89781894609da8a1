/- state.Fill: items in memory. -/
import Derived.Test.YtaadajadeemndaaStClip
namespace Go.Proofs.Ytaadajadeemndaa
open Go.RowKit Go.BigFrame

/-- A mark. -/
structure It where
  kind : Int
  p : List Sg
  rule : Int
  wide : Int
  cap : Int
  join : Int
  iw : Int
  ih : Int
  ib : Int
  idt : ByteArray
  m : Mt
  r : Int
  g : Int
  b : Int
  a : Int
  cl : List Cl
def itC (y : It) (P C : Value) : List Value := [.int .i64 y.kind, P, .int .i64 y.rule, .int .i64 y.wide, .int .i64 y.cap, .int .i64 y.join, .int .i64 y.iw, .int .i64 y.ih, .int .i64 y.ib, .string y.idt,
  .int .i64 y.m.a, .int .i64 y.m.b, .int .i64 y.m.c, .int .i64 y.m.d, .int .i64 y.m.e, .int .i64 y.m.f, .int .u8 y.r, .int .u8 y.g, .int .u8 y.b, .int .u8 y.a, C]
def zeroI : It := ⟨0, [], 0, 0, 0, 0, 0, 0, 0, { data := #[] }, zeroM, 0, 0, 0, 0, []⟩
def fillI (x : St) (rule : Int) : It := ⟨1, x.p, rule, 0, 0, 0, 0, 0, 0, { data := #[] }, zeroM, x.r, x.g, x.b, x.a, x.cl⟩
def fillS (x : St) (rule : Int) : It × Int := if (mayS x && ruleB rule) = false then (zeroI, 1) else (fillI x rule, 0)
structure ItOwn (w : World) (B : Nat) (y : It) (P C : Value) : Prop where
  p : w.ownsRow B 42 5 P y.p.length (sgs y.p)
  c : ClOwn w B C y.cl
theorem ItOwn.mono {w : World} {B B' : Nat} {y : It} {P C : Value} (h : ItOwn w B y P C) (hb : B' ≤ B) : ItOwn w B' y P C := ⟨own_mono h.p hb, h.c.mono hb⟩
theorem ItOwn.below {w w' : World} {B : Nat} {y : It} {P C : Value} (h : ItOwn w B y P C) (hb : Below w.heap.size w w') : ItOwn w' B y P C := ⟨own_below h.p hb, h.c.below hb⟩
theorem ItOwn.setCells {w : World} {B g : Nat} {y : It} {P C : Value} (h : ItOwn w B y P C) (hg : g < B) (o : Nat) (vs : List Value) : ItOwn (w.setCells g o vs) B y P C := ⟨own_setCells hg _ _ _ h.p, ClOwn.setCells hg _ _ _ h.c⟩
theorem itT : RecT Try.prog 53 21 := ⟨_, Try.underlying53, rfl, by kernel_rfl⟩
theorem itC_one {y : It} {P C : Value} (hp : P.oneCell' = true) (hc : C.oneCell' = true) : ∀ v ∈ itC y P C, v.oneCell' = true := by
  intro v hv
  simp only [itC, List.mem_cons, List.not_mem_nil, or_false] at hv
  rcases hv with rfl | rfl | rfl | rfl | rfl | rfl | rfl | rfl | rfl | rfl | rfl | rfl | rfl | rfl | rfl | rfl | rfl | rfl | rfl | rfl | rfl <;> first | rfl | assumption
theorem zeroI_one : ∀ v ∈ itC zeroI (.slice none 0 0) (.slice none 0 0), v.oneCell' = true := itC_one rfl rfl
theorem zeroI_own (w : World) (B : Nat) : ItOwn w B zeroI (.slice none 0 0) (.slice none 0 0) := ⟨own_nil, ⟨[], rfl, own_nil, by simp⟩⟩
theorem zeroI_lit : (itC zeroI (.slice none 0 0) (.slice none 0 0)).toArray = #[.int .i64 0, .slice none 0 0, .int .i64 0, .int .i64 0, .int .i64 0, .int .i64 0, .int .i64 0, .int .i64 0, .int .i64 0, .string { data := #[] },
  .int .i64 0, .int .i64 0, .int .i64 0, .int .i64 0, .int .i64 0, .int .i64 0, .int .u8 0, .int .u8 0, .int .u8 0, .int .u8 0, .slice none 0 0] := rfl
theorem fillI_lit (x : St) (rule : Int) (P C : Value) : itC (fillI x rule) P C = [.int .i64 1, P, .int .i64 rule, .int .i64 0, .int .i64 0, .int .i64 0, .int .i64 0, .int .i64 0, .int .i64 0, .string { data := #[] },
  .int .i64 0, .int .i64 0, .int .i64 0, .int .i64 0, .int .i64 0, .int .i64 0, .int .u8 x.r, .int .u8 x.g, .int .u8 x.b, .int .u8 x.a, C] := rfl
set_option maxRecDepth 100000 in
set_option maxHeartbeats 4000000 in
theorem stFill_any (x : St) (P C D : Value) (rule : Int) (Y : It × Int) (w : World) (h : StAt w x P C D) (hY : fillS x rule = Y) : Calls Try.prog 18 #[.agg (stC x P C D).toArray, .int .i64 rule] w
    fun r w' => ∃ P' C', r = .returned (.tuple #[.agg (itC Y.1 P' C').toArray, .int .i64 Y.2]) ∧ ItOwn w' w.heap.size Y.1 P' C' ∧ Below w.heap.size w w' := by
  obtain ⟨w0, hw0⟩ : ∃ w0 : World, w0 = (w.alloc (.cells (stC x P C D).toArray 34)).alloc (.cells (itC zeroI (.slice none 0 0) (.slice none 0 0)).toArray 53) := ⟨_, rfl⟩
  have hB0 : Below w.heap.size w w0 := by rw [hw0]; exact bal (bal (Below.refl _ _) _) _
  have hA : BC w0 w.heap.size (stC x P C D) := by rw [hw0]; exact (BC.new (stC x P C D) 34 rfl).below (bal (Below.refl _ _) _)
  have hR : BC w0 (w.heap.size + 1) (itC zeroI (.slice none 0 0) (.slice none 0 0)) := by rw [hw0]; exact BC.new (w := w.alloc (.cells (stC x P C D).toArray 34)) _ 53 (by simp)
  have hgA := hA.lt
  have hgR := hR.lt
  have h0 := h.below hB0
  rw [zeroI_lit] at hw0
  have HY := Lib.hid hY
  have HM := Lib.hid fun W (hb : Below w0.heap.size w0 W) => stMay_any x P C D W (h0.below hb)
  have HCo := Lib.hid fun (hf : stFew x) W (hb : Below w0.heap.size w0 W) => copied_any x P C D W (h0.below hb) hf
  have HA := Lib.hid hA
  have HR := Lib.hid hR
  clear hY h0 h hA hR
  go_enter Try.func18, Try.ntmps18
  go_upto_region 1 with (fail)
  rw [← hw0]
  clear hw0
  go_wp2_with (first
    | (refine wpList_load_rec rfl _ _ rfl w.heap.size rfl _ 24 stT HA.out rfl ?_)
    | fail)
  refine (HM.out _ (Below.refl _ _)).mono ?_; rintro e w1 ⟨rfl, hb1⟩
  have G1 := hb1
  have B1 := btr hB0 G1
  clear hb1
  cases hm : mayS x
  · have HY2 : Hid (Y = (zeroI, 1)) := Lib.hid (by rw [← HY.out]; unfold fillS; rw [hm]; simp)
    have hF := (HR.out.below G1).putAll (itC zeroI (.slice none 0 0) (.slice none 0 0)) rfl
    have hFB := below_setCells (Nat.le_succ w.heap.size) (itC zeroI (.slice none 0 0) (.slice none 0 0)) 0 _ (B1)
    go_wp2_with (first
      | (refine wpList_load_rec rfl _ _ rfl (w.heap.size + 1) rfl _ 21 itT (HR.out.below G1) rfl ?_)
      | (refine wpList_store_rec rfl _ _ _ rfl (w.heap.size + 1) (itC zeroI (.slice none 0 0) (.slice none 0 0)) _ rfl rfl 21 itT (HR.out.below G1) rfl rfl zeroI_one ?_)
      | fail)
    refine bodyPost_ret (result_rec rfl rfl rfl itT hF rfl) rfl ?_
    rw [HY2.out]
    exact ⟨_, _, rfl, zeroI_own _ _, hFB⟩
  · have HFEW := Lib.hid (mayS_few hm)
    go_wp2_with fail
    refine (stIsRule_any rule _).mono ?_; rintro e w' ⟨rfl, rfl⟩
    cases hru : ruleB rule
    · have HY2 : Hid (Y = (zeroI, 1)) := Lib.hid (by rw [← HY.out]; unfold fillS; rw [hm, hru]; simp)
      have hF := (HR.out.below G1).putAll (itC zeroI (.slice none 0 0) (.slice none 0 0)) rfl
      have hFB := below_setCells (Nat.le_succ w.heap.size) (itC zeroI (.slice none 0 0) (.slice none 0 0)) 0 _ (B1)
      go_wp2_with (first
        | (refine wpList_load_rec rfl _ _ rfl (w.heap.size + 1) rfl _ 21 itT (HR.out.below G1) rfl ?_)
        | (refine wpList_store_rec rfl _ _ _ rfl (w.heap.size + 1) (itC zeroI (.slice none 0 0) (.slice none 0 0)) _ rfl rfl 21 itT (HR.out.below G1) rfl rfl zeroI_one ?_)
        | fail)
      refine bodyPost_ret (result_rec rfl rfl rfl itT hF rfl) rfl ?_
      rw [HY2.out]
      exact ⟨_, _, rfl, zeroI_own _ _, hFB⟩
    · have HY2 : Hid (Y = (fillI x rule, 0)) := Lib.hid (by rw [← HY.out]; unfold fillS; rw [hm, hru]; simp)
      have A1 := HA.out.below G1
      have HC2 := Lib.hid (HCo.out HFEW.out)
      clear HY HCo hm hru
      go_wp2_with (first
        | (refine wpList_load_rec rfl _ _ rfl w.heap.size rfl _ 24 stT A1 rfl ?_)
        | fail)
      refine (HC2.out _ G1).mono ?_; rintro e w2 ⟨P2, C2, D2, rfl, ho2, hb2⟩
      obtain ⟨Ap, cp, rfl⟩ := own_form ho2.p
      obtain ⟨Ac, cc, rfl, -⟩ := ho2.c.v
      obtain ⟨np, hnp⟩ : ∃ n, n = x.p.length := ⟨_, rfl⟩
      obtain ⟨nc, hnc⟩ : ∃ n, n = x.cl.length := ⟨_, rfl⟩
      rw [← hnp, ← hnc] at ho2 ⊢
      clear hnp hnc
      have G2 := btr G1 hb2
      have B2 := btr B1 hb2
      have A2 := HA.out.below G2
      have R2 := HR.out.below G2
      have hone2 := ho2.at.one
      have A3 := A2.putAll (stC x (.slice Ap np cp) (.slice Ac nc cc) D2) rfl
      have R3 := R2.apart (show w.heap.size + 1 ≠ w.heap.size by omega) 0 (stC x (.slice Ap np cp) (.slice Ac nc cc) D2)
      have B3 := below_setCells (Nat.le_refl w.heap.size) (stC x (.slice Ap np cp) (.slice Ac nc cc) D2) 0 _ B2
      have ho3 := (ho2.mono G1.size).setCells hgA 0 (stC x (.slice Ap np cp) (.slice Ac nc cc) D2)
      obtain ⟨w3, hw3⟩ : ∃ w3, w3 = w2.setCells w.heap.size 0 (stC x (.slice Ap np cp) (.slice Ac nc cc) D2) := ⟨_, rfl⟩
      rw [← hw3] at A3 B3 ho3 R3
      have HW3 := Lib.hid hw3
      clear hw3 ho2 hb2
      have a6 := A3.c 6 _ rfl
      have a7 := A3.c 7 _ rfl
      have a8 := A3.c 8 _ rfl
      have a9 := A3.c 9 _ rfl
      have a10 := A3.c 10 _ rfl
      have a11 := A3.c 11 _ rfl
      have hoI : ItOwn w3 w0.heap.size (fillI x rule) (.slice Ap np cp) (.slice Ac nc cc) := ⟨ho3.p, ho3.c⟩
      have honeI : ∀ v ∈ itC (fillI x rule) (.slice Ap np cp) (.slice Ac nc cc), v.oneCell' = true := itC_one rfl rfl
      have hF := R3.putAll (itC (fillI x rule) (.slice Ap np cp) (.slice Ac nc cc)) rfl
      have hFB := below_setCells (Nat.le_succ w.heap.size) (itC (fillI x rule) (.slice Ap np cp) (.slice Ac nc cc)) 0 _ B3
      have hFO := hoI.setCells hgR 0 (itC (fillI x rule) (.slice Ap np cp) (.slice Ac nc cc))
      go_wp2_with (first
        | (refine wpList_store_rec rfl _ _ _ rfl w.heap.size (stC x (.slice Ap np cp) (.slice Ac nc cc) D2) _ rfl rfl 24 stT A2 rfl rfl hone2 ?_; rw [← HW3.out])
        | (refine wpList_store_rec rfl _ _ _ rfl (w.heap.size + 1) (itC (fillI x rule) (.slice Ap np cp) (.slice Ac nc cc)) _ rfl rfl 21 itT R3 rfl rfl honeI ?_)
        | fail)
      refine bodyPost_ret (result_rec rfl rfl rfl itT hF rfl) rfl ?_
      rw [HY2.out]
      exact ⟨_, _, rfl, hFO.mono (Nat.le_of_lt hgA), hFB⟩
end Go.Proofs.Ytaadajadeemndaa
