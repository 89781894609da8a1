/- The reference: Concat and Fill of a state. -/
import Derived.Test.YtdfkbbcoolgfiaaGreatStConc
import Derived.Test.YtdfkbbcoolgfiaaGreatMSr
import Derived.Test.YtdfkbbcoolgfiaaGreatMHp
namespace Go.Proofs.YtdfkbbcoolgfiaaGreat
open Go.RowKit Go.BigFrame

/-- What the reference answers as a mark: the state's lists, or none. -/
structure ItRef (x : St) (y : It) (P' C' P C : Value) : Prop where
  p : (P' = P ∧ y.p = x.p) ∨ (P' = .slice none 0 0 ∧ y.p = [])
  c : (C' = C ∧ y.cl = x.cl) ∨ (C' = .slice none 0 0 ∧ y.cl = [])
theorem ItRef.at {w : World} {x : St} {y : It} {P' C' P C D : Value} (h : ItRef x y P' C' P C) (hx : StAt w x P C D) : ItAt w y P' C' := by
  obtain ⟨h1, h2⟩ := h
  refine ⟨?_, ?_⟩
  · rcases h1 with ⟨rfl, h⟩ | ⟨rfl, h⟩
    · rw [h]; exact hx.p
    · rw [h]; exact PathV.nil
  · rcases h2 with ⟨rfl, h⟩ | ⟨rfl, h⟩
    · rw [h]; exact hx.c
    · rw [h]; exact ClV.nil
theorem ItRef.zero {x : St} {P C : Value} : ItRef x zeroI (.slice none 0 0) (.slice none 0 0) P C := ⟨.inr ⟨rfl, rfl⟩, .inr ⟨rfl, rfl⟩⟩
set_option maxRecDepth 100000 in
set_option maxHeartbeats 4000000 in
theorem rFillS_any (x : St) (P C D : Value) (rule : Int) (Y : It × Int) (w : World) (h : StAt w x P C D) (hf : stFew x) (hY : fillS x rule = Y) : Calls Tryz.prog 8 #[.agg (stC x P C D).toArray, .int .i64 rule] w
    fun r w' => ∃ P' C', r = .returned (.tuple #[.agg (itC Y.1 P' C').toArray, .int .i64 Y.2]) ∧ ItRef x Y.1 P' C' P C ∧ Below w.heap.size w w' := by
  obtain ⟨w0, hw0⟩ : ∃ w0 : World, w0 = (w.alloc (.cells (stC x P C D).toArray 32)).alloc (.cells (itC zeroI (.slice none 0 0) (.slice none 0 0)).toArray 40) := ⟨_, rfl⟩
  have hB0 : Below w.heap.size w w0 := by rw [hw0]; exact bal (bal (Below.refl _ _) _) _
  have hA : BC w0 w.heap.size (stC x P C D) := by rw [hw0]; exact (BC.new (stC x P C D) 32 rfl).below (bal (Below.refl _ _) _)
  have hR : BC w0 (w.heap.size + 1) (itC zeroI (.slice none 0 0) (.slice none 0 0)) := by rw [hw0]; exact BC.new (w := w.alloc (.cells (stC x P C D).toArray 32)) _ 40 (by simp)
  have h0 := h.below hB0
  obtain ⟨Ap, cp, rfl, -⟩ := h.p
  obtain ⟨Ac, cc, rfl, -⟩ := h.c
  obtain ⟨np, hnp⟩ : ∃ n, n = x.p.length := ⟨_, rfl⟩
  obtain ⟨nc, hnc⟩ : ∃ n, n = x.cl.length := ⟨_, rfl⟩
  rw [← hnp, ← hnc] at hw0 hA h0 ⊢
  have honeF : ∀ v ∈ itC (fillI x rule) (.slice Ap np cp) (.slice Ac nc cc), v.oneCell' = true := itC_one rfl rfl
  rw [zeroI_lit] at hw0
  have HY := Lib.hid hY
  have HM := Lib.hid fun W (hb : Below w0.heap.size w0 W) => rStMay_any x _ _ D W (h0.below hb) hf
  have HA := Lib.hid hA
  have HR := Lib.hid hR
  clear hY h0 h hA hR hnp hnc
  go_enter Tryz.func8, Tryz.ntmps8
  go_upto_region 1 with (fail)
  rw [← hw0]
  clear hw0
  go_wp2_with (first
    | (refine wpList_load_rec rfl _ _ rfl w.heap.size rfl _ 24 stateT HA.out rfl ?_)
    | fail)
  refine (HM.out _ (Below.refl _ _)).mono ?_; rintro e w1 ⟨rfl, hb1⟩
  have B1 := btr hB0 hb1
  have R1 := HR.out.below hb1
  have A1 := HA.out.below hb1
  cases hm : mayS x
  · have HY2 : Hid (Y = (zeroI, 1)) := Lib.hid (by rw [← HY.out]; unfold fillS; rw [hm]; simp)
    have hF := R1.putAll (itC zeroI (.slice none 0 0) (.slice none 0 0)) rfl
    have hFB := below_setCells (Nat.le_succ w.heap.size) (itC zeroI (.slice none 0 0) (.slice none 0 0)) 0 _ B1
    go_wp2_with (first
      | (refine wpList_store_rec rfl _ _ _ rfl (w.heap.size + 1) (itC zeroI (.slice none 0 0) (.slice none 0 0)) _ rfl rfl 21 itT R1 rfl rfl zeroI_one ?_)
      | fail)
    refine bodyPost_ret (result_rec rfl rfl rfl itT hF rfl) rfl ?_
    rw [HY2.out]
    exact ⟨_, _, rfl, ItRef.zero, hFB⟩
  · go_wp2_with fail
    refine (rRule_any rule _).mono ?_; rintro e w' ⟨rfl, rfl⟩
    cases hru : ruleB rule
    · have HY2 : Hid (Y = (zeroI, 1)) := Lib.hid (by rw [← HY.out]; unfold fillS; rw [hm, hru]; simp)
      have hF := R1.putAll (itC zeroI (.slice none 0 0) (.slice none 0 0)) rfl
      have hFB := below_setCells (Nat.le_succ w.heap.size) (itC zeroI (.slice none 0 0) (.slice none 0 0)) 0 _ B1
      go_wp2_with (first
        | (refine wpList_store_rec rfl _ _ _ rfl (w.heap.size + 1) (itC zeroI (.slice none 0 0) (.slice none 0 0)) _ rfl rfl 21 itT R1 rfl rfl zeroI_one ?_)
        | fail)
      refine bodyPost_ret (result_rec rfl rfl rfl itT hF rfl) rfl ?_
      rw [HY2.out]
      exact ⟨_, _, rfl, ItRef.zero, hFB⟩
    · have HY2 : Hid (Y = (fillI x rule, 0)) := Lib.hid (by rw [← HY.out]; unfold fillS; rw [hm, hru]; simp)
      have a6 := A1.c 6 _ rfl
      have a7 := A1.c 7 _ rfl
      have a8 := A1.c 8 _ rfl
      have a9 := A1.c 9 _ rfl
      have a10 := A1.c 10 _ rfl
      have a11 := A1.c 11 _ rfl
      have hF := R1.putAll (itC (fillI x rule) (.slice Ap np cp) (.slice Ac nc cc)) rfl
      have hFB := below_setCells (Nat.le_succ w.heap.size) (itC (fillI x rule) (.slice Ap np cp) (.slice Ac nc cc)) 0 _ B1
      clear HY hm hru
      go_wp2_with (first
        | (refine wpList_store_rec rfl _ _ _ rfl (w.heap.size + 1) (itC (fillI x rule) (.slice Ap np cp) (.slice Ac nc cc)) _ rfl rfl 21 itT R1 rfl rfl honeF ?_)
        | fail)
      refine bodyPost_ret (result_rec rfl rfl rfl itT hF rfl) rfl ?_
      rw [HY2.out]
      exact ⟨_, _, rfl, ⟨.inl ⟨rfl, rfl⟩, .inl ⟨rfl, rfl⟩⟩, hFB⟩
end Go.Proofs.YtdfkbbcoolgfiaaGreat

namespace Go.Proofs.YtdfkbbcoolgfiaaGreat
open Go.RowKit Go.BigFrame

theorem add_none' (b off j : Nat) : (⟨b, off, none⟩ : Addr).add j = ⟨b, off + j, none⟩ := by unfold Addr.add; split <;> simp_all
theorem BC.range_set {w : World} {g : Nat} {C : List Value} (h : BC w g C) (o : Nat) (vs : List Value) (hle : o + vs.length ≤ C.length) : BC (w.setCells g o vs) g (C.take o ++ vs ++ C.drop (o + vs.length)) := by
  refine ⟨by rw [setCells_size]; exact h.lt, fun i => by rw [World.frozen?_setCells]; exact h.nf i, fun j v hv => ?_⟩
  have hsome : ∀ i, i < vs.length → (w.cell? ⟨g, o + i, none⟩).isSome = true := fun i hi => by rw [h.c (o + i) _ (List.getElem?_eq_getElem (by omega))]; rfl
  have htl : (C.take o).length = o := by rw [List.length_take]; omega
  rcases Nat.lt_or_ge j o with h1 | h1
  · rw [World.cell?_setCells_out g vs o w _ (fun _ _ => .inl h1)]
    rw [List.append_assoc, List.getElem?_append_left (by omega), List.getElem?_take, if_pos h1] at hv
    exact h.c j v hv
  · rcases Nat.lt_or_ge j (o + vs.length) with h2 | h2
    · obtain ⟨i, rfl⟩ : ∃ i, j = o + i := ⟨j - o, by omega⟩
      rw [World.cell?_setCells_in g vs o w hsome i (by omega)]
      rw [List.append_assoc, List.getElem?_append_right (by omega), htl, List.getElem?_append_left (by omega)] at hv
      have e : o + i - o = i := by omega
      rw [e, List.getElem?_eq_getElem (by omega)] at hv
      exact hv
    · rw [World.cell?_setCells_out g vs o w _ (fun _ _ => .inr h2)]
      rw [List.getElem?_append_right (by rw [List.length_append]; omega), List.length_append, htl, List.getElem?_drop] at hv
      have e : o + vs.length + (j - (o + vs.length)) = j := by omega
      rw [e] at hv
      exact h.c j v hv
theorem BC.there_at {w : World} {g : Nat} {C : List Value} (h : BC w g C) (o n : Nat) (hle : o + n ≤ C.length) : w.there g o n := fun j hj =>
  ⟨by rw [h.c (o + j) _ (List.getElem?_eq_getElem (by omega))]; rfl, h.nf _⟩
section
variable {P : Program}
theorem wpList_make_room (w : World) {ops : Array Oper} {rest : List Oper} {o : Oper} {a : Act} {Q : Exit → Act → World → Prop}
    (hg : o.guard = none) (l c : Operand) (t : TypeId) (hop : o.op = Op.makeSlice t l c)
    (e : TypeId) (i : TypeInfo) (z : Value) (h1 : P.underlying t = some (.slice e)) (h2 : P.info? e = some i) (h3 : i.zero = some z)
    (kl kc : IntKind) (C : Int) (m : Nat) (hl : a.eval l = .int kl 0) (hc : a.eval c = .int kc C) (hC : C = (m : Int)) (b2 : i.bytes * m ≤ 281474976710656) (b3 : m ≤ 1000000)
    (hK : ∀ cur : Array Value, cur.size = m * i.size → wpList P ops Q rest (a.put o.dst (.slice (some ⟨w.heap.size, 0, none⟩) 0 m)) (w.alloc (.cells cur e))) :
    wpList P ops Q (o :: rest) a w := by
  refine wpList_plain hg fun K hK' => ?_
  subst hC
  have hb' : (i.bytes : Int) * (m : Int) ≤ 281474976710656 := by
    have h : ((i.bytes * m : Nat) : Int) ≤ 281474976710656 := by omega
    rwa [Int.natCast_mul] at h
  have hrun := run_make (P := P) w t e i z h1 h2 h3 kl kc 0 m (by omega) (by omega) hb' (by omega)
  simp only [Int.toNat_natCast, Int.toNat_zero] at hrun
  unfold Oper.wp
  simp [execOp, hop, hl, hc, hrun, Result.andThen]
  exact hK' _ _ (hK _ (size_madeCells _ _))
/-- append where there is room, onto an empty slice. -/
theorem run_app_room (w : World) {t ty e : TypeId} {size bytes : Nat} (T : SlT P t e size bytes) {g cap : Nat} {X : Option Addr} {m cx : Nat} {news C : List Value} (hr : Sl w size X m news) (h1 : ∀ u ∈ news, u.oneCell' = true) (hC : BC w g C) (hl : m * size ≤ C.length) (hroom : m ≤ cap) :
    (Builtin.append_ #[t, t] ty #[.slice (some ⟨g, 0, none⟩) 0 cap, .slice X m cx]).run P w = .ok (.slice (some ⟨g, 0, none⟩) m cap) (w.setCells g 0 news) := by
  obtain ⟨ht, i, z, hi, hz, hsize, hby, hzs, hsz, hbb⟩ := T
  rcases X with _ | ad
  · have hm : m = 0 := by
      rcases Nat.eq_zero_or_pos m with h0 | h0
      · exact h0
      · obtain ⟨b, off, h, _⟩ := hr.2 h0; cases h
    subst hm
    have hn : news = [] := List.eq_nil_of_length_eq_zero (by simpa using hr.1)
    subst hn
    simp [Builtin.append_, run_underlying ht, sizeOf, typeInfo, hi, Builtin.lenOf, Builtin.firstCells, storeCells, World.setCells]
  · have hcells : ∀ j u, news[j]? = some u → w.cell? (ad.add j) = some u := by
      intro j u hu
      rcases Nat.eq_zero_or_pos m with h0 | h0
      · subst h0
        have hn : news = [] := List.eq_nil_of_length_eq_zero (by simpa using hr.1)
        subst hn
        simp at hu
      · obtain ⟨b, off, e, hb, hc⟩ := hr.2 h0
        injection e with e
        subst e
        rw [add_none']
        exact hc j u hu
    have hnl : news.length = m * i.size := by rw [hsize]; exact hr.1
    have hth := hC.there_at 0 news.length (by rw [hr.1]; omega)
    have := run_append_room_cells (P := P) w t ty e i ht hi g 0 0 cap ad m cx news hnl hcells h1 (by omega) (fun j hj => by have := (hth j hj).1; simpa using this) (fun j hj => by have := (hth j hj).2; simpa using this)
    simpa using this
theorem wpList_app_room {P : Program} {w : World} {ops : Array Oper} {rest : List Oper} {o : Oper} {a : Act} {Q : Exit → Act → World → Prop} (hgd : o.guard = none) (s x : Operand) (t : TypeId)
    (ho : o.op = .call { callee := .builtin .append, args := #[s, x], argTypes := #[t, t] }) {e : TypeId} {size bytes : Nat} (T : SlT P t e size bytes) {g cap : Nat} {X : Option Addr} {m cx : Nat} {news C : List Value}
    (hs : a.eval s = .slice (some ⟨g, 0, none⟩) 0 cap) (hx : a.eval x = .slice X m cx) (hr : Sl w size X m news) (h1 : ∀ u ∈ news, u.oneCell' = true) (hC : BC w g C) (hl : m * size ≤ C.length) (hroom : m ≤ cap)
    (h : wpList P ops Q rest (a.put o.dst (.slice (some ⟨g, 0, none⟩) m cap)) (w.setCells g 0 news)) : wpList P ops Q (o :: rest) a w := by
  refine wpList_plain hgd fun K hK => ?_
  have hrun := run_app_room (P := P) w (ty := o.type) T (cap := cap) (cx := cx) hr h1 hC hl hroom
  unfold Oper.wp
  simp [execOp, ho, resolve, invoke, builtin, hs, hx, hrun, Result.andThen]
  exact hK _ _ h
end
theorem wpList_store_at {P : Program} {ops : Array Oper} {rest : List Oper} {op : Oper} {a : Act} {w : World} {Q : Exit → Act → World → Prop} (hgd : op.guard = none) (t : TypeId) (x y : Operand) (ho : op.op = .store t x y) (g o : Nat) (vs : List Value)
    (hx : a.eval x = .pointer (some ⟨g, o, none⟩)) (hy : a.eval y = .agg vs.toArray) (n : Nat) (hT : RecT P t n) (ht : w.there g o n) (hv : vs.length = n) (h1 : ∀ v ∈ vs, v.oneCell' = true)
    (hk : wpList P ops Q rest (a.put op.dst undef) (w.setCells g o vs)) : wpList P ops Q (op :: rest) a w := by
  obtain ⟨d, hu, hd, hi⟩ := hT
  have ht' : w.there g o vs.toArray.size := by rwa [List.size_toArray, hv]
  have := wpList_store_mid (P := P) (ops := ops) (rest := rest) (op := op) (a := a) (w := w) (Q := Q) hgd t x y ho g o vs.toArray hx hy ht' (by rw [hi, List.size_toArray, hv]) (all_oneCell_toArray h1)
  exact this hk
theorem sgTT : RecT Tryz.prog 63 5 := ⟨_, Tryz.underlying63, rfl, by kernel_rfl⟩
theorem second_new (w : World) (Fc cur : Array Value) {t : TypeId} : BC ((w.alloc (.cells Fc t)).alloc (.cells cur t)) (w.heap.size + 1) cur.toList := by
  have := BC.new (w := w.alloc (.cells Fc t)) (g := w.heap.size + 1) cur.toList t (by simp)
  simpa using this
end Go.Proofs.YtdfkbbcoolgfiaaGreat

namespace Go.Proofs.YtdfkbbcoolgfiaaGreat
open Go.RowKit Go.BigFrame

/-- What the reference answers as a state: the state's lists, or none. -/
def StRef (x y : St) (P' C' D' P C D : Value) : Prop := (P' = P ∧ C' = C ∧ D' = D ∧ y.p = x.p ∧ y.cl = x.cl ∧ y.da = x.da) ∨ (P' = .slice none 0 0 ∧ C' = .slice none 0 0 ∧ D' = .slice none 0 0 ∧ y.p = [] ∧ y.cl = [] ∧ y.da = [])
theorem StRef.at {w : World} {x y : St} {P' C' D' P C D : Value} (h : StRef x y P' C' D' P C D) (hx : StAt w x P C D) : StAt w y P' C' D' := by
  rcases h with ⟨rfl, rfl, rfl, h1, h2, h3⟩ | ⟨rfl, rfl, rfl, h1, h2, h3⟩
  · exact ⟨by rw [h1]; exact hx.p, by rw [h2]; exact hx.c, by rw [h3]; exact hx.d⟩
  · exact ⟨by rw [h1]; exact PathV.nil, by rw [h2]; exact ClV.nil, by rw [h3]; exact IntsV.nil⟩
theorem StRef.zero {x : St} {P C D : Value} : StRef x zeroS (.slice none 0 0) (.slice none 0 0) (.slice none 0 0) P C D := .inr ⟨rfl, rfl, rfl, rfl, rfl, rfl⟩
set_option maxRecDepth 100000 in
set_option maxHeartbeats 4000000 in
theorem rConcatS_any (x : St) (P C D : Value) (m : Mt) (Y : St × Int) (w : World) (h : StAt w x P C D) (hf : stFew x) (hY : concatB x m = Y) : Calls Tryz.prog 16 #[.agg (stC x P C D).toArray, mtv m] w
    fun r w' => ∃ P' C' D', r = .returned (.tuple #[.agg (stC Y.1 P' C' D').toArray, .int .i64 Y.2]) ∧ StRef x Y.1 P' C' D' P C D ∧ Below w.heap.size w w' := by
  obtain ⟨w0, hw0⟩ : ∃ w0 : World, w0 = ((w.alloc (.cells (stC x P C D).toArray 32)).alloc (.cells (mtC m).toArray 23)).alloc (.cells (stC zeroS (.slice none 0 0) (.slice none 0 0) (.slice none 0 0)).toArray 32) := ⟨_, rfl⟩
  have hB0 : Below w.heap.size w w0 := by rw [hw0]; exact bal (bal (bal (Below.refl _ _) _) _) _
  have hA : BC w0 w.heap.size (stC x P C D) := by rw [hw0]; exact ((BC.new (stC x P C D) 32 rfl).below (bal (Below.refl _ _) _)).below (bal (Below.refl _ _) _)
  have hM : BC w0 (w.heap.size + 1) (mtC m) := by rw [hw0]; exact (BC.new (w := w.alloc (.cells (stC x P C D).toArray 32)) (mtC m) 23 (by simp)).below (bal (Below.refl _ _) _)
  have hR : BC w0 (w.heap.size + 1 + 1) (stC zeroS (.slice none 0 0) (.slice none 0 0) (.slice none 0 0)) := by rw [hw0]; exact BC.new (w := (w.alloc (.cells (stC x P C D).toArray 32)).alloc (.cells (mtC m).toArray 23)) _ 32 (by simp)
  have hgR := hR.lt
  have h0 := h.below hB0
  have hone0 : ∀ (q : Mt), ∀ v ∈ stC { x with m := q } P C D, v.oneCell' = true := by
    intro q
    obtain ⟨⟨_, _, rfl, _⟩, ⟨_, _, rfl, _⟩, ⟨_, _, rfl, _⟩⟩ := h
    exact stC_one rfl rfl rfl
  rw [zero_lit] at hw0
  have HMay := Lib.hid fun W (hb : Below w0.heap.size w0 W) => rStMay_any x P C D W (h0.below hb) hf
  have HY := Lib.hid hY
  have HA := Lib.hid hA
  have HR := Lib.hid hR
  have HMB := Lib.hid hM
  have HO0 := Lib.hid hone0
  have hvm : mtv m = .agg (mtC m).toArray := rfl
  rw [hvm]
  clear h h0 hY hA hR hM hf hone0 hvm
  go_enter Tryz.func16, Tryz.ntmps16
  go_upto_region 1 with (fail)
  rw [← hw0]
  clear hw0
  go_wp2_with (first
    | (refine wpList_load_rec rfl _ _ rfl w.heap.size rfl _ 24 stateT HA.out rfl ?_)
    | fail)
  refine (HMay.out _ (Below.refl _ _)).mono ?_; rintro e w1 ⟨rfl, G1⟩
  have B1 := btr hB0 G1
  cases hm : mayS x
  · have HY2 : Hid (Y = (zeroS, 1)) := Lib.hid (by rw [← HY.out]; unfold concatB; rw [hm]; simp)
    have hF := (HR.out.below G1).putAll (stC zeroS (.slice none 0 0) (.slice none 0 0) (.slice none 0 0)) rfl
    have hFB := below_setCells (show w.heap.size ≤ w.heap.size + 1 + 1 by omega) (stC zeroS (.slice none 0 0) (.slice none 0 0) (.slice none 0 0)) 0 _ (B1)
    go_wp2_with (first
      | (refine wpList_store_rec rfl _ _ _ rfl (w.heap.size + 1 + 1) (stC zeroS (.slice none 0 0) (.slice none 0 0) (.slice none 0 0)) _ rfl rfl 24 stateT (HR.out.below G1) rfl rfl zero_one ?_)
      | fail)
    refine bodyPost_ret (result_rec rfl rfl rfl stateT hF rfl) rfl ?_
    rw [HY2.out]
    exact ⟨_, _, _, rfl, StRef.zero, hFB⟩
  · have HMul := Lib.hid fun W => rMul_any m x.m (mulB m x.m) W rfl
    obtain ⟨⟨q, qe⟩, hq⟩ : ∃ q, mulB m x.m = q := ⟨_, rfl⟩
    have HY3 : Hid (Y = if qe ≠ 0 then (zeroS, qe) else ({ x with m := q }, 0)) := Lib.hid (by rw [← HY.out]; unfold concatB; rw [hm, hq]; simp)
    rw [hq] at HMul
    have hvq : ∀ m, mtv m = .agg (mtC m).toArray := fun _ => rfl
    simp only [hvq] at HMul
    clear hq HY hm hvq
    have A1 := HA.out.below G1
    have M1 := HMB.out.below G1
    have a0 := A1.c 0 _ rfl
    have a1 := A1.c 1 _ rfl
    have a2 := A1.c 2 _ rfl
    have a3 := A1.c 3 _ rfl
    have a4 := A1.c 4 _ rfl
    have a5 := A1.c 5 _ rfl
    have hx6 : (mtC x.m).toArray = #[.int .i64 x.m.a, .int .i64 x.m.b, .int .i64 x.m.c, .int .i64 x.m.d, .int .i64 x.m.e, .int .i64 x.m.f] := rfl
    rw [hx6] at HMul
    clear hx6
    go_wp2_with (first
      | (refine wpList_load_rec rfl _ _ rfl (w.heap.size + 1) rfl _ 6 matT M1 rfl ?_)
      | fail)
    refine (HMul.out _).mono ?_; rintro e w2 ⟨rfl, hb2⟩
    have G2 := btr G1 hb2
    have B2 := btr B1 hb2
    clear a0 a1 a2 a3 a4 a5 A1 M1 hb2
    have hz6 : (mtC zeroM).toArray = #[.int .i64 0, .int .i64 0, .int .i64 0, .int .i64 0, .int .i64 0, .int .i64 0] := rfl
    have Z3 : BC (w2.alloc (.cells (mtC zeroM).toArray 23)) w2.heap.size (mtC zeroM) := BC.new (mtC zeroM) 23 rfl
    have M3 := Z3.putAll (mtC q) rfl
    have b3 : Below w2.heap.size w2 ((w2.alloc (.cells (mtC zeroM).toArray 23)).setCells w2.heap.size 0 (mtC q)) := below_setCells (Nat.le_refl _) _ _ _ (bal (Below.refl _ _) _)
    obtain ⟨w3, hw3⟩ : ∃ w3, w3 = (w2.alloc (.cells (mtC zeroM).toArray 23)).setCells w2.heap.size 0 (mtC q) := ⟨_, rfl⟩
    rw [← hw3] at M3 b3
    rw [hz6] at hw3 Z3
    have HW3 := Lib.hid hw3
    have G3 := btr G2 b3
    have B3 := btr hB0 G3
    have A3 := HA.out.below G3
    have R3 := HR.out.below G3
    have hg2 : w.heap.size < w2.heap.size := by have := G2.size; omega
    clear hw3 hz6 b3
    by_cases hqe : qe = 0
    · subst hqe
      have HY2 : Hid (Y = ({ x with m := q }, 0)) := Lib.hid (by rw [HY3.out]; simp)
      have T3 := A3.there_at 0 6 (by show 0 + 6 ≤ 24; omega)
      have A4 : BC (w3.setCells w.heap.size 0 (mtC q)) w.heap.size (stC { x with m := q } P C D) := A3.range_set 0 (mtC q) (by show 0 + 6 ≤ 24; omega)
      have R4 := R3.apart (show w.heap.size + 1 + 1 ≠ w.heap.size by omega) 0 (mtC q)
      have B4 := below_setCells (Nat.le_refl w.heap.size) (mtC q) 0 _ B3
      obtain ⟨w4, hw4⟩ : ∃ w4, w4 = w3.setCells w.heap.size 0 (mtC q) := ⟨_, rfl⟩
      rw [← hw4] at A4 R4 B4
      have HW4 := Lib.hid hw4
      have one4 := HO0.out q
      have hF := R4.putAll (stC { x with m := q } P C D) rfl
      have hFB := below_setCells (show w.heap.size ≤ w.heap.size + 1 + 1 by omega) (stC { x with m := q } P C D) 0 _ B4
      clear hw4
      go_wp2_with (first
        | (refine wpList_store_rec rfl _ _ _ rfl (w2.heap.size) (mtC q) _ rfl rfl 6 matT Z3 rfl rfl (mtC_one q) ?_; rw [← HW3.out])
        | (refine wpList_load_rec rfl _ _ rfl w2.heap.size rfl _ 6 matT M3 rfl ?_)
        | (refine wpList_store_at rfl _ _ _ rfl w.heap.size 0 (mtC q) rfl rfl 6 matT T3 rfl (mtC_one q) ?_; rw [← HW4.out])
        | (refine wpList_load_rec rfl _ _ rfl w.heap.size rfl _ 24 stateT A4 rfl ?_)
        | (refine wpList_store_rec rfl _ _ _ rfl (w.heap.size + 1 + 1) (stC { x with m := q } P C D) _ rfl rfl 24 stateT R4 rfl rfl one4 ?_)
        | fail)
      refine bodyPost_ret (result_rec rfl rfl rfl stateT hF rfl) rfl ?_
      rw [HY2.out]
      exact ⟨P, C, D, rfl, .inl ⟨rfl, rfl, rfl, rfl, rfl, rfl⟩, hFB⟩
    · have HY2 : Hid (Y = (zeroS, qe)) := Lib.hid (by rw [HY3.out]; simp [hqe])
      have he0 : (qe == 0) = false := by simp [hqe]
      go_wp2_with (first
        | (refine wpList_store_rec rfl _ _ _ rfl (w2.heap.size) (mtC q) _ rfl rfl 6 matT Z3 rfl rfl (mtC_one q) ?_; rw [← HW3.out])
        | (refine wpList_store_rec rfl _ _ _ rfl (w.heap.size + 1 + 1) (stC zeroS (.slice none 0 0) (.slice none 0 0) (.slice none 0 0)) _ rfl rfl 24 stateT R3 rfl rfl zero_one ?_)
        | fail)
      have hF := R3.putAll (stC zeroS (.slice none 0 0) (.slice none 0 0) (.slice none 0 0)) rfl
      have hFB := below_setCells (show w.heap.size ≤ w.heap.size + 1 + 1 by omega) (stC zeroS (.slice none 0 0) (.slice none 0 0) (.slice none 0 0)) 0 _ B3
      refine bodyPost_ret (result_rec rfl rfl rfl stateT hF rfl) rfl ?_
      rw [HY2.out]
      exact ⟨_, _, _, rfl, StRef.zero, hFB⟩
end Go.Proofs.YtdfkbbcoolgfiaaGreat
