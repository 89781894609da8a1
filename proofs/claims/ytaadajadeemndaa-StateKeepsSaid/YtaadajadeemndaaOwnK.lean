/- tympanhelp.Own: a copy with spare room behind it. -/
import Derived.Test.YtaadajadeemndaaStFill
namespace Go.Proofs.Ytaadajadeemndaa
open Go.RowKit Go.BigFrame

theorem add_none' (b off j : Nat) : (⟨b, off, none⟩ : Addr).add j = ⟨b, off + j, none⟩ := by unfold Addr.add; split <;> simp_all
theorem BC.range_set {w : World} {g : Nat} {C : List Value} (h : BC w g C) (o : Nat) (vs : List Value) (hle : o + vs.length ≤ C.length) : BC (w.setCells g o vs) g (C.take o ++ vs ++ C.drop (o + vs.length)) := by
  refine ⟨by rw [setCells_size]; exact h.lt, fun i => by rw [World.frozen?_setCells]; exact h.nf i, fun j v hv => ?_⟩
  have hsome : ∀ i, i < vs.length → (w.cell? ⟨g, o + i, none⟩).isSome = true := fun i hi => by rw [h.c (o + i) _ (List.getElem?_eq_getElem (by omega))]; rfl
  have htl : (C.take o).length = o := by rw [List.length_take]; omega
  rcases Nat.lt_or_ge j o with h1 | h1
  · rw [World.cell?_setCells_out g vs o w _ (fun _ _ => .inl h1)]
    rw [List.append_assoc, List.getElem?_append_left (by omega), List.getElem?_take, if_pos h1] at hv
    exact h.c j v hv
  · rcases Nat.lt_or_ge j (o + vs.length) with h2 | h2
    · obtain ⟨i, rfl⟩ : ∃ i, j = o + i := ⟨j - o, by omega⟩
      rw [World.cell?_setCells_in g vs o w hsome i (by omega)]
      rw [List.append_assoc, List.getElem?_append_right (by omega), htl, List.getElem?_append_left (by omega)] at hv
      have e : o + i - o = i := by omega
      rw [e, List.getElem?_eq_getElem (by omega)] at hv
      exact hv
    · rw [World.cell?_setCells_out g vs o w _ (fun _ _ => .inr h2)]
      rw [List.getElem?_append_right (by rw [List.length_append]; omega), List.length_append, htl, List.getElem?_drop] at hv
      have e : o + vs.length + (j - (o + vs.length)) = j := by omega
      rw [e] at hv
      exact h.c j v hv
theorem BC.there_at {w : World} {g : Nat} {C : List Value} (h : BC w g C) (o n : Nat) (hle : o + n ≤ C.length) : w.there g o n := fun j hj =>
  ⟨by rw [h.c (o + j) _ (List.getElem?_eq_getElem (by omega))]; rfl, h.nf _⟩
section
variable {P : Program}
theorem wpList_make_room (w : World) {ops : Array Oper} {rest : List Oper} {o : Oper} {a : Act} {Q : Exit → Act → World → Prop}
    (hg : o.guard = none) (l c : Operand) (t : TypeId) (hop : o.op = Op.makeSlice t l c)
    (e : TypeId) (i : TypeInfo) (z : Value) (h1 : P.underlying t = some (.slice e)) (h2 : P.info? e = some i) (h3 : i.zero = some z)
    (kl kc : IntKind) (C : Int) (m : Nat) (hl : a.eval l = .int kl 0) (hc : a.eval c = .int kc C) (hC : C = (m : Int)) (b2 : i.bytes * m ≤ 281474976710656) (b3 : m ≤ 1000000)
    (hK : ∀ cur : Array Value, cur.size = m * i.size → wpList P ops Q rest (a.put o.dst (.slice (some ⟨w.heap.size, 0, none⟩) 0 m)) (w.alloc (.cells cur e))) :
    wpList P ops Q (o :: rest) a w := by
  refine wpList_plain hg fun K hK' => ?_
  subst hC
  have hb' : (i.bytes : Int) * (m : Int) ≤ 281474976710656 := by
    have h : ((i.bytes * m : Nat) : Int) ≤ 281474976710656 := by omega
    rwa [Int.natCast_mul] at h
  have hrun := run_make (P := P) w t e i z h1 h2 h3 kl kc 0 m (by omega) (by omega) hb' (by omega)
  simp only [Int.toNat_natCast, Int.toNat_zero] at hrun
  unfold Oper.wp
  simp [execOp, hop, hl, hc, hrun, Result.andThen]
  exact hK' _ _ (hK _ (size_madeCells _ _))
/-- append where there is room, onto an empty slice. -/
theorem run_app_room (w : World) {t ty e : TypeId} {size bytes : Nat} (T : SlT P t e size bytes) {g cap : Nat} {X : Option Addr} {m cx : Nat} {news C : List Value} (hr : Sl w size X m news) (h1 : ∀ u ∈ news, u.oneCell' = true) (hC : BC w g C) (hl : m * size ≤ C.length) (hroom : m ≤ cap) :
    (Builtin.append_ #[t, t] ty #[.slice (some ⟨g, 0, none⟩) 0 cap, .slice X m cx]).run P w = .ok (.slice (some ⟨g, 0, none⟩) m cap) (w.setCells g 0 news) := by
  obtain ⟨ht, i, z, hi, hz, hsize, hby, hzs, hsz, hbb⟩ := T
  rcases X with _ | ad
  · have hm : m = 0 := by
      rcases Nat.eq_zero_or_pos m with h0 | h0
      · exact h0
      · obtain ⟨b, off, h, _⟩ := hr.2 h0; cases h
    subst hm
    have hn : news = [] := List.eq_nil_of_length_eq_zero (by simpa using hr.1)
    subst hn
    simp [Builtin.append_, run_underlying ht, sizeOf, typeInfo, hi, Builtin.lenOf, Builtin.firstCells, storeCells, World.setCells]
  · have hcells : ∀ j u, news[j]? = some u → w.cell? (ad.add j) = some u := by
      intro j u hu
      rcases Nat.eq_zero_or_pos m with h0 | h0
      · subst h0
        have hn : news = [] := List.eq_nil_of_length_eq_zero (by simpa using hr.1)
        subst hn
        simp at hu
      · obtain ⟨b, off, e, hb, hc⟩ := hr.2 h0
        injection e with e
        subst e
        rw [add_none']
        exact hc j u hu
    have hnl : news.length = m * i.size := by rw [hsize]; exact hr.1
    have hth := hC.there_at 0 news.length (by rw [hr.1]; omega)
    have := run_append_room_cells (P := P) w t ty e i ht hi g 0 0 cap ad m cx news hnl hcells h1 (by omega) (fun j hj => by have := (hth j hj).1; simpa using this) (fun j hj => by have := (hth j hj).2; simpa using this)
    simpa using this
theorem wpList_app_room {P : Program} {w : World} {ops : Array Oper} {rest : List Oper} {o : Oper} {a : Act} {Q : Exit → Act → World → Prop} (hgd : o.guard = none) (s x : Operand) (t : TypeId)
    (ho : o.op = .call { callee := .builtin .append, args := #[s, x], argTypes := #[t, t] }) {e : TypeId} {size bytes : Nat} (T : SlT P t e size bytes) {g cap : Nat} {X : Option Addr} {m cx : Nat} {news C : List Value}
    (hs : a.eval s = .slice (some ⟨g, 0, none⟩) 0 cap) (hx : a.eval x = .slice X m cx) (hr : Sl w size X m news) (h1 : ∀ u ∈ news, u.oneCell' = true) (hC : BC w g C) (hl : m * size ≤ C.length) (hroom : m ≤ cap)
    (h : wpList P ops Q rest (a.put o.dst (.slice (some ⟨g, 0, none⟩) m cap)) (w.setCells g 0 news)) : wpList P ops Q (o :: rest) a w := by
  refine wpList_plain hgd fun K hK => ?_
  have hrun := run_app_room (P := P) w (ty := o.type) T (cap := cap) (cx := cx) hr h1 hC hl hroom
  unfold Oper.wp
  simp [execOp, ho, resolve, invoke, builtin, hs, hx, hrun, Result.andThen]
  exact hK _ _ h
end
theorem wpList_store_at {P : Program} {ops : Array Oper} {rest : List Oper} {op : Oper} {a : Act} {w : World} {Q : Exit → Act → World → Prop} (hgd : op.guard = none) (t : TypeId) (x y : Operand) (ho : op.op = .store t x y) (g o : Nat) (vs : List Value)
    (hx : a.eval x = .pointer (some ⟨g, o, none⟩)) (hy : a.eval y = .agg vs.toArray) (n : Nat) (hT : RecT P t n) (ht : w.there g o n) (hv : vs.length = n) (h1 : ∀ v ∈ vs, v.oneCell' = true)
    (hk : wpList P ops Q rest (a.put op.dst undef) (w.setCells g o vs)) : wpList P ops Q (op :: rest) a w := by
  obtain ⟨d, hu, hd, hi⟩ := hT
  have ht' : w.there g o vs.toArray.size := by rwa [List.size_toArray, hv]
  have := wpList_store_mid (P := P) (ops := ops) (rest := rest) (op := op) (a := a) (w := w) (Q := Q) hgd t x y ho g o vs.toArray hx hy ht' (by rw [hi, List.size_toArray, hv]) (all_oneCell_toArray h1)
  exact this hk
theorem sgTT : RecT Try.prog 42 5 := ⟨_, Try.underlying42, rfl, by kernel_rfl⟩
theorem second_new (w : World) (Fc cur : Array Value) {t : TypeId} : BC ((w.alloc (.cells Fc t)).alloc (.cells cur t)) (w.heap.size + 1) cur.toList := by
  have := BC.new (w := w.alloc (.cells Fc t)) (g := w.heap.size + 1) cur.toList t (by simp)
  simpa using this
set_option maxRecDepth 100000 in
set_option maxHeartbeats 4000000 in
theorem ownKSg_any (A : Option Addr) (n c : Nat) (l : List Sg) (F : Sg) (w : World) (h : Sl w 5 A n (sgs l)) (hln : l.length = n) (hn : n ≤ 1000) :
    Calls Try.prog 14 #[.slice A n c, .agg #[.int .i64 F.kind, .int .i64 F.x, .int .i64 F.y, .int .i64 F.cx, .int .i64 F.cy]] w fun e w' => ∃ g, w.heap.size ≤ g ∧ e = .returned (.slice (some ⟨g, 0, none⟩) n (n + 3)) ∧ BC w' g (sgs (l ++ [F, F, F])) ∧ Below w.heap.size w w' := by
  obtain ⟨ht, i, z, hi, hz, hsize, hby, hzs, -, hbb⟩ := sgT
  have HL := Lib.hid hln
  have HS := Lib.hid h
  clear hln h
  go_enter Try.func14, Try.ntmps14
  go_wp2_with (first
    | (at_make; refine wpList_make_room _ rfl _ _ 26 rfl 42 i z ht hi hz _ _ _ (n + 3) rfl rfl (by omega) (by rw [hby]; omega) (by omega) ?_; intro cur hcur)
    | (at_builtin; refine wpList_app_room rfl _ _ 26 rfl sgT rfl rfl (HS.out.below (bal (bal (Below.refl _ _) _) _)) (oneCell_sgs _) (second_new _ _ _) (by rw [Array.length_toList, hcur, hsize]; omega) (by omega) ?_)
    | fail)
  have hxl := HS.out.1
  have hcl : cur.toList.length = (n + 3) * 5 := by rw [Array.length_toList, hcur, hsize]
  have hBC := second_new w ((sgc F)).toArray cur (t := 42)
  have hB1 := hBC.range_set 0 (sgs l) (by rw [hcl]; omega)
  have hFb : BC (w.alloc (.cells ((sgc F)).toArray 42)) w.heap.size ((sgc F)) := BC.new _ _ rfl
  have hF1 := (hFb.below (bal (Below.refl _ _) (.cells cur 42))).apart (show w.heap.size ≠ w.heap.size + 1 by omega) 0 (sgs l)
  have b1 := below_setCells (show w.heap.size ≤ w.heap.size + 1 by omega) (sgs l) 0 _ (bal (bal (Below.refl w.heap.size w) (.cells ((sgc F)).toArray 42)) (.cells cur 42))
  obtain ⟨w1, hw1⟩ : ∃ w1, w1 = (((w.alloc (.cells ((sgc F)).toArray 42)).alloc (.cells cur 42)).setCells (w.heap.size + 1) 0 (sgs l)) := ⟨_, rfl⟩
  rw [← hw1] at hB1 hF1 b1
  have hw1' : w1 = (((w.alloc (.cells #[.int .i64 F.kind, .int .i64 F.x, .int .i64 F.y, .int .i64 F.cx, .int .i64 F.cy] 42)).alloc (.cells cur 42)).setCells (w.heap.size + 1) 0 (sgs l)) := hw1
  rw [← hw1']
  clear hw1 hw1' hBC hFb
  simp only [List.take_zero, List.nil_append, Nat.zero_add] at hB1
  have hdl : (cur.toList.drop (sgs l).length).length = 3 * 5 := by rw [List.length_drop, hcl, hxl]; omega
  obtain ⟨R0, hR0⟩ : ∃ R0, cur.toList.drop (sgs l).length = R0 := ⟨_, rfl⟩
  rw [hR0] at hB1 hdl
  have HF := Lib.hid hF1
  clear hcl hcur hR0 hF1
  go_loopw [7] (fun s7 wr => ∃ (m k : Nat) (R : List Value), n ≤ m ∧ m ≤ n + 3 ∧ s7 = .int .i64 (m : Int) ∧ Hid (m = n + k ∧ R.length = (3 - k) * 5) ∧ Hid (BC wr (w.heap.size + 1) (sgs (l ++ List.replicate k F) ++ R)) ∧ Hid (BC wr w.heap.size ((sgc F))) ∧ Below w.heap.size w wr) (fun s7 _ => n + 3 - (intOf s7).toNat)
  case atStart => exact ⟨n, 0, R0, Nat.le_refl _, by omega, rfl, Lib.hid ⟨rfl, hdl⟩, Lib.hid (by simpa using hB1), HF, b1⟩
  case round =>
    obtain ⟨m, k, R, hm1, hm2, rfl, hmk, hB, hFc, hb⟩ := hrel
    by_cases hlt : m < n + 3
    · have hXl : (sgs (l ++ List.replicate k F)).length = m * 5 := by
        rw [sgs_len, List.length_append, List.length_replicate, HL.out, ← hmk.out.1]
      have hRl := hmk.out.2
      have hk3 : k < 3 := by have := hmk.out.1; omega
      have hRS : 5 ≤ R.length := by rw [hRl]; omega
      have hth := hB.out.there_at (m * 5) 5 (by rw [List.length_append, hXl]; omega)
      have hset := hB.out.range_set (m * 5) ((sgc F)) (by rw [List.length_append, hXl]; show m * 5 + 5 ≤ _; omega)
      have e1 : (sgs (l ++ List.replicate k F) ++ R).take (m * 5) ++ ((sgc F)) ++ (sgs (l ++ List.replicate k F) ++ R).drop (m * 5 + ((sgc F)).length) = sgs (l ++ List.replicate (k + 1) F) ++ R.drop 5 := by
        rw [List.take_left' hXl, ← List.drop_drop, List.drop_left' hXl, List.replicate_succ', ← List.append_assoc l, sgs_app (l ++ List.replicate k F) [F]]
        have : sgs [F] = (sgc F) := by simp [sgs]
        rw [this]
        rfl
      rw [e1] at hset
      have hF2 := hFc.out.apart (show w.heap.size ≠ w.heap.size + 1 by omega) (m * 5) ((sgc F))
      have hb2 := below_setCells (show w.heap.size ≤ w.heap.size + 1 by omega) ((sgc F)) (m * 5) _ hb
      have q0 := hFc.out.c 0 _ rfl
      have q1 := hFc.out.c 1 _ rfl
      have q2 := hFc.out.c 2 _ rfl
      have q3 := hFc.out.c 3 _ rfl
      have q4 := hFc.out.c 4 _ rfl
      obtain ⟨w2, hw2⟩ : ∃ w2, w2 = wr.setCells (w.heap.size + 1) (m * 5) ((sgc F)) := ⟨_, rfl⟩
      rw [← hw2] at hset hF2 hb2
      have HW2 := Lib.hid hw2
      have HS2 := Lib.hid hset
      have HF2 := Lib.hid hF2
      have HTH := Lib.hid hth
      have HRR := Lib.hid (show (R.drop 5).length = (3 - (k + 1)) * 5 by rw [List.length_drop, hRl]; omega)
      clear hw2 e1 hset hF2 hth hRl hRS hXl hk3
      go_wp2_with (first
        | (refine wpList_store_at rfl _ _ _ rfl (w.heap.size + 1) (m * 5) ((sgc F)) rfl rfl 5 sgTT HTH.out rfl (oneCell_sgc F) ?_; rw [← HW2.out])
        | fail)
      go_roundw
      case rel => exact ⟨m + 1, k + 1, R.drop 5, by omega, by omega, by go_num, Lib.hid ⟨by rw [hmk.out.1]; omega, HRR.out⟩, HS2, HF2, hb2⟩
      case measure => simp [intOf]; omega
    · have hk3 : k = 3 := by have := hmk.out.1; omega
      have hR0 : R = [] := List.eq_nil_of_length_eq_zero (by rw [hmk.out.2, hk3])
      have HB := Lib.hid (show BC wr (w.heap.size + 1) (sgs (l ++ [F, F, F])) by
        have := hB.out
        rw [hR0, hk3, List.append_nil] at this
        exact this)
      clear hk3 hR0
      go_wp2_with fail
      go_ret
      exact ⟨w.heap.size + 1, Nat.le_succ _, rfl, HB.out, hb⟩
end Go.Proofs.Ytaadajadeemndaa
