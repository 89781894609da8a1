/- obj.bare, obj.May of a Dict. -/
import Derived.Test.YtaadajadeemndaaSt1
import Derived.Test.YtaadajadeemndaaAllP
namespace Go.Proofs.Ytaadajadeemndaa
open Go.RowKit Go.BigFrame

def emptyS : ByteArray := { data := #[] }
set_option maxRecDepth 100000 in
theorem eql_ob (o : Ob) (k n a l : Int) (b : Bool) (w : World) : (binOp .eql 32 (obv o) (.agg #[.int .i64 k, .bool b, .int .i64 n, .int .i64 a, .int .i64 l, .string { data := #[] }])).run Try.prog w = .ok (.bool (o.k == k && (o.ex == b) && o.n == n && o.at_ == a && o.ln == l && o.s.toList.isEmpty)) w := by
  unfold obv obC
  simp [go_sem]
  by_cases h1 : o.k = k <;> by_cases h2 : o.ex = b <;> by_cases h3 : o.n = n <;> by_cases h4 : o.at_ = a <;> by_cases h5 : o.ln = l <;> simp [h1, h2, h3, h4, h5, go_sem]
  cases o.s.toList <;> simp
set_option maxRecDepth 100000 in
theorem neq_ob (o : Ob) (k n a l : Int) (b : Bool) (w : World) : (binOp .neq 32 (obv o) (.agg #[.int .i64 k, .bool b, .int .i64 n, .int .i64 a, .int .i64 l, .string { data := #[] }])).run Try.prog w = .ok (.bool (!(o.k == k && (o.ex == b) && o.n == n && o.at_ == a && o.ln == l && o.s.toList.isEmpty))) w := by
  unfold obv obC
  simp [go_sem]
  by_cases h1 : o.k = k <;> by_cases h2 : o.ex = b <;> by_cases h3 : o.n = n <;> by_cases h4 : o.at_ = a <;> by_cases h5 : o.ln = l <;> simp [h1, h2, h3, h4, h5, go_sem]
  cases o.s.toList <;> simp
set_option maxRecDepth 100000 in
theorem bare_dict (o : Ob) (w : World) (hk : o.k = 10) : Calls Try.prog 110 #[obv o] w fun e w' => e = .returned (.agg #[.int .i64 10, .bool false, .int .i64 0, .int .i64 o.at_, .int .i64 o.ln, .string o.s]) ∧ Below w.heap.size w w' := by
  unfold obv obC
  rw [hk]
  go_enter Try.func110, Try.ntmps110
  go_wp2
  refine bodyPost_ret (v := .agg #[.int .i64 10, .bool false, .int .i64 0, .int .i64 o.at_, .int .i64 o.ln, .string o.s]) (by simp [results, Try.results110, go_sem]) rfl ?_
  refine ⟨rfl, ?_⟩
  repeat (first | exact bal (bal (Below.refl _ _) _) _ | refine bset ?_ (by simp) _)
theorem dict_eq (o : Ob) (v : Bool) (h : (o.at_ == 0 && o.ln == 0 && o.s.toList.isEmpty) = v) : dictB o = (v && inB o.n 0 40000) := by
  unfold dictB; rw [h]
set_option maxRecDepth 100000 in
set_option maxHeartbeats 1000000 in
theorem objMay_dict (o : Ob) (w : World) (hk : o.k = 10) : Calls Try.prog 72 #[obv o] w fun e w' => e = .returned (.bool (dictB o)) ∧ Below w.heap.size w w' := by
  obtain ⟨w0, hw0⟩ : ∃ w0 : World, w0 = w.alloc (.cells (obC o).toArray 32) := ⟨_, rfl⟩
  have hB0 : Below w.heap.size w w0 := by rw [hw0]; exact bal (Below.refl _ _) _
  have hA : BC w0 w.heap.size (obC o) := by rw [hw0]; exact BC.new (obC o) 32 rfl
  have HO := Lib.hid fun W => bare_dict o W hk
  have hE := fun W => neq_ob ⟨10, false, 0, o.at_, o.ln, o.s⟩ 10 0 0 0 false W
  obtain ⟨q, hq⟩ : ∃ q, (o.at_ == 0 && o.ln == 0 && o.s.toList.isEmpty) = q := ⟨_, rfl⟩
  have hE2 : ((10 : Int) == 10 && (false == false) && (0 : Int) == 0 && o.at_ == 0 && o.ln == 0 && o.s.toList.isEmpty) = q := by rw [← hq]; simp
  simp only at hE
  rw [hE2] at hE
  rw [dict_eq o q hq]
  clear hq hE2
  unfold obv obC at hE HO
  unfold obv obC
  unfold obC at hw0 hA
  rw [hk] at hw0 hA HO ⊢
  clear hk
  simp only at hE
  have a0 := fun x : Grown w0 => x.cell (hA.c 0 _ rfl) hA.lt
  have a1 := fun x : Grown w0 => x.cell (hA.c 1 _ rfl) hA.lt
  have a2 := fun x : Grown w0 => x.cell (hA.c 2 _ rfl) hA.lt
  have a3 := fun x : Grown w0 => x.cell (hA.c 3 _ rfl) hA.lt
  have a4 := fun x : Grown w0 => x.cell (hA.c 4 _ rfl) hA.lt
  have a5 := fun x : Grown w0 => x.cell (hA.c 5 _ rfl) hA.lt
  go_enter Try.func72, Try.ntmps72
  go_wp2_with fail
  rw [← hw0]
  clear hw0
  go_wp2_with fail
  refine wp_region_grown (by kernel_rfl) (by kernel_rfl) ?_
  repeat (go_big_quiet_step (first
    | (go_at_call 110; with_reducible exact Calls.grown (HO.out _))
    | fail))
  refine wpQuiet_nil ?_
  rintro _ ⟨x, rfl⟩
  obtain ⟨w1, hb1⟩ := x
  simp only
  have B1 := btr hB0 hb1
  have c0 := (hA.below hb1).c 0 _ rfl
  have c2 := (hA.below hb1).c 2 _ rfl
  clear a0 a1 a2 a3 a4 a5 hE HO hA hb1 hB0
  cases q
  · go_wp2_with fail
    go_ret
    exact ⟨ret_bool (by simp), B1⟩
  · go_wp2_with fail
    refine (objWithin_any _ _ _ _).mono ?_; rintro e w' ⟨rfl, rfl⟩
    go_wp2_with fail
    go_ret
    exact ⟨ret_bool (by simp), B1⟩
end Go.Proofs.Ytaadajadeemndaa
