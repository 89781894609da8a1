/- tympanlaw42.few. -/
import Derived.Test.YtaadajadeemndaaSt6
import Derived.Test.YtaadajadeemndaaOpenSt
namespace Go.Proofs.Ytaadajadeemndaa
open Go.RowKit Go.BigFrame

/-- How many pieces of the first i clips. -/
def clSum (l : List Cl) (i : Nat) : Nat := ((l.take i).map fun c => c.p.length).sum
def fewB (x : St) : Bool := decide (x.p.length + x.da.length + clSum x.cl (min x.cl.length 20) < 800) && decide (x.cl.length < 20) && decide (x.f.s.size < 200)
theorem clSum_succ (l : List Cl) (i : Nat) (hi : i < l.length) : clSum l (i + 1) = clSum l i + l[i].p.length := by
  unfold clSum
  rw [List.take_succ_eq_append_getElem hi, List.map_append, List.sum_append]
  simp
theorem clSum_le {l : List Cl} {i B : Nat} (h : ∀ c ∈ l, c.p.length ≤ B) : clSum l i ≤ i * B := by
  induction i with
  | zero => simp [clSum]
  | succ i ih =>
    rcases Nat.lt_or_ge i l.length with hi | hi
    · rw [clSum_succ l i hi, Nat.succ_mul]
      have := h l[i] (List.getElem_mem hi)
      omega
    · have e : clSum l (i + 1) = clSum l i := by unfold clSum; rw [List.take_of_length_le (by omega), List.take_of_length_le hi]
      rw [e, Nat.succ_mul]; omega
theorem sum_mem {l : List Nat} {n : Nat} (h : n ∈ l) : n ≤ l.sum := by
  induction l with
  | nil => cases h
  | cons a l ih =>
    rcases List.mem_cons.1 h with rfl | h
    · simp
    · have := ih h; simp; omega
theorem fewB_few {x : St} (h : fewB x = true) : stFew x := by
  simp only [fewB, Bool.and_eq_true, decide_eq_true_eq] at h
  obtain ⟨⟨h1, h2⟩, _⟩ := h
  rw [Nat.min_eq_left (by omega)] at h1
  refine ⟨by omega, by omega, fun c hc => ?_, by omega⟩
  have : c.p.length ≤ clSum x.cl x.cl.length := by
    unfold clSum
    rw [List.take_length]
    exact sum_mem (List.mem_map.2 ⟨c, hc, rfl⟩)
  omega
set_option maxRecDepth 100000 in
set_option maxHeartbeats 4000000 in
theorem few_any (x : St) (P C D : Value) (w : World) (h : StAt w x P C D) (hr : stReach x) : Calls Try.prog 13 #[.agg (stC x P C D).toArray] w fun e w' => e = .returned (.bool (fewB x)) ∧ Below w.heap.size w w' := by
  obtain ⟨w0, hw0⟩ : ∃ w0 : World, w0 = w.alloc (.cells (stC x P C D).toArray 34) := ⟨_, rfl⟩
  have hB0 : Below w.heap.size w w0 := by rw [hw0]; exact bal (Below.refl _ _) _
  have hA : BC w0 w.heap.size (stC x P C D) := by rw [hw0]; exact BC.new (stC x P C D) 34 rfl
  have h0 := h.below hB0
  clear h
  obtain ⟨⟨Ap, cp, rfl, hp, hpc, hpm⟩, hcv, ⟨Ad, cd, rfl, hd, hdc, hdm⟩⟩ := h0
  obtain ⟨Ac, cc, rfl, hc, hcc, hcm⟩ := hcv.sl
  clear hcv
  obtain ⟨r1, r2, r3, r4, r5⟩ := hr
  obtain ⟨np, hnp⟩ : ∃ n, n = x.p.length := ⟨_, rfl⟩
  obtain ⟨nc, hnc⟩ : ∃ n, n = x.cl.length := ⟨_, rfl⟩
  obtain ⟨nd, hnd⟩ : ∃ n, n = x.da.length := ⟨_, rfl⟩
  obtain ⟨R, hR⟩ : ∃ R, fewB x = R := ⟨_, rfl⟩
  have HR : Hid ((decide (np + nd + clSum x.cl (min nc 20) < 800) && decide (nc < 20) && decide (x.f.s.size < 200)) = R) := Lib.hid (by rw [← hR, hnp, hnc, hnd]; rfl)
  rw [hR]
  rw [← hnp] at hA hw0 r1 hpc ⊢
  rw [← hnc] at hA hw0 r2 hcc ⊢
  rw [← hnd] at hA hw0 r4 hdc ⊢
  have HNC := Lib.hid hnc
  have HC := Lib.hid hc
  have HR3 := Lib.hid r3
  have a6 := hA.c 6 _ rfl
  have a7 := hA.c 7 _ rfl
  have a15 := hA.c 15 _ rfl
  have a22 := hA.c 22 _ rfl
  clear hnp hnc hnd hp hd hc r3 hR hA
  unfold reach47 at r1 r2 r4
  go_enter Try.func13, Try.ntmps13
  go_upto_region 1 with (fail)
  rw [← hw0]
  clear hw0
  go_wp2_with fail
  go_loopw [3, 4] (fun s3 s4 wr => ∃ i t : Nat, i ≤ 20 ∧ i ≤ nc ∧ s3 = .int .i64 (t : Int) ∧ s4 = .int .i64 (i : Int) ∧ wr = w0 ∧ t ≤ 3096224743817216 + i * 140737488351232 ∧ Hid (t = np + nd + clSum x.cl i)) (fun _ s4 _ => 20 - (intOf s4).toNat)
  case atStart => exact ⟨0, np + nd, by omega, Nat.zero_le _, by go_num, rfl, rfl, by omega, Lib.hid (by simp [clSum])⟩
  case round =>
    obtain ⟨i, t, hi, hin, rfl, rfl, rfl, ht, hts⟩ := hrel
    by_cases hlt : i < nc ∧ i < 20
    · obtain ⟨g1, g2⟩ := hlt
      have hlc : i < x.cl.length := by rw [← HNC.out]; exact g1
      obtain ⟨b, off, Ae, ce, rfl, hbl, c0, c1, hs, hce, hcm2⟩ := HC.out.get i hlc
      obtain ⟨ne, hne⟩ : ∃ n, n = x.cl[i].p.length := ⟨_, rfl⟩
      rw [← hne] at c0 hce
      have hne2 : ne ≤ 140737488351232 := by rw [hne]; exact HR3.out _ (List.getElem_mem hlc)
      have HNE := Lib.hid hne
      clear hne c1 hs
      go_wp2_with fail
      go_roundw
      case rel => exact ⟨i + 1, t + ne, by omega, by omega, by go_num, by go_num, by trivial, by omega, Lib.hid (by rw [clSum_succ x.cl i hlc, ← HNE.out, hts.out]; omega)⟩
      case measure => simp [intOf]; omega
    · have HR2 : Hid ((decide (t < 800) && decide (nc < 20) && decide (x.f.s.size < 200)) = R) := Lib.hid (by
        have e : min nc 20 = i := by omega
        rw [← HR.out, e, hts.out])
      clear hts ht HR
      by_cases q1 : i < nc
      · obtain rfl : i = 20 := by omega
        by_cases q2 : t < 800
        · by_cases q3 : nc < 20
          · by_cases q4 : x.f.s.size < 200
            · first
                | (exfalso; omega)
                | skip
              all_goals
                have HR4 := Lib.hid (show R = true by rw [← HR2.out]; simp [q2, q3, q4])
                go_wp2_with fail
                go_ret
                refine ⟨ret_bool ?_, hB0⟩
                first | (rw [HR4.out]; done) | (rw [HR4.out]; simp; done) | (rw [HR4.out]; simp; omega)
            · first
                | (exfalso; omega)
                | skip
              all_goals
                have HR4 := Lib.hid (show R = false by rw [← HR2.out]; simp [q4])
                go_wp2_with fail
                go_ret
                refine ⟨ret_bool ?_, hB0⟩
                first | (rw [HR4.out]; done) | (rw [HR4.out]; simp; done) | (rw [HR4.out]; simp; omega)
          · have HR4 := Lib.hid (show R = false by rw [← HR2.out]; simp [q3])
            go_wp2_with fail
            go_ret
            refine ⟨ret_bool ?_, hB0⟩
            first | (rw [HR4.out]; done) | (rw [HR4.out]; simp; done) | (rw [HR4.out]; simp; omega)
        · have HR4 := Lib.hid (show R = false by rw [← HR2.out]; simp [q2])
          go_wp2_with fail
          go_ret
          refine ⟨ret_bool ?_, hB0⟩
          first | (rw [HR4.out]; done) | (rw [HR4.out]; simp; done) | (rw [HR4.out]; simp; omega)
      · by_cases q2 : t < 800
        · by_cases q3 : nc < 20
          · by_cases q4 : x.f.s.size < 200
            · first
                | (exfalso; omega)
                | skip
              all_goals
                have HR4 := Lib.hid (show R = true by rw [← HR2.out]; simp [q2, q3, q4])
                go_wp2_with fail
                go_ret
                refine ⟨ret_bool ?_, hB0⟩
                first | (rw [HR4.out]; done) | (rw [HR4.out]; simp; done) | (rw [HR4.out]; simp; omega)
            · first
                | (exfalso; omega)
                | skip
              all_goals
                have HR4 := Lib.hid (show R = false by rw [← HR2.out]; simp [q4])
                go_wp2_with fail
                go_ret
                refine ⟨ret_bool ?_, hB0⟩
                first | (rw [HR4.out]; done) | (rw [HR4.out]; simp; done) | (rw [HR4.out]; simp; omega)
          · have HR4 := Lib.hid (show R = false by rw [← HR2.out]; simp [q3])
            go_wp2_with fail
            go_ret
            refine ⟨ret_bool ?_, hB0⟩
            first | (rw [HR4.out]; done) | (rw [HR4.out]; simp; done) | (rw [HR4.out]; simp; omega)
        · have HR4 := Lib.hid (show R = false by rw [← HR2.out]; simp [q2])
          go_wp2_with fail
          go_ret
          refine ⟨ret_bool ?_, hB0⟩
          first | (rw [HR4.out]; done) | (rw [HR4.out]; simp; done) | (rw [HR4.out]; simp; omega)
end Go.Proofs.Ytaadajadeemndaa
