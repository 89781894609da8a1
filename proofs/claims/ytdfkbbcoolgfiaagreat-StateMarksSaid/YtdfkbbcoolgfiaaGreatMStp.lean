/- dash.Cut and the reference's Cut, by lengths whatever they are (some, few, none of them large): with lengths that are all 0 both refuse. -/
import Derived.Test.YtdfkbbcoolgfiaaGreatDash6
import Derived.Test.YtdfkbbcoolgfiaaGreatDashR6
import Derived.Test.YtdfkbbcoolgfiaaGreatMHp
import Derived.Test.YtdfkbbcoolgfiaaGreatMatW
import Derived.Test.YtdfkbbcoolgfiaaGreatAllP
import Derived.Test.YtdfkbbcoolgfiaaGreatMS7
namespace Go.Proofs.YtdfkbbcoolgfiaaGreat
open Go.RowKit

/-- Lengths, not too many, none of them large. -/
def LensW (on : List Int) : Prop := on.length ≤ 11 ∧ ∀ v ∈ on, 0 ≤ v ∧ v ≤ 2048
/-- What Cut answers. -/
def cutZ (on : List Int) (f : Int) (l : List Sg) : List Sg × Int := if on.sum = 0 then ([], 1) else cutL on f l
theorem sum_nn : ∀ {on : List Int}, (∀ v ∈ on, 0 ≤ v ∧ v ≤ 2048) → 0 ≤ on.sum
  | [], _ => by simp
  | v :: l, h => by
    have := h v (by simp)
    have := sum_nn (on := l) (fun u hu => h u (by simp [hu]))
    simp; omega
theorem sum_zero : ∀ {on : List Int}, (∀ v ∈ on, 0 ≤ v ∧ v ≤ 2048) → on.sum = 0 → ∀ v ∈ on, v = 0
  | [], _, _, v, hv => by simp at hv
  | u :: l, h, hs, v, hv => by
    have h1 := h u (by simp)
    have h2 := sum_nn (on := l) (fun u hu => h u (by simp [hu]))
    simp at hs
    rcases List.mem_cons.1 hv with rfl | hv
    · omega
    · exact sum_zero (fun u hu => h u (by simp [hu])) (by omega) v hv
theorem LensW.row {on : List Int} (h : LensW on) (hs : on.sum ≠ 0) : Row on :=
  ⟨fun v hv => (h.2 v hv).1, fun v hv => by have := (h.2 v hv).2; omega, by have := sum_nn h.2; omega⟩
theorem take_zero {on : List Int} (h : ∀ v ∈ on, v = 0) (k : Nat) : (on.take k).sum = 0 := by
  induction on generalizing k with
  | nil => simp
  | cons u l ih =>
    cases k with
    | zero => simp
    | succ k => simp [h u (by simp), ih (fun v hv => h v (by simp [hv]))]

set_option maxHeartbeats 400000 in
theorem dash_May_zero (A : Option Addr) (n c : Nat) (on : List Int) (w : World) (h : Sl w 1 A n (ints on)) (hz : ∀ v ∈ on, v = 0) (h1 : 1 ≤ n) (hn : n ≤ 11) :
    Calls Tryz.prog 122 #[.slice A n c] w fun e w' => e = .returned (.bool false) ∧ w = w' := by
  have hl := h.intlen
  go_enter Tryz.func122, Tryz.ntmps122
  go_wp2
  go_loop [3, 11] (fun s i => ∃ k : Nat, k ≤ n ∧ i = .int .i64 k ∧ s = .int .i64 0) (fun _ i => n - (intOf i).toNat)
  case atStart => exact ⟨0, by omega, rfl, rfl⟩
  case round =>
    obtain ⟨k, hk, rfl, rfl⟩ := hrel
    by_cases hlt : k < n
    · have hkl : k < on.length := by omega
      obtain ⟨b, off, rfl, hb, c0⟩ := h.intAt k hlt hkl
      have v0 := hz _ (List.getElem_mem hkl)
      rw [v0] at c0
      clear v0
      go_wp2
      go_round
      case rel => exact ⟨k + 1, by omega, by go_num, rfl⟩
      case measure => simp [intOf]; omega
    · obtain rfl : k = n := by omega
      have hk0 : ((k : Int) == 0) = false := by simp; omega
      go_wp2
      go_ret
      exact ⟨by simp, rfl⟩

set_option maxHeartbeats 400000 in
theorem ref_MayDash_zero (A : Option Addr) (n c : Nat) (on : List Int) (w : World) (h : Sl w 1 A n (ints on)) (hz : ∀ v ∈ on, v = 0) (h1 : 1 ≤ n) (hn : n ≤ 11) :
    Calls Tryz.prog 78 #[.slice A n c] w fun e w' => e = .returned (.bool false) ∧ w = w' := by
  have hl := h.intlen
  go_enter Tryz.func78, Tryz.ntmps78
  go_wp2
  go_loop [3, 4] (fun s i => ∃ k : Nat, k ≤ n ∧ i = .int .i64 k ∧ s = .int .i64 0) (fun _ i => n - (intOf i).toNat)
  case atStart => exact ⟨0, by omega, rfl, rfl⟩
  case round =>
    obtain ⟨k, hk, rfl, rfl⟩ := hrel
    by_cases hlt : k < n
    · have hkl : k < on.length := by omega
      obtain ⟨b, off, rfl, hb, c0⟩ := h.intAt k hlt hkl
      have v0 := hz _ (List.getElem_mem hkl)
      rw [v0] at c0
      clear v0
      go_wp2
      all_goals
        go_round
        case rel => exact ⟨k + 1, by omega, by go_num, by first | rfl | simp⟩
        case measure => simp [intOf]; omega
    · obtain rfl : k = n := by omega
      have hk0 : ((k : Int) == 0) = false := by simp; omega
      have hk1 : decide ((k : Int) ≤ 11) = true := by simp; omega
      go_wp2
      go_ret
      exact ⟨by simp, rfl⟩

set_option maxHeartbeats 1000000 in
theorem cut_zero (A A0 : Option Addr) (n c n0 c0 : Nat) (l : List Sg) (on : List Int) (f : Int) (w : World) (h : Sl w 5 A n (sgs l)) (hok : mayB l = true) (hb : ∀ s ∈ l, s.kind ≠ 3)
    (ho : Sl w 1 A0 n0 (ints on)) (h1 : 1 ≤ n0) (h11 : n0 ≤ 11) (hz : ∀ v ∈ on, v = 0) :
    Calls Tryz.prog 71 #[.slice A n c, .slice A0 n0 c0, .int .i64 f] w fun e w' => e = .returned (.tuple #[.slice none 0 0, .int .i64 1]) ∧ Below w.heap.size w w' := by
  have hl := h.sglen
  have hn3 : n ≤ 300 := by rw [← hl]; exact (mayB_from hok).2
  have HB := Lib.hid hb
  have HOK := Lib.hid hok
  clear hb hok hl
  go_enter Tryz.func71, Tryz.ntmps71
  go_wp2_with fail
  refine (dash_plain_any A n c l w (by omega) h HOK.out HB.out).mono ?_; rintro e w1 ⟨rfl, hb1⟩
  go_wp2_with fail
  refine (dash_May_zero A0 n0 c0 on _ (ho.below hb1) hz h1 h11).mono ?_; rintro e w2 ⟨rfl, rfl⟩
  go_wp2_with fail
  go_ret2
  exact ⟨rfl, hb1⟩
set_option maxHeartbeats 1000000 in
theorem ref_Cut_zero (A A0 : Option Addr) (n c n0 c0 : Nat) (l : List Sg) (on : List Int) (f : Int) (w : World) (h : Sl w 5 A n (sgs l)) (hok : mayB l = true) (hb : ∀ s ∈ l, s.kind ≠ 3)
    (ho : Sl w 1 A0 n0 (ints on)) (h1 : 1 ≤ n0) (h11 : n0 ≤ 11) (hz : ∀ v ∈ on, v = 0) :
    Calls Tryz.prog 35 #[.slice A n c, .slice A0 n0 c0, .int .i64 f] w fun e w' => e = .returned (.tuple #[.slice none 0 0, .int .i64 1]) ∧ Below w.heap.size w w' := by
  have hl := h.sglen
  have hn3 : n ≤ 300 := by rw [← hl]; exact (mayB_from hok).2
  have HB := Lib.hid hb
  have HOK := Lib.hid hok
  clear hb hok hl
  go_enter Tryz.func35, Tryz.ntmps35
  go_wp2_with fail
  refine (ref_Straight_any A n c l w (by omega) h HOK.out HB.out).mono ?_; rintro e w1 ⟨rfl, hb1⟩
  go_wp2_with fail
  refine (ref_MayDash_zero A0 n0 c0 on _ (ho.below hb1) hz h1 h11).mono ?_; rintro e w2 ⟨rfl, rfl⟩
  go_wp2_with fail
  go_ret2
  exact ⟨rfl, hb1⟩

theorem cutZ_any (A A0 : Option Addr) (n c n0 c0 : Nat) (l : List Sg) (on : List Int) (f : Int) (L : List Sg) (er : Int) (m : Nat) (w : World) (h : Sl w 5 A n (sgs l)) (hok : mayB l = true) (hb : ∀ s ∈ l, s.kind ≠ 3)
    (ho : Sl w 1 A0 n0 (ints on)) (h1 : 1 ≤ n0) (hon : LensW on) (hf : 0 ≤ f ∧ f ≤ 2147483647) (hr : cutZ on f l = (L, er)) (hm : L.length = m) :
    Calls Tryz.prog 71 #[.slice A n c, .slice A0 n0 c0, .int .i64 f] w fun e w' => ∃ A' c', e = .returned (.tuple #[.slice A' m c', .int .i64 er]) ∧ w'.ownsRow w.heap.size 63 5 (.slice A' m c') m (sgs L) ∧ Below w.heap.size w w' := by
  have hol := ho.intlen
  unfold cutZ at hr
  split at hr
  · rename_i hs
    obtain ⟨rfl, rfl⟩ := Prod.mk.inj hr
    obtain rfl : 0 = m := hm
    exact (cut_zero A A0 n c n0 c0 l on f w h hok hb ho h1 (by rw [← hol]; exact hon.1) (sum_zero hon.2 hs)).mono fun e w' ⟨he, hb⟩ => ⟨none, 0, he, own_nil, hb⟩
  · rename_i hs
    have hh := Cut_row A A0 n c n0 c0 l on f w h hok hb ho (hon.row hs) hon.1 hf
    rw [hr] at hh
    refine hh.mono fun e w' ⟨A', c', h1, h2, h3⟩ => ?_
    subst hm
    exact ⟨A', c', h1, h2, h3⟩
theorem ref_cutZ_any (A A0 : Option Addr) (n c n0 c0 : Nat) (l : List Sg) (on : List Int) (f : Int) (L : List Sg) (er : Int) (m : Nat) (w : World) (h : Sl w 5 A n (sgs l)) (hok : mayB l = true) (hb : ∀ s ∈ l, s.kind ≠ 3)
    (ho : Sl w 1 A0 n0 (ints on)) (h1 : 1 ≤ n0) (hon : LensW on) (hf : 0 ≤ f ∧ f ≤ 2147483647) (hr : cutZ on f l = (L, er)) (hm : L.length = m) :
    Calls Tryz.prog 35 #[.slice A n c, .slice A0 n0 c0, .int .i64 f] w fun e w' => ∃ A' c', e = .returned (.tuple #[.slice A' m c', .int .i64 er]) ∧ w'.ownsRow w.heap.size 63 5 (.slice A' m c') m (sgs L) ∧ Below w.heap.size w w' := by
  have hol := ho.intlen
  unfold cutZ at hr
  split at hr
  · rename_i hs
    obtain ⟨rfl, rfl⟩ := Prod.mk.inj hr
    obtain rfl : 0 = m := hm
    exact (ref_Cut_zero A A0 n c n0 c0 l on f w h hok hb ho h1 (by rw [← hol]; exact hon.1) (sum_zero hon.2 hs)).mono fun e w' ⟨he, hb⟩ => ⟨none, 0, he, own_nil, hb⟩
  · rename_i hs
    have hh := ref_Cut_row A A0 n c n0 c0 l on f w h hok hb ho (hon.row hs) hon.1 hf
    rw [hr] at hh
    refine hh.mono fun e w' ⟨A', c', h1, h2, h3⟩ => ?_
    subst hm
    exact ⟨A', c', h1, h2, h3⟩
end Go.Proofs.YtdfkbbcoolgfiaaGreat

namespace Go.Proofs.YtdfkbbcoolgfiaaGreat

def wsL (m : Mt) (l : List Int) : List Int := l.map fun d => (wideM m d).1
/-- What goes wrong first. -/
def errW (m : Mt) : List Int → Int
  | [] => 0
  | d :: l => if (wideM m d).2 ≠ 0 then (wideM m d).2 else errW m l
theorem wideM_bd (m : Mt) (z : Int) : 0 ≤ (wideM m z).1 ∧ (wideM m z).1 ≤ 2048 := by
  unfold wideM
  split
  · exact ⟨by omega, by omega⟩
  · rename_i h
    split
    · exact ⟨by omega, by omega⟩
    · rename_i h2
      refine ⟨?_, by omega⟩
      simp only [Bool.not_eq_false, Bool.and_eq_true, decide_eq_true_eq] at h
      have := (flr_det h.1.1).1
      exact Int.ediv_nonneg (Int.mul_nonneg h.1.2 this) (by omega)
theorem wsL_ok (m : Mt) {l : List Int} (h : l.length ≤ 11) : LensW (wsL m l) :=
  ⟨by unfold wsL; rw [List.length_map]; exact h, fun v hv => by
    unfold wsL at hv
    rw [List.mem_map] at hv
    obtain ⟨d, _, rfl⟩ := hv
    exact wideM_bd m d⟩
theorem errW_at (m : Mt) : ∀ (l : List Int) (k : Nat) (h : k < l.length), (∀ d ∈ l.take k, (wideM m d).2 = 0) → (wideM m l[k]).2 ≠ 0 → errW m l = (wideM m l[k]).2
  | [], k, h, _, _ => by simp at h
  | d :: l, 0, _, _, he => by simp only [List.getElem_cons_zero] at he ⊢; unfold errW; rw [if_pos he]
  | d :: l, k + 1, h, ha, he => by
    have h0 := ha d (by simp)
    have ih := errW_at m l k (by simpa using h) (fun u hu => ha u (by simp [hu])) (by simpa using he)
    unfold errW
    rw [if_neg (by simpa using h0)]
    simpa using ih
theorem errW_none (m : Mt) : ∀ (l : List Int), (∀ d ∈ l, (wideM m d).2 = 0) → errW m l = 0
  | [], _ => rfl
  | d :: l, h => by
    unfold errW
    rw [if_neg (by simpa using h d (by simp))]
    exact errW_none m l fun u hu => h u (by simp [hu])
theorem take_ok {m : Mt} {l : List Int} {k : Nat} (h : k < l.length) (ha : ∀ d ∈ l.take k, (wideM m d).2 = 0) (hk : (wideM m l[k]).2 = 0) : ∀ d ∈ l.take (k + 1), (wideM m d).2 = 0 := by
  intro d hd
  rw [List.take_succ_eq_append_getElem h, List.mem_append, List.mem_singleton] at hd
  rcases hd with hd | rfl
  · exact ha d hd
  · exact hk
theorem wsL_take (m : Mt) (l : List Int) (k : Nat) (h : k < l.length) : wsL m (l.take (k + 1)) = wsL m (l.take k) ++ [(wideM m l[k]).1] := by
  unfold wsL; rw [List.take_succ_eq_append_getElem h, List.map_append]; rfl
/-- A path that is broken as a state says. -/
def dashedS (m : Mt) (da : List Int) (ph : Int) (l : List Sg) : List Sg × Int :=
  if errW m da ≠ 0 then ([], errW m da) else if (wideM m ph).2 ≠ 0 then ([], (wideM m ph).2) else cutZ (wsL m da) (wideM m ph).1 l
def hemI (x : St) (l : List Sg) (wd : Int) : It := ⟨2, l, 0, wd, x.cap, x.join, 0, 0, 0, { data := #[] }, zeroM, x.r, x.g, x.b, x.a, x.cl⟩
/-- What Stroke answers. -/
def strokeS (x : St) : It × Int :=
  if mayS x = false then (zeroI, 1) else if (flatE x.p).2 ≠ 0 then (zeroI, (flatE x.p).2) else if (wideM x.m x.wide).2 ≠ 0 then (zeroI, (wideM x.m x.wide).2)
  else if x.da = [] then (hemI x (flatE x.p).1 (wideM x.m x.wide).1, 0)
  else if (dashedS x.m x.da x.ph (flatE x.p).1).2 ≠ 0 then (zeroI, (dashedS x.m x.da x.ph (flatE x.p).1).2) else (hemI x (dashedS x.m x.da x.ph (flatE x.p).1).1 (wideM x.m x.wide).1, 0)
theorem hemI_lit (x : St) (l : List Sg) (wd : Int) (P C : Value) : itC (hemI x l wd) P C = [.int .i64 2, P, .int .i64 0, .int .i64 wd, .int .i64 x.cap, .int .i64 x.join, .int .i64 0, .int .i64 0, .int .i64 0, .string { data := #[] },
  .int .i64 0, .int .i64 0, .int .i64 0, .int .i64 0, .int .i64 0, .int .i64 0, .int .u8 x.r, .int .u8 x.g, .int .u8 x.b, .int .u8 x.a, C] := rfl
theorem flSt_nobow {l : List Sg} (h : mayB l = true) : ∀ s ∈ flatL l, s.kind ≠ 3 := by
  rw [flatL_cts h]
  intro s hs
  unfold pathOf at hs
  rw [List.mem_flatMap] at hs
  obtain ⟨c', hc', hs⟩ := hs
  rw [List.mem_map] at hc'
  obtain ⟨c, hc, rfl⟩ := hc'
  have hg := ctsL_good l c hc
  simp only [pathC, flatC, List.mem_cons, List.mem_append, List.mem_map, List.mem_flatMap] at hs
  rcases hs with rfl | ⟨d, ⟨e, he, hd⟩, rfl⟩ | hs
  · simp
  · obtain ⟨h1, _⟩ := lns_straightE (hg.2.1 e he) d hd
    unfold sgE; rw [h1]; simp
  · unfold clL at hs
    split at hs
    · rw [List.mem_singleton] at hs; subst hs; simp
    · simp at hs
/-- A flat path: valid, without Bows, not too long. -/
theorem flatE_ok {l : List Sg} (h : mayB l = true) (h0 : (flatE l).2 = 0) : mayB (flatE l).1 = true ∧ (∀ s ∈ (flatE l).1, s.kind ≠ 3) ∧ (flatE l).1.length ≤ 300 := by
  by_cases hov : 300 < (flatL l).length
  · exfalso
    have hx : flatE l = ([], 5) := by simp [flatE, h, hov]
    rw [hx] at h0; simp at h0
  · have hx := flatE_all h (by omega)
    rw [hx]
    exact ⟨flatL_may h (by omega), flSt_nobow h, by show (flatL l).length ≤ 300; omega⟩
theorem cutL_len {on : List Int} {f : Int} {l : List Sg} (h : l.length ≤ 300) : (cutL on f l).1.length ≤ 300 := by
  unfold cutL
  split
  · exact h
  · split
    · simp
    · show (dashL on f l).length ≤ 300; omega
theorem dashedS_len {m : Mt} {da : List Int} {ph : Int} {l : List Sg} (h : l.length ≤ 300) : (dashedS m da ph l).1.length ≤ 300 := by
  unfold dashedS cutZ
  split
  · simp
  split
  · simp
  split
  · simp
  · exact cutL_len h
theorem flatE_len (l : List Sg) : (flatE l).1.length ≤ 300 := by
  unfold flatE
  split
  · simp
  · split
    · simp
    · show (flatL l).length ≤ 300; omega
end Go.Proofs.YtdfkbbcoolgfiaaGreat

namespace Go.Proofs.YtdfkbbcoolgfiaaGreat
open Go.RowKit Go.BigFrame

/-- A state's matrix is read. -/
theorem wpList_load_stm {P : Program} {ops : Array Oper} {rest : List Oper} {op : Oper} {a : Act} {w : World} {Q : Exit → Act → World → Prop} (hgd : op.guard = none) (t : TypeId) (x : Operand) (ho : op.op = .load t x) (g : Nat) (hx : a.eval x = .pointer (some ⟨g, 0, none⟩))
    (s : St) (Pv C D : Value) (hT : RecT P t 6) (h : BC w g (stC s Pv C D)) (hk : wpList P ops Q rest (a.put op.dst (.agg (mtC s.m).toArray)) w) : wpList P ops Q (op :: rest) a w := by
  obtain ⟨d, hu, hd, hi⟩ := hT
  refine wpList_load_mid hgd t x ho g 0 hx (mtC s.m) d (fun j v hv => ?_) hu hd (by rw [hi]; rfl) hk
  rw [Nat.zero_add]
  refine h.c j v ?_
  have hj : j < (mtC s.m).length := (List.getElem?_eq_some_iff.1 hv).1
  show (mtC s.m ++ _)[j]? = some v
  rw [List.getElem?_append_left hj]; exact hv
theorem mtv_is (m : Mt) : mtv m = .agg (mtC m).toArray := rfl
set_option maxRecDepth 100000 in
set_option maxHeartbeats 4000000 in
theorem stDashed_any (x : St) (P C D : Value) (A : Option Addr) (n c : Nat) (l L : List Sg) (er : Int) (m : Nat) (w : World) (h : StAt w x P C D) (hd11 : x.da.length ≤ 11) (hd0 : 1 ≤ x.da.length) (hl : Sl w 5 A n (sgs l)) (hok : mayB l = true) (hnb : ∀ s ∈ l, s.kind ≠ 3)
    (hR : dashedS x.m x.da x.ph l = (L, er)) (hm : L.length = m) :
    Calls Tryz.prog 30 #[.agg (stC x P C D).toArray, .slice A n c] w fun e w' => ∃ A' c', e = .returned (.tuple #[.slice A' m c', .int .i64 er]) ∧ w'.ownsRow w.heap.size 63 5 (.slice A' m c') m (sgs L) ∧ Below w.heap.size w w' := by
  obtain ⟨Ad, cd, rfl, hds, hdc, hdm⟩ := h.d
  obtain ⟨nd, hnd⟩ : ∃ n, n = x.da.length := ⟨_, rfl⟩
  rw [← hnd] at hds hdc h hd11 hd0 ⊢
  obtain ⟨w0, hw0⟩ : ∃ w0 : World, w0 = w.alloc (.cells (stC x P C (.slice Ad nd cd)).toArray 32) := ⟨_, rfl⟩
  have hB0 : Below w.heap.size w w0 := by rw [hw0]; exact bal (Below.refl _ _) _
  have hS : BC w0 w.heap.size (stC x P C (.slice Ad nd cd)) := by rw [hw0]; exact BC.new _ _ rfl
  have hds0 := hds.below hB0
  have hl0 := hl.below hB0
  obtain ⟨gS, hgS⟩ : ∃ g, g = w.heap.size := ⟨_, rfl⟩
  have E3 := Lib.hid hgS
  rw [← hgS] at hS
  have HND := Lib.hid hnd
  have HOK := Lib.hid hok
  have HNB := Lib.hid hnb
  have HR := Lib.hid hR
  have HM := Lib.hid hm
  have HW := Lib.hid fun z W => matWide_any x.m z _ W rfl
  simp only [mtv_is] at HW
  clear h hds hl hgS hnd hok hnb hR hm
  have a15 := hS.c 15 _ rfl
  go_enter Tryz.func30, Tryz.ntmps30
  go_upto_region 1 with (fail)
  rw [← hw0, ← E3.out]
  have hSZ := Lib.hid (hB0.size)
  clear hw0
  go_wp2
  clear a15
  go_loopw [6, 16] (fun on i wr => ∃ (k : Nat) (A' : Option Addr) (c' : Nat) (ws : List Int), k ≤ nd ∧ on = .slice A' k c' ∧ i = .int .i64 (k : Int) ∧ Below w0.heap.size w0 wr ∧ wr.ownsRow w0.heap.size 3 1 (.slice A' k c') k (ints ws) ∧
    Hid (ws = wsL x.m (x.da.take k) ∧ ∀ d ∈ x.da.take k, (wideM x.m d).2 = 0)) (fun _ i _ => nd - (intOf i).toNat)
  case atStart => exact ⟨0, none, 0, [], by omega, rfl, rfl, Below.refl _ _, own_nil, by simp [Hid, wsL]⟩
  case round =>
    obtain ⟨wo, rfl⟩ : ∃ wo : World, wo = wr := ⟨_, rfl⟩
    obtain ⟨k, A', c', ws, hk, rfl, rfl, hb, hown, hws⟩ := hrel
    have hSo := hS.below hb
    by_cases hlt : k < nd
    · have hkl : k < x.da.length := by rw [← HND.out]; exact hlt
      obtain ⟨b, off, rfl, hbl, c0⟩ := hds0.intAt k hlt hkl
      replace c0 := (later_cell hb hbl).trans c0
      obtain ⟨z, hz⟩ : ∃ z, z = x.da[k] := ⟨_, rfl⟩
      rw [← hz] at c0
      have HZ := Lib.hid hz
      obtain ⟨⟨v, e⟩, hve⟩ : ∃ R, wideM x.m z = R := ⟨_, rfl⟩
      have HWz := Lib.hid fun W => HW.out z W
      rw [hve] at HWz
      simp only at HWz
      have HVE := Lib.hid hve
      clear hz hve
      go_wp2_with (first
        | (refine wpList_load_stm rfl _ _ rfl gS rfl x _ _ _ matT hSo ?_)
        | fail)
      refine (HWz.out _).mono ?_; rintro e' w2 ⟨rfl, hb2⟩
      have B2 := btr hb hb2
      have hown2 := own_below hown hb2
      clear c0
      by_cases he : e = 0
      · subst he
        clear hSo HWz hown hb hb2 hk
        go_wp2_with (first
          | (at_builtin; refine wpList_app rfl _ _ 28 rfl w0.heap.size inT2 rfl (own_below hown2 (bal (Below.refl _ _) _)) (ints [v]) rfl (sl_newN _ (by simp) rfl) (oneCell_ints _) (by omega) (by have := B2.size; simp; omega) ?_; intro A5 c5 w5 hown5 hg5 hat5)
          | fail)
        go_roundw
        case rel => exact ⟨k + 1, A5, c5, ws ++ [v], by omega, rfl, by go_num, grown_below (bal B2 _) hg5 (own_below hown2 (bal (Below.refl _ _) _)), by rw [ints_app]; exact hown5, by
          have h1 : (wideM x.m x.da[k]).1 = v := by rw [← HZ.out, HVE.out]
          have h2 : (wideM x.m x.da[k]).2 = 0 := by rw [← HZ.out, HVE.out]
          exact ⟨by rw [wsL_take _ _ _ hkl, hws.out.1, h1], take_ok hkl hws.out.2 h2⟩⟩
        case measure => simp [intOf]; omega
      · have he' : (e != 0) = true := by simp [he]
        have he'' : (e == 0) = false := by simp [he]
        have hRR : L = [] ∧ er = e := by
          have h2 : (wideM x.m x.da[k]).2 = e := by rw [← HZ.out, HVE.out]
          have h3 := errW_at x.m x.da k hkl hws.out.2 (by rw [h2]; exact he)
          have h4 := HR.out
          unfold dashedS at h4
          rw [h3, h2, if_pos he] at h4
          obtain ⟨h5, h6⟩ := Prod.mk.inj h4
          exact ⟨h5.symm, h6.symm⟩
        have HRR := Lib.hid hRR
        clear he hRR hSo HWz hown hb hb2
        go_wp2_with fail
        go_ret2
        obtain ⟨rfl, rfl⟩ := HRR.out
        obtain rfl : 0 = m := HM.out
        exact ⟨none, 0, rfl, own_nil, btr hB0 B2⟩
    · obtain rfl : k = nd := by omega
      have a16 := hSo.c 16 _ rfl
      obtain ⟨⟨v, e⟩, hve⟩ : ∃ R, wideM x.m x.ph = R := ⟨_, rfl⟩
      have HWz := Lib.hid fun W => HW.out x.ph W
      have hv0 := wideM_bd x.m x.ph
      rw [hve] at HWz hv0
      simp only at HWz hv0
      have hdt : x.da.take k = x.da := List.take_of_length_le (by rw [← HND.out]; omega)
      rw [hdt] at hws
      have HR2 := Lib.hid (show (if e ≠ 0 then (([] : List Sg), e) else cutZ ws v l) = (L, er) by
        rw [← HR.out, hws.out.1]
        unfold dashedS
        rw [errW_none _ _ hws.out.2, hve]
        simp)
      have HLW := Lib.hid (show LensW ws by rw [hws.out.1]; exact wsL_ok _ (by rw [← HND.out]; omega))
      clear hve hdt hws
      go_wp2_with (first
        | (refine wpList_load_stm rfl _ _ rfl gS rfl x _ _ _ matT hSo ?_)
        | fail)
      refine (HWz.out _).mono ?_; rintro e' w2 ⟨rfl, hb2⟩
      have B2 := btr hb hb2
      have hown2 := own_below hown hb2
      have hl2 := hl0.below B2
      clear a16 hSo HWz hown hb hb2 hS
      by_cases he : e = 0
      · subst he
        have HR3 := Lib.hid (show cutZ ws v l = (L, er) by have := HR2.out; simpa using this)
        clear HR2
        go_wp2_with fail
        refine (cutZ_any A A' n c k c' l ws v L er m _ hl2 HOK.out HNB.out (own_sl hown2) hd0 HLW.out (by omega) HR3.out HM.out).mono ?_; rintro e' w3 ⟨A3, c3, rfl, hown3, hb3⟩
        have B3 := btr B2 hb3
        clear hb3 hl2 hown2 HLW HR3
        go_wp2_with fail
        go_ret2
        exact ⟨A3, c3, rfl, own_mono hown3 (by have := hSZ.out; have := B2.size; omega), btr hB0 B3⟩
      · have he' : (e != 0) = true := by simp [he]
        have he'' : (e == 0) = false := by simp [he]
        have HRR := Lib.hid (show L = [] ∧ er = e by
          have h4 := HR2.out
          rw [if_pos he] at h4
          obtain ⟨h5, h6⟩ := Prod.mk.inj h4
          exact ⟨h5.symm, h6.symm⟩)
        clear he HR2
        go_wp2_with fail
        go_ret2
        obtain ⟨rfl, rfl⟩ := HRR.out
        obtain rfl : 0 = m := HM.out
        exact ⟨none, 0, rfl, own_nil, btr hB0 B2⟩
end Go.Proofs.YtdfkbbcoolgfiaaGreat
