/- font: Path. -/
import Derived.Test.YtdfkbbcoolgfiaaGreatFont6
namespace Go.Proofs.YtdfkbbcoolgfiaaGreat
open Go.RowKit Go.Maps Go.BigFrame

end Go.Proofs.YtdfkbbcoolgfiaaGreat

namespace Go.Proofs.YtdfkbbcoolgfiaaGreat
open Go.RowKit Go.Maps Go.BigFrame

theorem results_tmp4 {fn : Func} {t u v x : Tmp} (h : fn.results = #[.tmp t, .tmp u, .tmp v, .tmp x]) (tmps : Array Value) (P : Program) (w : World) :
    (results fn tmps).run P w = .ok (.tuple #[tmps.getD t undef, tmps.getD u undef, tmps.getD v undef, tmps.getD x undef]) w := by
  simp [results, h]
theorem bl_dropF {T : ByteArray} {a : Nat} (h : a < T.size) : (bl T).drop a = byt T a :: (bl T).drop (a + 1) := by
  have h1 : a < (bl T).length := by unfold bl; rw [List.length_map, Array.length_toList]; exact h
  rw [List.drop_eq_getElem_cons h1]
  unfold byt
  rw [List.getElem?_eq_getElem h1]; rfl
theorem nearP_bdF (x y k : Int) (hk : 0 ≤ k) : -k ≤ (nearP x y k).1 ∧ (nearP x y k).1 ≤ k ∧ -k ≤ (nearP x y k).2.1 ∧ (nearP x y k).2.1 ≤ k := by
  unfold nearP
  split
  · refine ⟨?_, ?_, ?_, ?_⟩ <;> simp only <;> omega
  · refine ⟨?_, ?_, ?_, ?_⟩ <;> simp only <;> omega
theorem aim_bd (m : Mt) (u v : Int) : -1073741823 ≤ (aimM m u v).1 ∧ (aimM m u v).1 ≤ 1073741823 ∧ -1073741823 ≤ (aimM m u v).2.1 ∧ (aimM m u v).2.1 ≤ 1073741823 := by
  unfold aimM
  split
  · exact nearP_bdF _ _ _ (by omega)
  · refine ⟨?_, ?_, ?_, ?_⟩ <;> simp only <;> omega
theorem kern_bd {F : Fo} (h : openB F = true) (a b : Nat) : -8191 ≤ kernF F a b ∧ kernF F a b ≤ 8191 := by
  rw [openB_eq] at h
  simp only [Bool.and_eq_true] at h
  have h1 := h.1.2
  rw [List.all_eq_true] at h1
  unfold kernF
  split
  · omega
  · cases hf : F.kern.find? fun k => decide (k.a = nameF F a) && decide (k.b = nameF F b) with
    | none => simp
    | some k =>
      have := h1 k (List.mem_of_find?_eq_some hf)
      simp only [kernOK, Bool.and_eq_true, decide_eq_true_eq] at this
      simpa using this
theorem outS_cons {F : Fo} {m : Mt} {l : List Sg} {x y : Int} {c : Nat} {s : List Nat} {L Pl J : List Sg} {wd er pe je dx dy ae z : Int} (hr : runF F c = ((L, wd), er)) (hp : placeF F m x y L = (Pl, pe)) (hj : joinL l Pl = (J, je))
    (hz : wd + (match s with | [] => 0 | d :: _ => kernF F c d) = z) (ha : aimM F.m (z * 65536) 0 = (dx, dy, ae)) :
    outS F m l x y (c :: s) = if er ≠ 0 then (([], 0, 0), er) else if pe ≠ 0 then (([], 0, 0), pe) else if je ≠ 0 then (([], 0, 0), je) else if ae ≠ 0 then (([], 0, 0), ae)
      else if (fixB (x + dx) && fixB (y + dy)) = false then (([], 0, 0), 2) else outS F m J (x + dx) (y + dy) s := by
  have h1 : stepF F c s = z := by unfold stepF; rw [hr]; exact hz
  rw [outS, h1]
  simp only [hr, hp, hj, ha]
theorem plL_len (M : Mt) : ∀ (l O : List Sg), (plL M O l).1.length ≤ O.length + l.length
  | [], O => by simp [plL]
  | s :: l, O => by
    unfold plL
    split
    · simp
    · have := plL_len M l (O ++ [(plS M s).1])
      simp only [List.length_append, List.length_cons, List.length_nil] at this ⊢
      omega
theorem placeF_len (F : Fo) (m : Mt) (x y : Int) (l : List Sg) : (placeF F m x y l).1.length ≤ l.length := by
  unfold placeF
  split
  · simp
  · split
    · simp
    · have := plL_len (mulB F.m (mulB (moveM x y) m).1).1 l []
      simpa using this
theorem joinL_len (l k : List Sg) : (joinL l k).1.length ≤ 300 := by
  unfold joinL
  split
  · simp
  · exact longL_len _ _
theorem may_len {l : List Sg} (h : mayB l = true) : l.length ≤ 300 := by simp only [mayB, Bool.and_eq_true, decide_eq_true_eq] at h; exact h.1
/-- A row, if it holds anything, lies behind base. -/
def FreshA (base : Nat) (A : Option Addr) (n : Nat) : Prop := 0 < n → ∃ b off : Nat, A = some ⟨b, off, none⟩ ∧ base ≤ b
theorem fresh_own {w : World} {base base' : Nat} {e : TypeId} {s n c : Nat} {A : Option Addr} {xs : List Value} (h : w.ownsRow base e s (.slice A n c) n xs) (hb : base' ≤ base) : FreshA base' A n := fun h0 => by
  obtain ⟨b, off, rfl, _⟩ := (own_sl h).2 h0
  exact ⟨b, off, rfl, Nat.le_trans hb (h.lt b rfl).1⟩
theorem own_capm {w : World} {base : Nat} {e : TypeId} {s n c : Nat} {A : Option Addr} {xs : List Value} (h : w.ownsRow base e s (.slice A n c) n xs) : c ≤ 9223372036854775807 := by
  rcases h.2 with ⟨hv, h0⟩ | ⟨g, cap, cur, hv, _, hg, hn, hm, _, _⟩
  · simp only [Value.slice.injEq] at hv; omega
  · simp only [Value.slice.injEq] at hv
    obtain ⟨_, _, rfl⟩ := hv
    simpa [maxLen] using hm
/-- What Outline answers. -/
def OutAns (w : World) (R : (List Sg × Int × Int) × Int) (e : Ending) (w' : World) : Prop := Below w.heap.size w w' ∧ ∃ A' c', e = .returned (.tuple #[.slice A' R.1.1.length c', .int .i64 R.1.2.1, .int .i64 R.1.2.2, .int .i64 R.2]) ∧
      Sl w' 5 A' R.1.1.length (sgs R.1.1) ∧ R.1.1.length ≤ c' ∧ FreshA w.heap.size A' R.1.1.length ∧ c' ≤ 9223372036854775807
set_option maxRecDepth 100000 in
set_option maxHeartbeats 8000000 in
theorem outline_core (F : Fo) (C : List Value) (m : Mt) (x y : Int) (s : ByteArray) (R : (List Sg × Int × Int) × Int) (w : World) (hsz : s.size ≤ 1000000) (h : FoAt w F C) (hR : outF F m x y (bl s) = R) :
    Calls Tryz.prog 49 #[.agg C.toArray, mtv m, .int .i64 x, .int .i64 y, .string s] w fun e w' => OutAns w R e w' := by
  have HO := Lib.hid fun W (hb : Below w.heap.size w W) => open_any F C W (h.below hb)
  have HU := Lib.hid fun b c W (hc : c < 256) (hb : Below w.heap.size w W) (hk : BookAt W b F.lets) (ho : bookB F.lets = true) => fontRun_any F C b c W hc (h.below hb) hk ho
  have HK := Lib.hid fun a b W (ha : a < 256) (hb : b < 256) (hq : Below w.heap.size w W) => kern_any F C a b W ha hb (h.below hq)
  have HPl := Lib.hid fun x y D n cc l R' W (hb : Below w.heap.size w W) (hx : fixB x = true) (hy : fixB y = true) => fplace_any F C m x y D n cc l R' W (h.below hb) hx hy
  have HMy := Lib.hid fun W => matMay_any m W
  have HX := Lib.hid fun W => fontFix_any x W
  have HY := Lib.hid fun W => fontFix_any y W
  have HAi := Lib.hid fun u v W => matAim_any F.m u v W
  obtain ⟨ok, A, B, E, ca, cb, ce, rfl, h1, h2, h3⟩ := h
  rw [vm m]
  obtain ⟨w0, hw0⟩ : ∃ w0 : World, w0 = (w.alloc (.cells (foC F.m (.slice A F.names.length ca) (.slice B F.lets.length cb) (.slice E F.kern.length ce)).toArray 56)).alloc (.cells (mtC m).toArray 23) := ⟨_, rfl⟩
  have hB0 : Below w.heap.size w w0 := by rw [hw0]; exact bal (bal (Below.refl _ _) _) _
  have hA : BC w0 w.heap.size (foC F.m (.slice A F.names.length ca) (.slice B F.lets.length cb) (.slice E F.kern.length ce)) := by rw [hw0]; exact (BC.new _ 56 rfl).below (bal (Below.refl _ _) _)
  have hM : BC w0 (w.heap.size + 1) (mtC m) := by rw [hw0]; exact BC.new (w := w.alloc _) (mtC m) 23 (by simp)
  have HR := Lib.hid hR
  have HR2 : Hid (R = if (openB F && mtB m && fixB x && fixB y) then outS F m [] x y (bl s) else (([], 0, 0), 1)) := Lib.hid (by rw [← HR.out]; rfl)
  simp only [vm] at HMy HPl HAi
  have hss : IntKind.i64.wrap (s.size : Int) = s.size := IntWalk.i64_in _ (by omega)
  obtain ⟨n, hn⟩ : ∃ n, s.size = n := ⟨_, rfl⟩
  have HNS := Lib.hid hn
  clear hR HR h1 h2 h3 ok hn
  go_enter Tryz.func49, Tryz.ntmps49
  go_upto_region 1 with (fail)
  rw [← hw0]
  clear hw0
  go_wp2_with (first
    | (refine wpList_load_rec rfl _ _ rfl w.heap.size rfl _ 9 foT hA rfl ?_)
    | fail)
  refine (HO.out _ hB0).mono ?_; rintro e w1 ⟨hb1, hcs⟩
  have B1 := btr hB0 hb1
  have hA1 := hA.below hb1
  have hM1 := hM.below hb1
  clear hA hM hb1 HO hB0
  rcases hcs with ⟨hf, rfl⟩ | ⟨hf, b, rfl, -, hbk⟩
  · have HE := Lib.hid (show R = (([], 0, 0), 1) by rw [HR2.out, hf]; rfl)
    clear HR2 hf
    go_wp2
    (try simp only [Exit.inBlock, Exit.then])
    refine bodyPost_ret (results_tmp4 rfl _ _ _) rfl ?_
    unfold OutAns
    rw [HE.out]
    exact ⟨B1, none, 0, rfl, Sl.nil_, Nat.le_refl _, fun h => absurd h (Nat.lt_irrefl _), Nat.zero_le _⟩
  have hbo : bookB F.lets = true := by rw [openB_eq] at hf; simp only [Bool.and_eq_true] at hf; exact hf.2
  have HKB := Lib.hid (kern_bd hf)
  rw [hf, Bool.true_and] at HR2
  clear hf
  go_wp2_with (first
    | (refine wpList_load_rec_g2 (by kernel_rfl) _ _ rfl (w.heap.size + 1) rfl _ 6 matT2 hM1 rfl ?_)
    | fail)
  refine (HMy.out _).mono ?_; rintro e w2 ⟨rfl, b2⟩
  have B2 := btr B1 b2
  have hA2 := hA1.below b2
  have hM2 := hM1.below b2
  have hbk2 := hbk.below b2
  clear hA1 hM1 b2 hbk B1
  cases hm : mtB m
  · have HE := Lib.hid (show R = (([], 0, 0), 1) by rw [HR2.out, hm]; rfl)
    clear HR2 hm
    go_wp2
    (try simp only [Exit.inBlock, Exit.then])
    refine bodyPost_ret (results_tmp4 rfl _ _ _) rfl ?_
    unfold OutAns
    rw [HE.out]
    exact ⟨B2, none, 0, rfl, Sl.nil_, Nat.le_refl _, fun h => absurd h (Nat.lt_irrefl _), Nat.zero_le _⟩
  rw [hm, Bool.true_and] at HR2
  clear hm
  go_wp2_with fail
  refine (HX.out _).mono ?_; rintro e w' ⟨rfl, rfl⟩
  cases hfx : fixB x
  · have HE := Lib.hid (show R = (([], 0, 0), 1) by rw [HR2.out, hfx]; rfl)
    clear HR2 hfx
    go_wp2
    (try simp only [Exit.inBlock, Exit.then])
    refine bodyPost_ret (results_tmp4 rfl _ _ _) rfl ?_
    unfold OutAns
    rw [HE.out]
    exact ⟨B2, none, 0, rfl, Sl.nil_, Nat.le_refl _, fun h => absurd h (Nat.lt_irrefl _), Nat.zero_le _⟩
  rw [hfx, Bool.true_and] at HR2
  go_wp2_with fail
  refine (HY.out _).mono ?_; rintro e w' ⟨rfl, rfl⟩
  cases hfy : fixB y
  · have HE := Lib.hid (show R = (([], 0, 0), 1) by rw [HR2.out, hfy]; rfl)
    clear HR2 hfy hfx
    go_wp2
    (try simp only [Exit.inBlock, Exit.then])
    refine bodyPost_ret (results_tmp4 rfl _ _ _) rfl ?_
    unfold OutAns
    rw [HE.out]
    exact ⟨B2, none, 0, rfl, Sl.nil_, Nat.le_refl _, fun h => absurd h (Nat.lt_irrefl _), Nat.zero_le _⟩
  rw [hfy, if_pos rfl] at HR2
  have HFX := Lib.hid hfx
  have HFY := Lib.hid hfy
  clear hfx hfy HX HY HMy
  go_wp2_with fail
  go_loopw [2, 3, 10, 46] (fun xv yv lv i wr => ∃ k A' c' Lk xk yk n', k ≤ n ∧ xv = .int .i64 xk ∧ yv = .int .i64 yk ∧ lv = .slice A' n' c' ∧ i = .int .i64 (k : Int) ∧ Below w2.heap.size w2 wr ∧
    Hid (R = outS F m Lk xk yk ((bl s).drop k)) ∧ Sl wr 5 A' n' (sgs Lk) ∧ n' ≤ c' ∧ n' ≤ 300 ∧ Hid (fixB xk = true) ∧ Hid (fixB yk = true) ∧ FreshA w.heap.size A' n' ∧ c' ≤ 9223372036854775807) (fun _ _ _ i _ => n - (intOf i).toNat)
  case atStart => exact ⟨0, none, 0, [], x, y, 0, by omega, rfl, rfl, rfl, rfl, Below.refl _ _, Lib.hid (by rw [HR2.out]; rfl), Sl.nil_, Nat.le_refl _, by omega, HFX, HFY, fun h => absurd h (Nat.lt_irrefl _), Nat.zero_le _⟩
  case round =>
    obtain ⟨wo, rfl⟩ : ∃ wo : World, wo = wr := ⟨_, rfl⟩
    obtain ⟨k, A1, c1, Lk, xk, yk, n1, hk, rfl, rfl, rfl, rfl, hbr, hal, hs1, hnc1, hn1, hfx, hfy, hfr1, hcx1⟩ := hrel
    by_cases hlt : k < n
    · have hks : k < s.size := by rw [HNS.out]; exact hlt
      have hdrop := bl_dropF hks
      have hby := fun W => run_byt (t := 9) (i := (k : Int)) rfl Tryz.underlying9 hks W
      have hcb := byt_lt s k
      obtain ⟨c, hc⟩ : ∃ c, byt s k = c := ⟨_, rfl⟩
      rw [hc] at hdrop hby hcb
      have hcc := Lib.hid hc
      have hal2 := Lib.hid (hal.out.trans (by rw [hdrop]))
      have HAo := Lib.hid fun (W : World) (hW : ∃ y : Grown wo, W = y.world) => (show BC W w.heap.size _ by obtain ⟨y, rfl⟩ := hW; exact hA2.below (btr hbr y.below))
      clear hdrop hc hal
      go_upto_region 7 with (fail)
      refine wp_region_ord (fun W => ∃ y : Grown wo, W = y.world) [] 13 (by kernel_rfl) (by kernel_rfl) ⟨⟨_, bdrew (Below.refl _ _)⟩, rfl⟩ ?_
      intro hS
      refine ord_take 0 rfl rfl (by kernel_rfl) (by kernel_rfl) (fun _ _ _ h => h) (yieldsIf_rec (by rfl) _ _ rfl _ rfl _ 9 foT HAo.out rfl) hS ?_
      simp only [Act.put, List.setIfInBounds_toArray, List.set_cons_zero, List.set_cons_succ]
      refine ord_take (v := ?_) 1 rfl rfl (by kernel_rfl) (by kernel_rfl) (fun _ _ _ h => h) (Or.inl ⟨by rfl, ?_⟩) hS ?_
      rotate_left
      · rintro W ⟨y, rfl⟩
        go_simp
        (try with_reducible rfl)
      simp only [Act.put, List.setIfInBounds_toArray, List.set_cons_zero, List.set_cons_succ]
      refine ord_take (v := ?_) 2 rfl rfl (by kernel_rfl) (by kernel_rfl) (fun _ _ _ h => h) (Or.inl ⟨by rfl, ?_⟩) hS ?_
      rotate_left
      · rintro W ⟨y, rfl⟩
        go_simp
        (try with_reducible rfl)
      simp only [Act.put, List.setIfInBounds_toArray, List.set_cons_zero, List.set_cons_succ]
      refine ord_take (v := ?_) 3 rfl rfl (by kernel_rfl) (by kernel_rfl) (fun _ _ _ h => h) (Or.inl ⟨by rfl, ?_⟩) hS ?_
      rotate_left
      · rintro W ⟨y, rfl⟩
        go_simp
        (try with_reducible rfl)
      simp only [Act.put, List.setIfInBounds_toArray, List.set_cons_zero, List.set_cons_succ]
      refine ord_take (v := ?_) 4 rfl rfl (by kernel_rfl) (by kernel_rfl) (fun _ _ _ h => h) (Or.inl ⟨by rfl, ?_⟩) hS ?_
      rotate_left
      · rintro W ⟨y, rfl⟩
        go_simp
        (try with_reducible rfl)
      simp only [Act.put, List.setIfInBounds_toArray, List.set_cons_zero, List.set_cons_succ]
      have HG := Lib.hid (fun (W : World) (hW : Below wo.heap.size wo W) => (⟨⟨W, hW⟩, rfl⟩ : ∃ y : Grown wo, W = y.world))
      clear hS
      obtain ⟨⟨⟨L, wd⟩, er⟩, hG⟩ : ∃ G, runF F c = G := ⟨_, rfl⟩
      have HGR := Lib.hid hG
      have HU1 := Lib.hid (HU.out b c _ hcb (btr B2 (btr hbr (bdrew (Below.refl _ _)))) (hbk2.below (btr hbr (bdrew (Below.refl _ _)))) hbo)
      rw [hG] at HU1
      simp only at HU1
      obtain ⟨nl, hnl⟩ : ∃ n, n = L.length := ⟨_, rfl⟩
      rw [← hnl] at HU1
      clear hG hnl
      refine ord_one 5 rfl (by kernel_rfl) rfl ?_
      intro K hK
      go_simp
      refine HU1.out.mono ?_; rintro e w3 ⟨b3, A3, c3, rfl, hs3, hm3, hwd, hnc3⟩
      have Q3 := btr (bdrew (Below.refl wo.heap.size wo)) b3
      refine hK.out _ _ (HG.out _ Q3) ?_
      clear hK K b3 HU1
      try simp only
      have hS := HG.out _ Q3
      refine ord_take (v := ?_) 6 rfl rfl (by kernel_rfl) (by kernel_rfl) (fun _ _ _ h => h) (Or.inl ⟨by rfl, ?_⟩) hS ?_
      rotate_left
      · rintro W ⟨y, rfl⟩
        go_simp
        (try with_reducible rfl)
      simp only [Act.put, List.setIfInBounds_toArray, List.set_cons_zero, List.set_cons_succ]
      refine ord_take (v := ?_) 7 rfl rfl (by kernel_rfl) (by kernel_rfl) (fun _ _ _ h => h) (Or.inl ⟨by rfl, ?_⟩) hS ?_
      rotate_left
      · rintro W ⟨y, rfl⟩
        go_simp
        (try with_reducible rfl)
      simp only [Act.put, List.setIfInBounds_toArray, List.set_cons_zero, List.set_cons_succ]
      refine ord_take (v := ?_) 8 rfl rfl (by kernel_rfl) (by kernel_rfl) (fun _ _ _ h => h) (Or.inl ⟨by rfl, ?_⟩) hS ?_
      rotate_left
      · rintro W ⟨y, rfl⟩
        go_simp
        (try with_reducible rfl)
      simp only [Act.put, List.setIfInBounds_toArray, List.set_cons_zero, List.set_cons_succ]
      refine ord_take (v := ?_) 9 rfl rfl (by kernel_rfl) (by kernel_rfl) (fun _ _ _ h => h) (Or.inl ⟨by rfl, ?_⟩) hS ?_
      rotate_left
      · rintro W ⟨y, rfl⟩
        go_simp
        (try with_reducible rfl)
      simp only [Act.put, List.setIfInBounds_toArray, List.set_cons_zero, List.set_cons_succ]
      refine ord_take (v := ?_) 10 rfl rfl (by kernel_rfl) (by kernel_rfl) (fun _ _ _ h => h) (Or.inl ⟨by rfl, ?_⟩) hS ?_
      rotate_left
      · rintro W ⟨y, rfl⟩
        go_simp
        (try with_reducible rfl)
      simp only [Act.put, List.setIfInBounds_toArray, List.set_cons_zero, List.set_cons_succ]
      refine ord_take (v := ?_) 11 rfl rfl (by kernel_rfl) (by kernel_rfl) (fun _ _ _ h => h) (Or.inl ⟨by rfl, ?_⟩) hS ?_
      rotate_left
      · rintro W ⟨y, rfl⟩
        go_simp
        (try with_reducible rfl)
      simp only [Act.put, List.setIfInBounds_toArray, List.set_cons_zero, List.set_cons_succ]
      refine ord_take (v := ?_) 12 rfl rfl (by kernel_rfl) (by kernel_rfl) (fun _ _ _ h => h) (Or.inl ⟨by rfl, ?_⟩) hS ?_
      rotate_left
      · rintro W ⟨y, rfl⟩
        go_simp
        (try with_reducible rfl)
      simp only [Act.put, List.setIfInBounds_toArray, List.set_cons_zero, List.set_cons_succ]
      clear hS HG HAo hby
      refine ⟨by kernel_rfl, ?_⟩
      refine NoPanic.normal ?_
      have B3 := btr B2 (btr hbr Q3)
      have hA3 := hA2.below (btr hbr Q3)
      have hM3 := hM2.below (btr hbr Q3)
      obtain ⟨z, hz⟩ : ∃ z, wd + (match (bl s).drop (k + 1) with | [] => 0 | d :: _ => kernF F c d) = z := ⟨_, rfl⟩
      obtain ⟨⟨dx, dy, ae⟩, ha⟩ : ∃ p, aimM F.m (z * 65536) 0 = p := ⟨_, rfl⟩
      obtain ⟨⟨Pl, pe⟩, hP⟩ : ∃ p, placeF F m xk yk L = p := ⟨_, rfl⟩
      obtain ⟨⟨J, je⟩, hJ⟩ : ∃ p, joinL Lk Pl = p := ⟨_, rfl⟩
      have HC := Lib.hid (hal2.out.trans (outS_cons HGR.out hP hJ hz ha))
      have hL3 := may_len hm3
      have hPl : Pl.length ≤ 300 := by have := placeF_len F m xk yk L; rw [hP] at this; exact Nat.le_trans this hL3
      have hJl : J.length ≤ 300 := by have := joinL_len Lk Pl; rw [hJ] at this; exact this
      have HZ := Lib.hid hz
      have HA := Lib.hid ha
      have hzb : -16382 ≤ z ∧ z ≤ 16382 := by
        have h0 := HKB.out c
        rw [← hz]
        split
        · omega
        · rename_i d _ _
          have := h0 d; omega
      have HPC := Lib.hid (HPl.out xk yk A3 nl c3 L (Pl, pe) w3 B3 hfx.out hfy.out hs3 hm3 hP)
      simp only at HPC
      obtain ⟨np, hnp⟩ : ∃ n, n = Pl.length := ⟨_, rfl⟩
      obtain ⟨nj, hnj⟩ : ∃ n, n = J.length := ⟨_, rfl⟩
      have HJC := Lib.hid fun W A4 c4 (hb : Below w3.heap.size w3 W) (h4 : Sl W 5 A4 np (sgs Pl)) => Join_any A1 A4 n1 c1 np c4 Lk Pl (J, je) W (by omega) (by rw [hnp]; omega) hnc1 ((hs1.below Q3).below hb) h4 hJ
      simp only at HJC
      rw [← hnj] at HJC hJl
      rw [← hnp] at HPC hPl
      clear hz ha hP hJ hal2 hs3 hm3 hL3 hnp hnj HGR
      by_cases he : er = 0
      · rw [if_neg (by simpa using he)] at HC
        have he' : (er != 0) = false := by simp [he]
        clear he
        go_wp2_with (first
          | (refine wpList_load_rec rfl _ _ rfl w.heap.size rfl _ 9 foT hA3 rfl ?_)
          | (refine wpList_load_rec rfl _ _ rfl (w.heap.size + 1) rfl _ 6 matT2 hM3 rfl ?_)
          | fail)
        refine HPC.out.mono ?_; rintro e w4 ⟨b4, A4, c4, rfl, ho4⟩
        have HJ2 := Lib.hid (HJC.out w4 A4 c4 b4 (own_sl ho4))
        have B4 := btr B3 b4
        have Q4 := btr Q3 b4
        clear HPC HJC ho4
        by_cases hpe : pe = 0
        · rw [if_neg (by simpa using hpe)] at HC
          have hpe' : (pe != 0) = false := by simp [hpe]
          clear hpe
          go_wp2_with fail
          refine HJ2.out.mono ?_; rintro e w5 ⟨A5, c5, rfl, ho5, b5⟩
          have B5 := btr B4 b5
          have Q5 := btr Q4 b5
          have hA5 := (hA3.below b4).below b5
          have hs5 := own_sl ho5
          have hnc5 := own_cap ho5
          have hcx5 := own_capm ho5
          have hfr5 := fresh_own ho5 B4.size
          clear HJ2 ho5 b5 hA3 hM3 b4 B4
          by_cases hje : je = 0
          · rw [if_neg (by simpa using hje)] at HC
            have hje' : (je != 0) = false := by simp [hje]
            clear hje
            have hkw : IntKind.i64.wrap ((k : Int) + 1) = (k : Int) + 1 := IntWalk.i64_in _ (by omega)
            by_cases hk1 : k + 1 < n
            · have hk1' : decide ((k : Int) + 1 < (s.size : Int)) = true := decide_eq_true (by rw [HNS.out]; omega)
              have hks1 : k + 1 < s.size := by rw [HNS.out]; exact hk1
              have hby1 := fun W => run_byt (t := 9) (i := (k : Int)) rfl Tryz.underlying9 hks W
              have hby2 := fun W => run_byt (t := 9) (i := (k : Int) + 1) (k := k + 1) (by omega) Tryz.underlying9 hks1 W
              have hcb2 := byt_lt s (k + 1)
              have hz1 := HZ.out
              rw [bl_dropF hks1] at hz1
              rw [hcc.out] at hby1
              obtain ⟨d, hd⟩ : ∃ d, byt s (k + 1) = d := ⟨_, rfl⟩
              rw [hd] at hz1 hby2 hcb2
              simp only at hz1
              obtain ⟨kv, hkv⟩ : ∃ v, kernF F c d = v := ⟨_, rfl⟩
              have hkb := HKB.out c d
              have HK1 := Lib.hid fun W (hb : Below w.heap.size w W) => HK.out c d W hcb hcb2 hb
              rw [hkv] at hz1 HK1 hkb
              have hadd : IntKind.i64.wrap (wd + kv) = wd + kv := IntWalk.i64_in _ (by omega)
              have HZ1 := Lib.hid hz1
              have HA5o := Lib.hid fun (W : World) (hW : ∃ y : Grown w5, W = y.world) => (show BC W w.heap.size _ by obtain ⟨y, rfl⟩ := hW; exact hA5.below y.below)
              clear hd hkv hz1 hk1
              go_upto_region 17 with (fail)
              refine wp_region_ord (fun W => ∃ y : Grown w5, W = y.world) [] 12 (by kernel_rfl) (by kernel_rfl) ⟨⟨_, bdrew (Below.refl _ _)⟩, rfl⟩ ?_
              intro hS
              refine ord_take (v := ?_) 0 rfl rfl (by kernel_rfl) (by kernel_rfl) (fun _ _ _ h => h) (Or.inl ⟨by rfl, ?_⟩) hS ?_
              rotate_left
              · rintro W ⟨y, rfl⟩
                go_simp
                (try with_reducible rfl)
              simp only [Act.put, List.setIfInBounds_toArray, List.set_cons_zero, List.set_cons_succ]
              refine ord_take 1 rfl rfl (by kernel_rfl) (by kernel_rfl) (fun _ _ _ h => h) (yieldsIf_rec (by rfl) _ _ rfl _ rfl _ 9 foT HA5o.out rfl) hS ?_
              simp only [Act.put, List.setIfInBounds_toArray, List.set_cons_zero, List.set_cons_succ]
              refine ord_take (v := ?_) 2 rfl rfl (by kernel_rfl) (by kernel_rfl) (fun _ _ _ h => h) (Or.inl ⟨by rfl, ?_⟩) hS ?_
              rotate_left
              · rintro W ⟨y, rfl⟩
                go_simp
                (try with_reducible rfl)
              simp only [Act.put, List.setIfInBounds_toArray, List.set_cons_zero, List.set_cons_succ]
              refine ord_take (v := ?_) 3 rfl rfl (by kernel_rfl) (by kernel_rfl) (fun _ _ _ h => h) (Or.inl ⟨by rfl, ?_⟩) hS ?_
              rotate_left
              · rintro W ⟨y, rfl⟩
                go_simp
                (try with_reducible rfl)
              simp only [Act.put, List.setIfInBounds_toArray, List.set_cons_zero, List.set_cons_succ]
              refine ord_take (v := ?_) 4 rfl rfl (by kernel_rfl) (by kernel_rfl) (fun _ _ _ h => h) (Or.inl ⟨by rfl, ?_⟩) hS ?_
              rotate_left
              · rintro W ⟨y, rfl⟩
                go_simp
                (try with_reducible rfl)
              simp only [Act.put, List.setIfInBounds_toArray, List.set_cons_zero, List.set_cons_succ]
              refine ord_take (v := ?_) 5 rfl rfl (by kernel_rfl) (by kernel_rfl) (fun _ _ _ h => h) (Or.inl ⟨by rfl, ?_⟩) hS ?_
              rotate_left
              · rintro W ⟨y, rfl⟩
                go_simp
                (try with_reducible rfl)
              simp only [Act.put, List.setIfInBounds_toArray, List.set_cons_zero, List.set_cons_succ]
              refine ord_take (v := ?_) 6 rfl rfl (by kernel_rfl) (by kernel_rfl) (fun _ _ _ h => h) (Or.inl ⟨by rfl, ?_⟩) hS ?_
              rotate_left
              · rintro W ⟨y, rfl⟩
                go_simp
                (try with_reducible rfl)
              simp only [Act.put, List.setIfInBounds_toArray, List.set_cons_zero, List.set_cons_succ]
              refine ord_take (v := ?_) 7 rfl rfl (by kernel_rfl) (by kernel_rfl) (fun _ _ _ h => h) (Or.inl ⟨by rfl, ?_⟩) hS ?_
              rotate_left
              · rintro W ⟨y, rfl⟩
                go_simp
                (try with_reducible rfl)
              simp only [Act.put, List.setIfInBounds_toArray, List.set_cons_zero, List.set_cons_succ]
              refine ord_take (v := ?_) 8 rfl rfl (by kernel_rfl) (by kernel_rfl) (fun _ _ _ h => h) (Or.inl ⟨by rfl, ?_⟩) hS ?_
              rotate_left
              · rintro W ⟨y, rfl⟩
                go_simp
                (try with_reducible rfl)
              simp only [Act.put, List.setIfInBounds_toArray, List.set_cons_zero, List.set_cons_succ]
              have HG := Lib.hid (fun (W : World) (hW : Below w5.heap.size w5 W) => (⟨⟨W, hW⟩, rfl⟩ : ∃ y : Grown w5, W = y.world))
              clear hS
              refine ord_one 9 rfl (by kernel_rfl) rfl ?_
              intro K hK
              go_simp
              refine (HK1.out _ (btr B5 (bdrew (Below.refl _ _)))).mono ?_; rintro e w7 ⟨rfl, b7⟩
              have R7 := btr (bdrew (Below.refl w5.heap.size w5)) b7
              refine hK.out _ _ (HG.out _ R7) ?_
              clear hK K b7
              try simp only
              have hS := HG.out _ R7
              refine ord_take (v := ?_) 10 rfl rfl (by kernel_rfl) (by kernel_rfl) (fun _ _ _ h => h) (Or.inl ⟨by rfl, ?_⟩) hS ?_
              rotate_left
              · rintro W ⟨y, rfl⟩
                go_simp
                (try with_reducible rfl)
              simp only [Act.put, List.setIfInBounds_toArray, List.set_cons_zero, List.set_cons_succ]
              refine ord_take (v := ?_) 11 rfl rfl (by kernel_rfl) (by kernel_rfl) (fun _ _ _ h => h) (Or.inl ⟨by rfl, ?_⟩) hS ?_
              rotate_left
              · rintro W ⟨y, rfl⟩
                go_simp
                (try with_reducible rfl)
              simp only [Act.put, List.setIfInBounds_toArray, List.set_cons_zero, List.set_cons_succ]
              clear hS HG HA5o hby1 hby2
              refine ⟨by kernel_rfl, ?_⟩
              refine NoPanic.normal ?_
              have hzz := HZ1.out
              subst hzz
              have hA7 := hA5.below R7
              have hs7 := hs5.below R7
              have Q7 := btr Q5 R7
              have B7 := btr B5 R7
              have hzw : IntKind.i64.wrap ((wd + kv) * 65536) = (wd + kv) * 65536 := IntWalk.i64_in _ (by omega)
              have HA1 := Lib.hid fun W => HAi.out ((wd + kv) * 65536) 0 W
              rw [HA.out] at HA1
              unfold vP at HA1
              simp only at HA1
              have hab := aim_bd F.m ((wd + kv) * 65536) 0
              rw [HA.out] at hab
              simp only at hab
              go_wp2_with (first
                | (refine wpList_load_foM rfl _ _ rfl w.heap.size rfl F.m _ _ _ matT2 hA7 ?_)
                | fail)
              refine (HA1.out _).mono ?_; rintro e w6 ⟨rfl, b6⟩
              have B6 := btr B7 b6
              have Q6 := btr Q7 b6
              have hs6 := hs7.below b6
              clear HA1 HA hzw
              by_cases hae : ae = 0
              · rw [if_neg (by simpa using hae)] at HC
                have hae' : (ae != 0) = false := by simp [hae]
                have hx1 := fixB_iff.1 hfx.out
                have hy1 := fixB_iff.1 hfy.out
                have wx : IntKind.i64.wrap (xk + dx) = xk + dx := IntWalk.i64_in _ (by omega)
                have wy : IntKind.i64.wrap (yk + dy) = yk + dy := IntWalk.i64_in _ (by omega)
                have HX := Lib.hid fun W => fontFix_any (xk + dx) W
                have HY := Lib.hid fun W => fontFix_any (yk + dy) W
                clear hae hx1 hy1 hab
                go_wp2_with fail
                refine (HX.out _).mono ?_; rintro e w' ⟨rfl, rfl⟩
                cases gx : fixB (xk + dx)
                · have HE := Lib.hid (show R = (([], 0, 0), 2) by rw [HC.out, gx]; rfl)
                  clear HC gx
                  go_wp2
                  (try simp only [Exit.inBlock, Exit.then])
                  refine bodyPost_ret (results_tmp4 rfl _ _ _) rfl ?_
                  unfold OutAns
                  rw [HE.out]
                  exact ⟨B6, none, 0, rfl, Sl.nil_, Nat.le_refl _, fun h => absurd h (Nat.lt_irrefl _), Nat.zero_le _⟩
                go_wp2_with fail
                refine (HY.out _).mono ?_; rintro e w' ⟨rfl, rfl⟩
                cases gy : fixB (yk + dy)
                · have HE := Lib.hid (show R = (([], 0, 0), 2) by rw [HC.out, gx, gy]; rfl)
                  clear HC gx gy
                  go_wp2
                  (try simp only [Exit.inBlock, Exit.then])
                  refine bodyPost_ret (results_tmp4 rfl _ _ _) rfl ?_
                  unfold OutAns
                  rw [HE.out]
                  exact ⟨B6, none, 0, rfl, Sl.nil_, Nat.le_refl _, fun h => absurd h (Nat.lt_irrefl _), Nat.zero_le _⟩
                have HNX : Hid (R = outS F m J (xk + dx) (yk + dy) ((bl s).drop (k + 1))) := Lib.hid (by rw [HC.out, gx, gy]; rfl)
                have HGX := Lib.hid gx
                have HGY := Lib.hid gy
                clear gx gy HC
                go_wp2_with fail
                go_roundw
                case rel => exact ⟨k + 1, A5, c5, J, xk + dx, yk + dy, nj, by omega, rfl, rfl, rfl, by go_num, btr hbr Q6, HNX, hs6, hnc5, hJl, HGX, HGY, hfr5, hcx5⟩
                case measure => simp [intOf]; omega
              · have HE := Lib.hid (show R = (([], 0, 0), ae) by rw [HC.out, if_pos (by simpa using hae)])
                have hae' : (ae != 0) = true := by simp [hae]
                clear HC hae
                go_wp2
                (try simp only [Exit.inBlock, Exit.then])
                refine bodyPost_ret (results_tmp4 rfl _ _ _) rfl ?_
                unfold OutAns
                rw [HE.out]
                exact ⟨B6, none, 0, rfl, Sl.nil_, Nat.le_refl _, fun h => absurd h (Nat.lt_irrefl _), Nat.zero_le _⟩
            · have hk1' : decide ((k : Int) + 1 < (s.size : Int)) = false := decide_eq_false (by rw [HNS.out]; omega)
              have hz0 : z = wd := by rw [← HZ.out, List.drop_of_length_le (show (bl s).length ≤ k + 1 by rw [bl_len, HNS.out]; omega)]; simp
              subst hz0
              have hzw : IntKind.i64.wrap (z * 65536) = z * 65536 := IntWalk.i64_in _ (by omega)
              have HA1 := Lib.hid fun W => HAi.out (z * 65536) 0 W
              rw [HA.out] at HA1
              unfold vP at HA1
              simp only at HA1
              have hab := aim_bd F.m (z * 65536) 0
              rw [HA.out] at hab
              simp only at hab
              go_wp2_with (first
                | (refine wpList_load_foM rfl _ _ rfl w.heap.size rfl F.m _ _ _ matT2 hA5 ?_)
                | fail)
              refine (HA1.out _).mono ?_; rintro e w6 ⟨rfl, b6⟩
              have B6 := btr B5 b6
              have Q6 := btr Q5 b6
              have hs6 := hs5.below b6
              clear HA1 HA hzw
              by_cases hae : ae = 0
              · rw [if_neg (by simpa using hae)] at HC
                have hae' : (ae != 0) = false := by simp [hae]
                have hx1 := fixB_iff.1 hfx.out
                have hy1 := fixB_iff.1 hfy.out
                have wx : IntKind.i64.wrap (xk + dx) = xk + dx := IntWalk.i64_in _ (by omega)
                have wy : IntKind.i64.wrap (yk + dy) = yk + dy := IntWalk.i64_in _ (by omega)
                have HX := Lib.hid fun W => fontFix_any (xk + dx) W
                have HY := Lib.hid fun W => fontFix_any (yk + dy) W
                clear hae hx1 hy1 hab
                go_wp2_with fail
                refine (HX.out _).mono ?_; rintro e w' ⟨rfl, rfl⟩
                cases gx : fixB (xk + dx)
                · have HE := Lib.hid (show R = (([], 0, 0), 2) by rw [HC.out, gx]; rfl)
                  clear HC gx
                  go_wp2
                  (try simp only [Exit.inBlock, Exit.then])
                  refine bodyPost_ret (results_tmp4 rfl _ _ _) rfl ?_
                  unfold OutAns
                  rw [HE.out]
                  exact ⟨B6, none, 0, rfl, Sl.nil_, Nat.le_refl _, fun h => absurd h (Nat.lt_irrefl _), Nat.zero_le _⟩
                go_wp2_with fail
                refine (HY.out _).mono ?_; rintro e w' ⟨rfl, rfl⟩
                cases gy : fixB (yk + dy)
                · have HE := Lib.hid (show R = (([], 0, 0), 2) by rw [HC.out, gx, gy]; rfl)
                  clear HC gx gy
                  go_wp2
                  (try simp only [Exit.inBlock, Exit.then])
                  refine bodyPost_ret (results_tmp4 rfl _ _ _) rfl ?_
                  unfold OutAns
                  rw [HE.out]
                  exact ⟨B6, none, 0, rfl, Sl.nil_, Nat.le_refl _, fun h => absurd h (Nat.lt_irrefl _), Nat.zero_le _⟩
                have HNX : Hid (R = outS F m J (xk + dx) (yk + dy) ((bl s).drop (k + 1))) := Lib.hid (by rw [HC.out, gx, gy]; rfl)
                have HGX := Lib.hid gx
                have HGY := Lib.hid gy
                clear gx gy HC
                go_wp2_with fail
                go_roundw
                case rel => exact ⟨k + 1, A5, c5, J, xk + dx, yk + dy, nj, by omega, rfl, rfl, rfl, by go_num, btr hbr Q6, HNX, hs6, hnc5, hJl, HGX, HGY, hfr5, hcx5⟩
                case measure => simp [intOf]; omega
              · have HE := Lib.hid (show R = (([], 0, 0), ae) by rw [HC.out, if_pos (by simpa using hae)])
                have hae' : (ae != 0) = true := by simp [hae]
                clear HC hae
                go_wp2
                (try simp only [Exit.inBlock, Exit.then])
                refine bodyPost_ret (results_tmp4 rfl _ _ _) rfl ?_
                unfold OutAns
                rw [HE.out]
                exact ⟨B6, none, 0, rfl, Sl.nil_, Nat.le_refl _, fun h => absurd h (Nat.lt_irrefl _), Nat.zero_le _⟩
          · have HE := Lib.hid (show R = (([], 0, 0), je) by rw [HC.out, if_pos (by simpa using hje)])
            have hje' : (je != 0) = true := by simp [hje]
            clear HC hje
            go_wp2
            (try simp only [Exit.inBlock, Exit.then])
            refine bodyPost_ret (results_tmp4 rfl _ _ _) rfl ?_
            unfold OutAns
            rw [HE.out]
            exact ⟨B5, none, 0, rfl, Sl.nil_, Nat.le_refl _, fun h => absurd h (Nat.lt_irrefl _), Nat.zero_le _⟩
        · have HE := Lib.hid (show R = (([], 0, 0), pe) by rw [HC.out, if_pos (by simpa using hpe)])
          have hpe' : (pe != 0) = true := by simp [hpe]
          clear HC hpe
          go_wp2
          (try simp only [Exit.inBlock, Exit.then])
          refine bodyPost_ret (results_tmp4 rfl _ _ _) rfl ?_
          unfold OutAns
          rw [HE.out]
          exact ⟨B4, none, 0, rfl, Sl.nil_, Nat.le_refl _, fun h => absurd h (Nat.lt_irrefl _), Nat.zero_le _⟩
      · have HE := Lib.hid (show R = (([], 0, 0), er) by rw [HC.out, if_pos (by simpa using he)])
        have he' : (er != 0) = true := by simp [he]
        clear HC he
        go_wp2
        (try simp only [Exit.inBlock, Exit.then])
        refine bodyPost_ret (results_tmp4 rfl _ _ _) rfl ?_
        unfold OutAns
        rw [HE.out]
        exact ⟨B3, none, 0, rfl, Sl.nil_, Nat.le_refl _, fun h => absurd h (Nat.lt_irrefl _), Nat.zero_le _⟩
    · obtain rfl : k = n := by omega
      have HE := Lib.hid (show R = ((Lk, xk, yk), 0) by rw [hal.out, List.drop_of_length_le (by rw [bl_len, HNS.out]; omega)]; rfl)
      have hO := hs1.sglen
      have hks : ¬ (k : Int) < (s.size : Int) := by rw [HNS.out]; omega
      have hks' : decide ((k : Int) < (s.size : Int)) = false := decide_eq_false hks
      clear hal HR2
      go_wp2
      (try simp only [Exit.inBlock, Exit.then])
      refine bodyPost_ret (results_tmp4 rfl _ _ _) rfl ?_
      unfold OutAns
      refine ⟨btr B2 hbr, A1, c1, ?_, ?_, ?_, ?_, hcx1⟩
      · rw [HE.out]
        show _ = Ending.returned (.tuple #[.slice A1 Lk.length c1, .int .i64 xk, .int .i64 yk, .int .i64 0])
        rw [hO]; rfl
      · rw [HE.out]
        show Sl _ 5 A1 Lk.length (sgs Lk)
        rw [hO]; exact hs1
      · rw [HE.out]
        show Lk.length ≤ c1
        rw [hO]; exact hnc1
      · rw [HE.out]
        show FreshA w.heap.size A1 Lk.length
        rw [hO]; exact hfr1
theorem outline_any (F : Fo) (C : List Value) (m : Mt) (x y : Int) (s : ByteArray) (R : (List Sg × Int × Int) × Int) (w : World) (hsz : s.size ≤ 1000000) (h : FoAt w F C) (hR : outF F m x y (bl s) = R) :
    Calls Tryz.prog 49 #[.agg C.toArray, mtv m, .int .i64 x, .int .i64 y, .string s] w fun e w' => Below w.heap.size w w' ∧ ∃ A' c', e = .returned (.tuple #[.slice A' R.1.1.length c', .int .i64 R.1.2.1, .int .i64 R.1.2.2, .int .i64 R.2]) ∧
      Sl w' 5 A' R.1.1.length (sgs R.1.1) := (outline_core F C m x y s R w hsz h hR).mono fun _ _ ⟨h1, A', c', h2, h3, _, _⟩ => ⟨h1, A', c', h2, h3⟩
theorem outline_cap (F : Fo) (C : List Value) (m : Mt) (x y : Int) (s : ByteArray) (R : (List Sg × Int × Int) × Int) (w : World) (hsz : s.size ≤ 1000000) (h : FoAt w F C) (hR : outF F m x y (bl s) = R) :
    Calls Tryz.prog 49 #[.agg C.toArray, mtv m, .int .i64 x, .int .i64 y, .string s] w fun e w' => Below w.heap.size w w' ∧ ∃ A' c', e = .returned (.tuple #[.slice A' R.1.1.length c', .int .i64 R.1.2.1, .int .i64 R.1.2.2, .int .i64 R.2]) ∧
      Sl w' 5 A' R.1.1.length (sgs R.1.1) ∧ R.1.1.length ≤ c' := (outline_core F C m x y s R w hsz h hR).mono fun _ _ ⟨h1, A', c', h2, h3, h4, _⟩ => ⟨h1, A', c', h2, h3, h4⟩
theorem outline_fresh (F : Fo) (C : List Value) (m : Mt) (x y : Int) (s : ByteArray) (R : (List Sg × Int × Int) × Int) (w : World) (hsz : s.size ≤ 1000000) (h : FoAt w F C) (hR : outF F m x y (bl s) = R) :
    Calls Tryz.prog 49 #[.agg C.toArray, mtv m, .int .i64 x, .int .i64 y, .string s] w fun e w' => Below w.heap.size w w' ∧ ∃ A' c', e = .returned (.tuple #[.slice A' R.1.1.length c', .int .i64 R.1.2.1, .int .i64 R.1.2.2, .int .i64 R.2]) ∧
      Sl w' 5 A' R.1.1.length (sgs R.1.1) ∧ FreshA w.heap.size A' R.1.1.length := (outline_core F C m x y s R w hsz h hR).mono fun _ _ ⟨h1, A', c', h2, h3, _, h4, _⟩ => ⟨h1, A', c', h2, h3, h4⟩
end Go.Proofs.YtdfkbbcoolgfiaaGreat
