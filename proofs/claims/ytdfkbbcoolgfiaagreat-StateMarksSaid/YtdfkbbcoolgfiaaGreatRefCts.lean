/- tympanref25.Contours. -/
import Derived.Test.YtdfkbbcoolgfiaaGreatCts
import Derived.Test.YtdfkbbcoolgfiaaGreatMRM
namespace Go.Proofs.YtdfkbbcoolgfiaaGreat
open Go.RowKit

def rctStep (st : List Ct × Int × Int) (s : Sg) : List Ct × Int × Int := ((ctStep st s).1, s.x, s.y)
def rctTo (l : List Sg) : List Ct × Int × Int := l.foldl rctStep ([], 0, 0)
theorem rctTo_take (l : List Sg) (k : Nat) (h : k < l.length) : rctTo (l.take (k + 1)) = rctStep (rctTo (l.take k)) l[k] := by
  unfold rctTo
  rw [List.take_succ_eq_append_getElem h, List.foldl_append]; rfl
theorem rct_is {l : List Sg} (h : mayB l = true) : ∀ k, k ≤ l.length → (rctTo (l.take k)).1 = (ctTo (l.take k)).1 ∧ (0 < k → ∀ h1 : k - 1 < l.length, l[k - 1].kind ≠ 4 → (rctTo (l.take k)).2 = (ctTo (l.take k)).2)
  | 0, _ => ⟨rfl, fun h0 => absurd h0 (by omega)⟩
  | k + 1, hk => by
    obtain ⟨ih1, ih2⟩ := rct_is h k (by omega)
    rw [rctTo_take l k hk, ctTo_take l k hk]
    refine ⟨?_, fun _ h1 h4 => ?_⟩
    · unfold rctStep ctStep
      by_cases k1 : l[k].kind = 1
      · rw [if_pos k1, if_pos k1]; simp only [ih1]
      · rw [if_neg k1, if_neg k1]
        by_cases k4 : l[k].kind = 4
        · rw [if_pos k4, if_pos k4]; simp only [ih1]
        · rw [if_neg k4, if_neg k4]
          obtain ⟨h0, h4⟩ := may_inner h k (by omega) k1
          have := ih2 h0 (by omega) h4
          simp only [ih1, this]
    · simp only [Nat.add_sub_cancel] at h4
      unfold rctStep ctStep
      by_cases k1 : l[k].kind = 1
      · rw [if_pos k1, if_pos k1]
      · rw [if_neg k1, if_neg h4, if_neg k1, if_neg h4]
theorem rct_ne {l : List Sg} (h : mayB l = true) (k : Nat) (h0 : 0 < k) (hk : k ≤ l.length) : (rctTo (l.take k)).1 ≠ [] := by
  rw [(rct_is h k hk).1]; exact ct_ne h k h0 hk
theorem rct_es {l : List Sg} (h : mayB l = true) (k : Nat) (hk : k ≤ l.length) : ∀ c ∈ (rctTo (l.take k)).1, c.es.length ≤ k := fun c hc => by
  rw [(rct_is h k hk).1] at hc
  have := ct_es (l.take k) c hc
  rw [List.length_take] at this; omega
theorem rctT : SlT Tryz.prog 119 125 4 48 := slT_of Tryz.underlying119 (by kernel_rfl) (by omega) (by omega)

set_option maxHeartbeats 1000000 in
theorem ref_Contours_no (A : Option Addr) (n c : Nat) (l : List Sg) (w : World) (hm : n ≤ 1000000) (h : Sl w 5 A n (sgs l)) (hok : mayB l = false) :
    Calls Tryz.prog 79 #[.slice A n c] w fun e w' => ∃ A' c' ps, e = .returned (.slice A' ps.length c') ∧ w'.ownsRow w.heap.size 125 4 (.slice A' ps.length c') ps.length (cvs ps) ∧
      Cvs w' w.heap.size 112 ps ∧ ps.map Prod.fst = ctsL l ∧ Below w.heap.size w w' := by
  go_enter Tryz.func79, Tryz.ntmps79
  go_wp2_with (go_at_call 62; refine (ref_May_any _ _ _ l _ hm h).mono ?_; rintro e w' ⟨rfl, hb1⟩)
  go_ret
  exact ⟨none, 0, [], rfl, own_nil, Cvs.nil, by simp [ctsL, hok], hb1⟩

/-- The load of the last contour's edges, named: it is branched over, not taken first. -/
def rldEs : Oper := ⟨some 33, .load 109 (.tmp 32), 109, "ref.go:138", #[⟨5, .data⟩], none⟩
theorem rldEs_is : (⟨some 33, .load 109 (.tmp 32), 109, "ref.go:138", #[⟨5, .data⟩], none⟩ : Oper) = rldEs := rfl
attribute [local go_sem] rldEs
def rix : Oper := ⟨some 31, .indexAddr 119 (.tmp 29) (.tmp 30), 0, "ref.go:138", #[⟨2, .data⟩, ⟨3, .data⟩], none⟩
theorem rix_is : (⟨some 31, .indexAddr 119 (.tmp 29) (.tmp 30), 0, "ref.go:138", #[⟨2, .data⟩, ⟨3, .data⟩], none⟩ : Oper) = rix := rfl
attribute [local go_sem] rix

set_option maxRecDepth 100000 in
set_option maxHeartbeats 2000000 in
theorem ref_Contours_yes (A : Option Addr) (n c : Nat) (l : List Sg) (w : World) (hm : n ≤ 1000000) (h : Sl w 5 A n (sgs l)) (hok : mayB l = true) :
    Calls Tryz.prog 79 #[.slice A n c] w fun e w' => ∃ A' c' ps, e = .returned (.slice A' ps.length c') ∧ w'.ownsRow w.heap.size 125 4 (.slice A' ps.length c') ps.length (cvs ps) ∧
      Cvs w' w.heap.size 112 ps ∧ ps.map Prod.fst = ctsL l ∧ Below w.heap.size w w' := by
  have hl := h.sglen
  have hn3 : n ≤ 300 := by rw [← hl]; exact (mayB_from hok).2
  go_enter Tryz.func79, Tryz.ntmps79
  go_wp2_with (go_at_call 62; refine (ref_May_any _ _ _ l _ hm h).mono ?_; rintro e w1 ⟨rfl, hb1⟩)
  go_loopw [3, 4, 5, 6] (fun out x y i wr => ∃ k m A' c' ps xx yy, k ≤ n ∧ m ≤ k ∧ out = .slice A' m c' ∧ x = .int .i64 xx ∧ y = .int .i64 yy ∧ i = .int .i64 (k : Int) ∧ Below w1.heap.size w1 wr ∧
    Hid (ps.length = m) ∧ Hid (rctTo (l.take k) = (ps.map Prod.fst, xx, yy)) ∧ wr.ownsRow w1.heap.size 125 4 (.slice A' m c') m (cvs ps) ∧ Cvs wr w1.heap.size 112 ps) (fun _ _ _ i _ => n - (intOf i).toNat)
  case atStart => exact ⟨0, 0, none, 0, [], 0, 0, by omega, by omega, rfl, rfl, rfl, rfl, Below.refl _ _, rfl, rfl, own_nil, Cvs.nil⟩
  case round =>
    obtain ⟨wo, rfl⟩ : ∃ wo : World, wo = wr := ⟨_, rfl⟩
    obtain ⟨k, m, A1, c1, ps, x, y, hk, hmk, rfl, rfl, rfl, rfl, hbr, hpl, hst, hown, hcv⟩ := hrel
    have hsz := hbr.size
    by_cases hlt : k < n
    · have hkl : k < l.length := by omega
      obtain ⟨b, off, rfl, hb, d0, d1, d2, d3, d4⟩ := ((h.below hb1).below hbr).sg k hlt hkl
      obtain ⟨sk, hsk⟩ : ∃ s, s = l[k] := ⟨_, rfl⟩
      have htk := rctTo_take l k hkl
      have hin := may_inner hok k hkl
      have hkd := may_kind hok k hkl
      have hne := rct_ne hok k
      have hk' : k ≤ l.length := by omega
      rw [← hsk] at d0 d1 d2 d3 d4 htk hkd hin
      rw [hst.out] at htk hne
      have HTK := Lib.hid htk
      have HIN := Lib.hid (show sk.kind ≠ 1 → ps ≠ [] from fun h1 => by
        obtain ⟨h0, _⟩ := hin h1
        have := hne h0 (by omega)
        intro e; apply this; rw [e]; rfl)
      obtain ⟨hkd1, hkd2⟩ := hkd
      clear hsk htk hin hne
      by_cases hk1 : sk.kind = 1
      · obtain ⟨qs, hqs⟩ : ∃ qs, qs = ps ++ [((⟨sk.x, sk.y, [], false⟩ : Ct), Value.slice none 0 0)] := ⟨_, rfl⟩
        have hstep : rctTo (l.take (k + 1)) = (qs.map Prod.fst, sk.x, sk.y) := by rw [HTK.out, hqs]; simp [rctStep, ctStep, hk1]
        have hql : qs.length = m + 1 := by rw [hqs, List.length_append, hpl.out]; rfl
        have hqc : cvs qs = cvs ps ++ cvc (⟨sk.x, sk.y, [], false⟩, .slice none 0 0) := by rw [hqs, cvs_snoc]
        have HQL := Lib.hid hql
        have HQC := Lib.hid hqc
        have HQS := Lib.hid hqs
        have HSTEP := Lib.hid hstep
        have hk1' : (sk.kind == 1) = true := by simp [hk1]
        clear hstep hk1 HIN hql hqc hqs
        go_wp2_with (at_builtin; refine wpList_app rfl _ _ 119 rfl w1.heap.size rctT rfl (own_below hown (bal (bal (Below.refl _ _) _) _)) (cvc (⟨sk.x, sk.y, [], false⟩, .slice none 0 0)) rfl (sl_newN _ (by simp) rfl) (oneCell_cvc _) (by omega) (by simp; omega) ?_; intro A2 c2 w3 hown3 hg3 hat3; have f1 : w3.cell? ⟨wo.heap.size, 1, none⟩ = some (.int .i64 sk.x) := box_kept hown hg3 1; have f2 : w3.cell? ⟨wo.heap.size, 2, none⟩ = some (.int .i64 sk.y) := box_kept hown hg3 2)
        go_quiet (fail)
        go_wp2
        have hcv3 := ((hcv.below (bal (bal (Below.refl _ _) _) _)).out (own_below hown (bal (bal (Below.refl _ _) _) _)) (by decide) hg3).push sk.x sk.y
        rw [← HQS.out] at hcv3
        rw [← HQC.out] at hown3
        go_roundw
        case rel => exact ⟨k + 1, m + 1, A2, c2, qs, sk.x, sk.y, by omega, by omega, rfl, rfl, rfl, by go_num, bdrewN (grown_below (bal (bal hbr _) _) hg3 (own_below hown (bal (bal (Below.refl _ _) _) _))) _, HQL, HSTEP, own_below hown3 (bdrewN (Below.refl _ _) _), hcv3.below (bdrewN (Below.refl _ _) _)⟩
        case measure => simp [intOf]; omega
      · obtain ⟨a, ⟨ct, v⟩, rfl⟩ := snoc_of_ne ps (HIN.out hk1)
        have hal : a.length + 1 = m := by rw [← hpl.out]; simp
        have hk1' : (sk.kind == 1) = false := by simp [hk1]
        obtain ⟨g, rfl, hgb, hgl⟩ := own_addr hown (by omega)
        have hsl := own_sl hown
        obtain ⟨b2, off2, e2, _, e0, e1, e3, e4⟩ := hsl.ct a.length (by omega) (by simp)
        injection e2 with e2; injection e2 with e5 e6; subst e5; subst e6
        have hge : (a ++ [(ct, v)])[a.length]'(by simp) = (ct, v) := by simp
        rw [hge] at e0 e1 e3 e4
        have hfz : ∀ j, wo.frozen? ⟨g, j, none⟩ = false := fun j => hown.frozenAt j
        have hm1 : a.length = m - 1 := by omega
        rw [hm1, Nat.zero_add] at e0 e1 e3 e4
        have ho1 := own_below hown (bal (Below.refl _ _) (.cells #[.int .i64 sk.kind, .int .i64 sk.x, .int .i64 sk.y, .int .i64 sk.cx, .int .i64 sk.cy] 63))
        have hcv1 := hcv.below (bal (Below.refl _ _) (.cells #[.int .i64 sk.kind, .int .i64 sk.x, .int .i64 sk.y, .int .i64 sk.cx, .int .i64 sk.cy] 63))
        by_cases hk4 : sk.kind = 4
        · have hstep : rctTo (l.take (k + 1)) = ((a ++ [({ ct with shut := true }, v)]).map Prod.fst, sk.x, sk.y) := by
            rw [HTK.out, map_snoc, map_snoc]; simp [rctStep, ctStep, hk4, modLast_snoc]
          have hst3 := hown.stored ((m - 1) * 4 + 3) (.bool true)
          have hset := set_last (a := a) (c := ct) (c' := { ct with shut := true }) (v := v) (v' := v) (j := 3) (u := .bool true) (by omega) rfl
          rw [hm1] at hset
          rw [hset] at hst3
          have hcv3 := ((hcv.out hown (by decide) hst3.2).head (c' := { ct with shut := true }) rfl).below (bal (Below.refl _ _) (.cells #[.int .i64 sk.kind, .int .i64 sk.x, .int .i64 sk.y, .int .i64 sk.cx, .int .i64 sk.cy] 63))
          have H1 := Lib.hid (own_below hst3.1 (bal (Below.refl _ _) (.cells #[.int .i64 sk.kind, .int .i64 sk.x, .int .i64 sk.y, .int .i64 sk.cx, .int .i64 sk.cy] 63)))
          have hql : (a ++ [({ ct with shut := true }, v)]).length = m := by rw [List.length_append]; exact hal
          have HQL := Lib.hid hql
          have HSTEP := Lib.hid hstep
          have hk4' : (sk.kind == 4) = true := by simp [hk4]
          have hm0 : 1 ≤ m := by omega
          have hB := bal (bset hbr (p := ⟨g, (m - 1) * 4 + 3, none⟩) hgb (.bool true)) (.cells #[.int .i64 sk.kind, .int .i64 sk.x, .int .i64 sk.y, .int .i64 sk.cx, .int .i64 sk.cy] 63)
          clear hst3 hset hql hstep hk1 hk4 hsl hge hal hm1
          go_wp2
          go_quiet (fail)
          go_wp2
          go_roundw
          case rel => exact ⟨k + 1, m, _, c1, a ++ [({ ct with shut := true }, v)], sk.x, sk.y, by omega, by omega, rfl, rfl, rfl, by go_num, bdrewN hB _, HQL, HSTEP, own_below H1.out (bdrewN (Below.refl _ _) _), hcv3.below (bdrewN (Below.refl _ _) _)⟩
          case measure => simp [intOf]; omega
        · have hown_e := hcv.1 (ct, v) (by simp)
          simp only at hown_e
          obtain ⟨Ae, ce, rfl⟩ := own_form hown_e
          have hesb := rct_es hok k hk' ct (by rw [hst.out]; simp)
          obtain ⟨q, hq⟩ : ∃ q, ct.es.length = q := ⟨_, rfl⟩
          rw [hq] at hown hcv hown_e hesb e3
          have hstep : rctTo (l.take (k + 1)) = (a.map Prod.fst ++ [{ ct with es := ct.es ++ [⟨x, y, sk.kind == 3, sk.cx, sk.cy, sk.x, sk.y⟩] }], sk.x, sk.y) := by
            rw [HTK.out, map_snoc]; simp [rctStep, ctStep, hk4, hk1, modLast_snoc]
          have HSTEP := Lib.hid hstep
          have HQ := Lib.hid hq
          have hk4' : (sk.kind == 4) = false := by simp [hk4]
          have hq3 : q ≤ 300 := by omega
          have HOE := Lib.hid hown_e
          obtain ⟨bt, hbt⟩ : ∃ bt, bt = (sk.kind == 3) := ⟨_, rfl⟩
          have hbt' := hbt.symm
          have HBT := Lib.hid hbt
          have hm0 : 1 ≤ m := by omega
          have HA := fun {wb w3 : World} {A2 c2} => edge_after (W := w1) (wb := wb) (w3 := w3) (t := 63) (A2 := A2) (c2 := c2) (cs := #[.int .i64 sk.kind, .int .i64 sk.x, .int .i64 sk.y, .int .i64 sk.cx, .int .i64 sk.cy]) (e := ⟨x, y, bt, sk.cx, sk.cy, sk.x, sk.y⟩) hown hcv hbr (by decide) hgb hq hm1 hm0
          have HAL := Lib.hid hal
          clear hstep hq hsl hge hesb hk1 hk4 hown_e hbt HIN hm1 hal
          go_wp2
          rw [rix_is, rldEs_is]
          go_region_held3 (fun w' => w'.cell? ⟨wo.heap.size, 0, none⟩ = some (.int .i64 sk.kind) ∧ w'.cell? ⟨wo.heap.size, 1, none⟩ = some (.int .i64 sk.x) ∧ w'.cell? ⟨wo.heap.size, 2, none⟩ = some (.int .i64 sk.y) ∧ w'.cell? ⟨wo.heap.size, 3, none⟩ = some (.int .i64 sk.cx) ∧ w'.cell? ⟨wo.heap.size, 4, none⟩ = some (.int .i64 sk.cy)) (first | exact ⟨hby 0, hby 1, hby 2, hby 3, hby 4⟩ | exact ⟨hbx 0, hbx 1, hbx 2, hbx 3, hbx 4⟩ | go_keep)
            ((refine step_app (by rfl) _ _ 109 (by rfl) w1.heap.size edT1 (by rfl) (own_below HOE.out (by repeat (first | exact Below.refl _ _ | refine bal ?_ _ | refine bdrew ?_ | refine bdrewN ?_ _))) (edc ⟨x, y, bt, sk.cx, sk.cy, sk.x, sk.y⟩) (by rfl) (sl_newN _ (by simp) rfl) (oneCell_edc _) (by omega) (by simp; omega) ?_; intro A2 c2 w3 hown3 hg3 hat3; obtain ⟨hby, hbx, h2, h3, h4, h5, h6⟩ := HA (by repeat (first | exact Below.refl _ _ | refine bal ?_ _ | refine bdrew ?_ | refine bdrewN ?_ _)) hown3 hg3 hat3))
          all_goals
            have j1 : (w3.setCell ⟨g, (m - 1) * 4 + 2, none⟩ (.slice A2 (q + 1) c2)).cell? ⟨wo.heap.size, 1, none⟩ = some (.int .i64 sk.x) := hby 1
            have j2 : (w3.setCell ⟨g, (m - 1) * 4 + 2, none⟩ (.slice A2 (q + 1) c2)).cell? ⟨wo.heap.size, 2, none⟩ = some (.int .i64 sk.y) := hby 2
            clear hby hbx h2 h3 hown3 hg3 hat3
            generalize w3.setCell ⟨g, (m - 1) * 4 + 2, none⟩ (.slice A2 (q + 1) c2) = w4 at *
            have H4 := Lib.hid h4
            have H5 := Lib.hid h5
            have H6 := Lib.hid h6
            clear h4 h5 h6
            have hql : (a ++ [(({ ct with es := ct.es ++ [⟨x, y, bt, sk.cx, sk.cy, sk.x, sk.y⟩] } : Ct), Value.slice A2 (q + 1) c2)]).length = m := by rw [List.length_append]; exact HAL.out
            have HQL := Lib.hid hql
            have hstep : rctTo (l.take (k + 1)) = ((a ++ [(({ ct with es := ct.es ++ [⟨x, y, bt, sk.cx, sk.cy, sk.x, sk.y⟩] } : Ct), Value.slice A2 (q + 1) c2)]).map Prod.fst, sk.x, sk.y) := by rw [HSTEP.out, map_snoc, HBT.out]
            have HST := Lib.hid hstep
            clear hql hstep HA
            go_wp2
            go_quiet (fail)
            go_wp2
            go_roundw
            case rel => exact ⟨k + 1, m, _, c1, _, sk.x, sk.y, by omega, by omega, rfl, rfl, rfl, by go_num, bdrewN H6.out _, HQL, HST, own_below H4.out (bdrewN (Below.refl _ _) _), H5.out.below (bdrewN (Below.refl _ _) _)⟩
            case measure => simp [intOf]; omega
    · obtain rfl : k = n := by omega
      have htake : l.take k = l := List.take_of_length_le (by omega)
      rw [htake] at hst
      clear htake
      go_wp2
      go_ret
      refine ⟨A1, c1, ps, by rw [hpl.out]; rfl, by rw [hpl.out]; exact own_mono hown hb1.size, hcv.mono hb1.size, ?_, btr hb1 hbr⟩
      have hr := (rct_is hok l.length (Nat.le_refl _)).1
      rw [List.take_length] at hr
      simp only [ctsL, hok, Bool.true_eq_false, if_false]
      rw [← hr, hst.out]

theorem ref_Contours_any (A : Option Addr) (n c : Nat) (l : List Sg) (cs : List Ct) (w : World) (hm : n ≤ 1000000) (h : Sl w 5 A n (sgs l)) (hcs : ctsL l = cs) :
    Calls Tryz.prog 79 #[.slice A n c] w fun e w' => ∃ A' c', e = .returned (.slice A' cs.length c') ∧ CtSl w' A' cs.length cs ∧ Below w.heap.size w w' := by
  have H := by
    cases hok : mayB l
    · exact ref_Contours_no A n c l w hm h hok
    · exact ref_Contours_yes A n c l w hm h hok
  refine H.mono ?_
  rintro e w' ⟨A', c', ps, rfl, hown, hcv, hps, hb⟩
  have := CtSl.of hown hcv
  have hl : ps.length = cs.length := by rw [← hcs, ← hps, List.length_map]
  rw [hps, hcs, hl] at this
  exact ⟨A', c', by rw [hl], this, hb⟩

end Go.Proofs.YtdfkbbcoolgfiaaGreat
