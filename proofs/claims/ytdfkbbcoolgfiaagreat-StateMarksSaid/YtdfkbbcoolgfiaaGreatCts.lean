/- path.Contours. -/
import Derived.Test.YtdfkbbcoolgfiaaGreatMMay
import Derived.Test.YtdfkbbcoolgfiaaGreatAllP
import Derived.Deep.RegionHeld3
namespace Go.Proofs.YtdfkbbcoolgfiaaGreat
open Go.RowKit

theorem ctT : SlT Tryz.prog 165 167 4 48 := slT_of Tryz.underlying165 (by kernel_rfl) (by omega) (by omega)
theorem edT1 : SlT Tryz.prog 109 112 7 56 := slT_of Tryz.underlying109 (by kernel_rfl) (by omega) (by omega)

/-- After the append onto the last contour's edges, and the store of what it gave. -/
theorem edge_after {W wo wb w3 : World} {T E t : TypeId} {g m c1 q ce c2 : Nat} {Ae A2 : Option Addr} {a : List (Ct × Value)} {ct : Ct} {cs : Array Value} {e : Ed}
    (hown : wo.ownsRow W.heap.size T 4 (.slice (some ⟨g, 0, none⟩) m c1) m (cvs (a ++ [(ct, .slice Ae q ce)]))) (hcv : Cvs wo W.heap.size E (a ++ [(ct, .slice Ae q ce)])) (hbr : Below W.heap.size W wo) (hne : E ≠ T)
    (hgb : W.heap.size ≤ g) (hq : ct.es.length = q) (hm : a.length = m - 1) (hm1 : 1 ≤ m)
    (hbc : Below (wo.alloc (.cells cs t)).heap.size (wo.alloc (.cells cs t)) wb)
    (hown3 : w3.ownsRow W.heap.size E 7 (.slice A2 (q + 1) c2) (q + 1) (eds ct.es ++ edc e)) (hg3 : wb.grownBy w3 (Value.ownBlock (.slice Ae q ce)))
    (hat3 : (Value.slice A2 (q + 1) c2).ownBlock = (Value.slice Ae q ce).ownBlock ∨ (Value.slice A2 (q + 1) c2).ownBlock = some wb.heap.size) :
    (∀ i, (w3.setCell ⟨g, (m - 1) * 4 + 2, none⟩ (.slice A2 (q + 1) c2)).cell? ⟨wo.heap.size, i, none⟩ = cs[i]?) ∧ (∀ i, w3.cell? ⟨wo.heap.size, i, none⟩ = cs[i]?) ∧ w3.cell? ⟨g, (m - 1) * 4 + 2, none⟩ = some (.slice Ae q ce) ∧ w3.frozen? ⟨g, (m - 1) * 4 + 2, none⟩ = false ∧
    (w3.setCell ⟨g, (m - 1) * 4 + 2, none⟩ (.slice A2 (q + 1) c2)).ownsRow W.heap.size T 4 (.slice (some ⟨g, 0, none⟩) m c1) m (cvs (a ++ [({ ct with es := ct.es ++ [e] }, .slice A2 (q + 1) c2)])) ∧
    Cvs (w3.setCell ⟨g, (m - 1) * 4 + 2, none⟩ (.slice A2 (q + 1) c2)) W.heap.size E (a ++ [({ ct with es := ct.es ++ [e] }, .slice A2 (q + 1) c2)]) ∧
    Below W.heap.size W (w3.setCell ⟨g, (m - 1) * 4 + 2, none⟩ (.slice A2 (q + 1) c2)) := by
  have he := hcv.1 (ct, .slice Ae q ce) (by simp)
  simp only [hq] at he
  have hbb : Below wo.heap.size wo wb := btr (bal (Below.refl _ _) _) hbc
  have hown2 := own_below hown hbb
  have he2 := own_below he hbb
  have hown4 := hown2.kept hg3 (own_ne hown2 he2 (fun h => hne h.symm))
  have hsl := own_sl hown4
  obtain ⟨b2, off2, e2, _, _, _, h2, _⟩ := hsl.ct a.length (by omega) (by simp)
  injection e2 with e2; injection e2 with e5 e6; subst e5; subst e6
  have hge : (a ++ [(ct, Value.slice Ae q ce)])[a.length]'(by simp) = (ct, Value.slice Ae q ce) := by simp
  rw [hge, hm, Nat.zero_add] at h2
  have hst := hown4.stored ((m - 1) * 4 + 2) (.slice A2 (q + 1) c2)
  have hset := set_last (a := a) (c := ct) (c' := { ct with es := ct.es ++ [e] }) (v := .slice Ae q ce) (v' := .slice A2 (q + 1) c2) (j := 2) (u := .slice A2 (q + 1) c2) (by omega) rfl
  rw [hm] at hset
  rw [hset] at hst
  have hcv4 : Cvs w3 W.heap.size E (a ++ [({ ct with es := ct.es ++ [e] }, .slice A2 (q + 1) c2)]) := by
    refine (hcv.below hbb).grow hg3 hat3 ?_
    have hl : (ct.es ++ [e]).length = q + 1 := by simp [hq]
    simp only [hl]
    rw [eds_app, eds_one]; exact hown3
  have hmd := ((Mid.refl wo.heap.size (wo.alloc (.cells cs t))).bel hbc).grown (Off.old he _) hg3
  have hbx : ∀ i, w3.cell? ⟨wo.heap.size, i, none⟩ = cs[i]? := fun i => (hmd.cell (Nat.le_refl _) (by simp)).trans (new_cell _ i)
  have hgo : g < wo.heap.size := (hown.lt g rfl).2
  have hby : ∀ i, (w3.setCell ⟨g, (m - 1) * 4 + 2, none⟩ (.slice A2 (q + 1) c2)).cell? ⟨wo.heap.size, i, none⟩ = cs[i]? := fun i => by
    rw [← hbx i]
    exact (World.cell?_of_block (a := ⟨wo.heap.size, i, none⟩) (hst.2.block _ (Nat.lt_of_lt_of_le (by simp) hmd.1) (by simp only [ne_eq, Option.some.injEq]; omega)))
  exact ⟨hby, hbx, h2, hown4.frozenAt _, hst.1, hcv4.out hown4 hne hst.2, bset (grown_below (btr hbr hbb) hg3 he2) hgb _⟩

set_option maxHeartbeats 1000000 in
theorem Contours_no (A : Option Addr) (n c : Nat) (l : List Sg) (w : World) (hm : n ≤ 1000000) (h : Sl w 5 A n (sgs l)) (hok : mayB l = false) :
    Calls Tryz.prog 123 #[.slice A n c] w fun e w' => ∃ A' c' ps, e = .returned (.slice A' ps.length c') ∧ w'.ownsRow w.heap.size 167 4 (.slice A' ps.length c') ps.length (cvs ps) ∧
      Cvs w' w.heap.size 112 ps ∧ ps.map Prod.fst = ctsL l ∧ Below w.heap.size w w' := by
  go_enter Tryz.func123, Tryz.ntmps123
  go_wp2_with (go_at_call 57; refine (path_May_any _ _ _ l _ hm h).mono ?_; rintro e w' ⟨rfl, hb1⟩)
  go_ret
  exact ⟨none, 0, [], rfl, own_nil, Cvs.nil, by simp [ctsL, hok], hb1⟩

/-- The load of the last contour's edges, named: it is branched over, not taken first. -/
def ldEs : Oper := ⟨some 48, .load 109 (.tmp 47), 109, "path.go:155", #[⟨3, .data⟩], none⟩
theorem ldEs_is : (⟨some 48, .load 109 (.tmp 47), 109, "path.go:155", #[⟨3, .data⟩], none⟩ : Oper) = ldEs := rfl
attribute [local go_sem] ldEs

set_option maxRecDepth 100000 in
set_option maxHeartbeats 2000000 in
theorem Contours_yes (A : Option Addr) (n c : Nat) (l : List Sg) (w : World) (hm : n ≤ 1000000) (h : Sl w 5 A n (sgs l)) (hok : mayB l = true) :
    Calls Tryz.prog 123 #[.slice A n c] w fun e w' => ∃ A' c' ps, e = .returned (.slice A' ps.length c') ∧ w'.ownsRow w.heap.size 167 4 (.slice A' ps.length c') ps.length (cvs ps) ∧
      Cvs w' w.heap.size 112 ps ∧ ps.map Prod.fst = ctsL l ∧ Below w.heap.size w w' := by
  have hl := h.sglen
  have hn3 : n ≤ 300 := by rw [← hl]; exact (mayB_from hok).2
  go_enter Tryz.func123, Tryz.ntmps123
  go_wp2_with (go_at_call 57; refine (path_May_any _ _ _ l _ hm h).mono ?_; rintro e w1 ⟨rfl, hb1⟩)
  go_loopw [3, 4, 5, 14] (fun out x y i wr => ∃ k m A' c' ps xx yy, k ≤ n ∧ m ≤ k ∧ out = .slice A' m c' ∧ x = .int .i64 xx ∧ y = .int .i64 yy ∧ i = .int .i64 (k : Int) ∧ Below w1.heap.size w1 wr ∧
    Hid (ps.length = m) ∧ Hid (ctTo (l.take k) = (ps.map Prod.fst, xx, yy)) ∧ wr.ownsRow w1.heap.size 167 4 (.slice A' m c') m (cvs ps) ∧ Cvs wr w1.heap.size 112 ps) (fun _ _ _ i _ => n - (intOf i).toNat)
  case atStart => exact ⟨0, 0, none, 0, [], 0, 0, by omega, by omega, rfl, rfl, rfl, rfl, Below.refl _ _, rfl, rfl, own_nil, Cvs.nil⟩
  case round =>
    obtain ⟨wo, rfl⟩ : ∃ wo : World, wo = wr := ⟨_, rfl⟩
    obtain ⟨k, m, A1, c1, ps, x, y, hk, hmk, rfl, rfl, rfl, rfl, hbr, hpl, hst, hown, hcv⟩ := hrel
    have hsz := hbr.size
    by_cases hlt : k < n
    · have hkl : k < l.length := by omega
      obtain ⟨b, off, rfl, hb, d0, d1, d2, d3, d4⟩ := ((h.below hb1).below hbr).sg k hlt hkl
      obtain ⟨sk, hsk⟩ : ∃ s, s = l[k] := ⟨_, rfl⟩
      have htk := ctTo_take l k hkl
      have hin := may_inner hok k hkl
      have hkd := may_kind hok k hkl
      have hne := ct_ne hok k
      rw [← hsk] at d0 d1 d2 d3 d4 htk hkd hin
      rw [hst.out] at htk hne
      have HTK := Lib.hid htk
      have HIN := Lib.hid (show sk.kind ≠ 1 → ps ≠ [] from fun h1 => by
        obtain ⟨h0, _⟩ := hin h1
        have := hne h0 (by omega)
        intro e; apply this; rw [e]; rfl)
      obtain ⟨hkd1, hkd2⟩ := hkd
      clear hsk htk hin hne
      by_cases hk1 : sk.kind = 1
      · obtain ⟨qs, hqs⟩ : ∃ qs, qs = ps ++ [((⟨sk.x, sk.y, [], false⟩ : Ct), Value.slice none 0 0)] := ⟨_, rfl⟩
        have hstep : ctTo (l.take (k + 1)) = (qs.map Prod.fst, sk.x, sk.y) := by rw [HTK.out, hqs]; simp [ctStep, hk1]
        have hql : qs.length = m + 1 := by rw [hqs, List.length_append, hpl.out]; rfl
        have hqc : cvs qs = cvs ps ++ cvc (⟨sk.x, sk.y, [], false⟩, .slice none 0 0) := by rw [hqs, cvs_snoc]
        have HQL := Lib.hid hql
        have HQC := Lib.hid hqc
        have HQS := Lib.hid hqs
        have HSTEP := Lib.hid hstep
        have hk1' : (sk.kind == 1) = true := by simp [hk1]
        clear hstep hk1 HIN hql hqc hqs
        go_wp2_with (at_builtin; refine wpList_app rfl _ _ 165 rfl w1.heap.size ctT rfl (own_below hown (bal (bal (Below.refl _ _) _) _)) (cvc (⟨sk.x, sk.y, [], false⟩, .slice none 0 0)) rfl (sl_newN _ (by simp) rfl) (oneCell_cvc _) (by omega) (by simp; omega) ?_; intro A2 c2 w3 hown3 hg3 hat3; have f1 : w3.cell? ⟨wo.heap.size, 1, none⟩ = some (.int .i64 sk.x) := box_kept hown hg3 1; have f2 : w3.cell? ⟨wo.heap.size, 2, none⟩ = some (.int .i64 sk.y) := box_kept hown hg3 2)
        go_quiet (fail)
        go_wp2
        have hcv3 := ((hcv.below (bal (bal (Below.refl _ _) _) _)).out (own_below hown (bal (bal (Below.refl _ _) _) _)) (by decide) hg3).push sk.x sk.y
        rw [← HQS.out] at hcv3
        rw [← HQC.out] at hown3
        go_roundw
        case rel => exact ⟨k + 1, m + 1, A2, c2, qs, sk.x, sk.y, by omega, by omega, rfl, rfl, rfl, by go_num, bdrewN (grown_below (bal (bal hbr _) _) hg3 (own_below hown (bal (bal (Below.refl _ _) _) _))) _, HQL, HSTEP, own_below hown3 (bdrewN (Below.refl _ _) _), hcv3.below (bdrewN (Below.refl _ _) _)⟩
        case measure => simp [intOf]; omega
      · obtain ⟨a, ⟨ct, v⟩, rfl⟩ := snoc_of_ne ps (HIN.out hk1)
        have hal : a.length + 1 = m := by rw [← hpl.out]; simp
        have hk1' : (sk.kind == 1) = false := by simp [hk1]
        obtain ⟨g, rfl, hgb, hgl⟩ := own_addr hown (by omega)
        have hsl := own_sl hown
        obtain ⟨b2, off2, e2, _, e0, e1, e3, e4⟩ := hsl.ct a.length (by omega) (by simp)
        injection e2 with e2; injection e2 with e5 e6; subst e5; subst e6
        have hge : (a ++ [(ct, v)])[a.length]'(by simp) = (ct, v) := by simp
        rw [hge] at e0 e1 e3 e4
        have hfz : ∀ j, wo.frozen? ⟨g, j, none⟩ = false := fun j => hown.frozenAt j
        have hm1 : a.length = m - 1 := by omega
        rw [hm1, Nat.zero_add] at e0 e1 e3 e4
        have ho1 := own_below hown (bal (Below.refl _ _) (.cells #[.int .i64 sk.kind, .int .i64 sk.x, .int .i64 sk.y, .int .i64 sk.cx, .int .i64 sk.cy] 63))
        have hcv1 := hcv.below (bal (Below.refl _ _) (.cells #[.int .i64 sk.kind, .int .i64 sk.x, .int .i64 sk.y, .int .i64 sk.cx, .int .i64 sk.cy] 63))
        by_cases hk4 : sk.kind = 4
        · have hstep : ctTo (l.take (k + 1)) = ((a ++ [({ ct with shut := true }, v)]).map Prod.fst, x, y) := by
            rw [HTK.out, map_snoc, map_snoc]; simp [ctStep, hk4, modLast_snoc]
          have hst3 := hown.stored ((m - 1) * 4 + 3) (.bool true)
          have hset := set_last (a := a) (c := ct) (c' := { ct with shut := true }) (v := v) (v' := v) (j := 3) (u := .bool true) (by omega) rfl
          rw [hm1] at hset
          rw [hset] at hst3
          have hcv3 := ((hcv.out hown (by decide) hst3.2).head (c' := { ct with shut := true }) rfl).below (bal (Below.refl _ _) (.cells #[.int .i64 sk.kind, .int .i64 sk.x, .int .i64 sk.y, .int .i64 sk.cx, .int .i64 sk.cy] 63))
          have H1 := Lib.hid (own_below hst3.1 (bal (Below.refl _ _) (.cells #[.int .i64 sk.kind, .int .i64 sk.x, .int .i64 sk.y, .int .i64 sk.cx, .int .i64 sk.cy] 63)))
          have hql : (a ++ [({ ct with shut := true }, v)]).length = m := by rw [List.length_append]; exact hal
          have HQL := Lib.hid hql
          have HSTEP := Lib.hid hstep
          have hk4' : (sk.kind == 4) = true := by simp [hk4]
          have hm0 : 1 ≤ m := by omega
          have hB := bal (bset hbr (p := ⟨g, (m - 1) * 4 + 3, none⟩) hgb (.bool true)) (.cells #[.int .i64 sk.kind, .int .i64 sk.x, .int .i64 sk.y, .int .i64 sk.cx, .int .i64 sk.cy] 63)
          clear hst3 hset hql hstep hk1 hk4 hsl hge hal hm1
          go_wp2
          go_roundw
          case rel => exact ⟨k + 1, m, _, c1, a ++ [({ ct with shut := true }, v)], x, y, by omega, by omega, rfl, rfl, rfl, by go_num, hB, HQL, HSTEP, H1.out, hcv3⟩
          case measure => simp [intOf]; omega
        · have hown_e := hcv.1 (ct, v) (by simp)
          simp only at hown_e
          obtain ⟨Ae, ce, rfl⟩ := own_form hown_e
          have hesb := ct_es (l.take k) ct (by rw [hst.out]; simp)
          rw [List.length_take] at hesb
          obtain ⟨q, hq⟩ : ∃ q, ct.es.length = q := ⟨_, rfl⟩
          rw [hq] at hown hcv hown_e hesb e3
          have hstep : ctTo (l.take (k + 1)) = (a.map Prod.fst ++ [{ ct with es := ct.es ++ [⟨x, y, sk.kind == 3, sk.cx, sk.cy, sk.x, sk.y⟩] }], sk.x, sk.y) := by
            rw [HTK.out, map_snoc]; simp [ctStep, hk4, hk1, modLast_snoc]
          have HSTEP := Lib.hid hstep
          have HQ := Lib.hid hq
          have hk4' : (sk.kind == 4) = false := by simp [hk4]
          have hq3 : q ≤ 300 := by omega
          have HOE := Lib.hid hown_e
          obtain ⟨bt, hbt⟩ : ∃ bt, bt = (sk.kind == 3) := ⟨_, rfl⟩
          have hbt' := hbt.symm
          have HBT := Lib.hid hbt
          have hm0 : 1 ≤ m := by omega
          have HA := fun {wb w3 : World} {A2 c2} => edge_after (W := w1) (wb := wb) (w3 := w3) (t := 63) (A2 := A2) (c2 := c2) (cs := #[.int .i64 sk.kind, .int .i64 sk.x, .int .i64 sk.y, .int .i64 sk.cx, .int .i64 sk.cy]) (e := ⟨x, y, bt, sk.cx, sk.cy, sk.x, sk.y⟩) hown hcv hbr (by decide) hgb hq hm1 hm0
          have HAL := Lib.hid hal
          clear hstep hq hsl hge hesb hk1 hk4 hown_e hbt HIN hm1 hal
          go_wp2
          rw [ldEs_is]
          go_region_held3 (fun w' => w'.cell? ⟨wo.heap.size, 0, none⟩ = some (.int .i64 sk.kind) ∧ w'.cell? ⟨wo.heap.size, 1, none⟩ = some (.int .i64 sk.x) ∧ w'.cell? ⟨wo.heap.size, 2, none⟩ = some (.int .i64 sk.y) ∧ w'.cell? ⟨wo.heap.size, 3, none⟩ = some (.int .i64 sk.cx) ∧ w'.cell? ⟨wo.heap.size, 4, none⟩ = some (.int .i64 sk.cy)) (first | exact ⟨hby 0, hby 1, hby 2, hby 3, hby 4⟩ | exact ⟨hbx 0, hbx 1, hbx 2, hbx 3, hbx 4⟩ | go_keep)
            ((refine step_app (by rfl) _ _ 109 (by rfl) w1.heap.size edT1 (by rfl) (own_below HOE.out (by repeat (first | exact Below.refl _ _ | refine bal ?_ _ | refine bdrew ?_ | refine bdrewN ?_ _))) (edc ⟨x, y, bt, sk.cx, sk.cy, sk.x, sk.y⟩) (by rfl) (sl_newN _ (by simp) rfl) (oneCell_edc _) (by omega) (by simp; omega) ?_; intro A2 c2 w3 hown3 hg3 hat3; obtain ⟨hby, hbx, h2, h3, h4, h5, h6⟩ := HA (by repeat (first | exact Below.refl _ _ | refine bal ?_ _ | refine bdrew ?_ | refine bdrewN ?_ _)) hown3 hg3 hat3))
          all_goals
            have j1 : (w3.setCell ⟨g, (m - 1) * 4 + 2, none⟩ (.slice A2 (q + 1) c2)).cell? ⟨wo.heap.size, 1, none⟩ = some (.int .i64 sk.x) := hby 1
            have j2 : (w3.setCell ⟨g, (m - 1) * 4 + 2, none⟩ (.slice A2 (q + 1) c2)).cell? ⟨wo.heap.size, 2, none⟩ = some (.int .i64 sk.y) := hby 2
            clear hby hbx h2 h3 hown3 hg3 hat3
            generalize w3.setCell ⟨g, (m - 1) * 4 + 2, none⟩ (.slice A2 (q + 1) c2) = w4 at *
            have H4 := Lib.hid h4
            have H5 := Lib.hid h5
            have H6 := Lib.hid h6
            clear h4 h5 h6
            have hql : (a ++ [(({ ct with es := ct.es ++ [⟨x, y, bt, sk.cx, sk.cy, sk.x, sk.y⟩] } : Ct), Value.slice A2 (q + 1) c2)]).length = m := by rw [List.length_append]; exact HAL.out
            have HQL := Lib.hid hql
            have hstep : ctTo (l.take (k + 1)) = ((a ++ [(({ ct with es := ct.es ++ [⟨x, y, bt, sk.cx, sk.cy, sk.x, sk.y⟩] } : Ct), Value.slice A2 (q + 1) c2)]).map Prod.fst, sk.x, sk.y) := by rw [HSTEP.out, map_snoc, HBT.out]
            have HST := Lib.hid hstep
            clear hql hstep HA
            go_wp2
            go_quiet (fail)
            go_wp2
            go_roundw
            case rel => exact ⟨k + 1, m, _, c1, _, sk.x, sk.y, by omega, by omega, rfl, rfl, rfl, by go_num, bdrewN H6.out _, HQL, HST, own_below H4.out (bdrewN (Below.refl _ _) _), H5.out.below (bdrewN (Below.refl _ _) _)⟩
            case measure => simp [intOf]; omega
    · obtain rfl : k = n := by omega
      have htake : l.take k = l := List.take_of_length_le (by omega)
      rw [htake] at hst
      clear htake
      go_wp2
      go_ret
      refine ⟨A1, c1, ps, by rw [hpl.out]; rfl, by rw [hpl.out]; exact own_mono hown hb1.size, hcv.mono hb1.size, ?_, btr hb1 hbr⟩
      simp [ctsL, hok, hst.out]

theorem Contours_any (A : Option Addr) (n c : Nat) (l : List Sg) (cs : List Ct) (w : World) (hm : n ≤ 1000000) (h : Sl w 5 A n (sgs l)) (hcs : ctsL l = cs) :
    Calls Tryz.prog 123 #[.slice A n c] w fun e w' => ∃ A' c', e = .returned (.slice A' cs.length c') ∧ CtSl w' A' cs.length cs ∧ Below w.heap.size w w' := by
  have H := by
    cases hok : mayB l
    · exact Contours_no A n c l w hm h hok
    · exact Contours_yes A n c l w hm h hok
  refine H.mono ?_
  rintro e w' ⟨A', c', ps, rfl, hown, hcv, hps, hb⟩
  have := CtSl.of hown hcv
  have hl : ps.length = cs.length := by rw [← hcs, ← hps, List.length_map]
  rw [hps, hcs, hl] at this
  exact ⟨A', c', by rw [hl], this, hb⟩

end Go.Proofs.YtdfkbbcoolgfiaaGreat
