/- tympanref40: moved. -/
import Derived.Test.YtdfkbbcoolgfiaaGreatFont6
import Derived.Test.YtdfkbbcoolgfiaaGreatMSt
namespace Go.Proofs.YtdfkbbcoolgfiaaGreat
open Go.RowKit Go.Maps Go.BigFrame

set_option maxRecDepth 100000 in
set_option maxHeartbeats 4000000 in
theorem moved_any (M2 : Mt) (D : Option Addr) (n c : Nat) (l : List Sg) (R : List Sg × Int) (w : World) (hl : Sl w 5 D n (sgs l)) (hm : mayB l = true) (hR : plL M2 [] l = R) :
    Calls Tryz.prog 147 #[.slice D n c, mtv M2] w fun e w' => Below w.heap.size w w' ∧ ∃ A' c', e = .returned (.tuple #[.slice A' R.1.length c', .int .i64 R.2]) ∧
      w'.ownsRow w.heap.size 63 5 (.slice A' R.1.length c') R.1.length (sgs R.1) := by
  have hnl := hl.sglen
  have hn3 : n ≤ 300 := by rw [← hnl]; simp only [mayB, Bool.and_eq_true, decide_eq_true_eq] at hm; exact hm.1
  have HP := Lib.hid (may_pieces hm)
  have HR := Lib.hid hR
  rw [vm M2]
  obtain ⟨w6, hw6⟩ : ∃ w6 : World, w6 = w.alloc (.cells (mtC M2).toArray 23) := ⟨_, rfl⟩
  have G6 : Below w.heap.size w w6 := by rw [hw6]; exact bal (Below.refl _ _) _
  have hM6 : BC w6 w.heap.size (mtC M2) := by rw [hw6]; exact BC.new (mtC M2) 23 rfl
  clear hR hm
  go_enter Tryz.func147, Tryz.ntmps147
  go_upto_region 1 with (fail)
  rw [← hw6]
  clear hw6
  go_wp2_with fail
  have hs6 := hl.below G6
  clear hl
  go_loopw [6, 7] (fun out i wr => ∃ k A' c' O, k ≤ n ∧ out = .slice A' k c' ∧ i = .int .i64 (k : Int) ∧ Below w6.heap.size w6 wr ∧ Hid (R = plL M2 O (l.drop k)) ∧
    wr.ownsRow w6.heap.size 63 5 (.slice A' k c') k (sgs O)) (fun _ i _ => n - (intOf i).toNat)
  case atStart => exact ⟨0, none, 0, [], by omega, rfl, rfl, Below.refl _ _, Lib.hid (by rw [← HR.out]; rfl), own_nil⟩
  case round =>
    obtain ⟨wo, rfl⟩ : ∃ wo : World, wo = wr := ⟨_, rfl⟩
    obtain ⟨k, A2, c2, O, hk, rfl, rfl, hbr, hal, hown⟩ := hrel
    have hgr := hbr.size
    by_cases hlt : k < n
    · have hkl : k < l.length := by omega
      obtain ⟨b, off, rfl, hb, d0, d1, d2, d3, d4⟩ := (hs6.below hbr).sg k hlt hkl
      have hst := plL_step (M := M2) (O := O) hkl
      have hpc := HP.out l[k] (List.getElem_mem hkl)
      obtain ⟨sk, hsk⟩ : ∃ s, s = l[k] := ⟨_, rfl⟩
      rw [← hsk] at d0 d1 d2 d3 d4 hst hpc
      obtain ⟨⟨S9, r9⟩, hS9⟩ : ∃ p, plS M2 sk = p := ⟨_, rfl⟩
      rw [hS9] at hst
      have HST := Lib.hid (hal.out.trans hst)
      have HS9 := Lib.hid hS9
      obtain ⟨q1, q2, q3, q4⟩ := pieceB_co hpc
      rw [co_iff] at q1 q2 q3 q4
      have f1 : IntKind.i64.wrap (sk.x * 65536) = sk.x * 65536 := IntWalk.i64_in _ (by omega)
      have f2 : IntKind.i64.wrap (sk.y * 65536) = sk.y * 65536 := IntWalk.i64_in _ (by omega)
      have f3 : IntKind.i64.wrap (sk.cx * 65536) = sk.cx * 65536 := IntWalk.i64_in _ (by omega)
      have f4 : IntKind.i64.wrap (sk.cy * 65536) = sk.cy * 65536 := IntWalk.i64_in _ (by omega)
      clear hst hsk hS9 q1 q2 q3 q4 hpc hal
      have hMo := hM6.below hbr
      have hgo : w.heap.size < wo.heap.size := hMo.lt
      obtain ⟨⟨p1, p2, p3⟩, hp⟩ : ∃ p, pointM M2 (sk.x * 65536) (sk.y * 65536) = p := ⟨_, rfl⟩
      have HPT := Lib.hid fun W => rPoint_any M2 (sk.x * 65536) (sk.y * 65536) W
      rw [hp] at HPT
      have HPP := Lib.hid hp
      simp only [vm, vP] at HPT
      clear hp
      by_cases h3 : sk.kind = 3
      · have h3' : (sk.kind == 3) = true := by simp [h3]
        have h4' : (sk.kind != 4) = true := by simp [h3]
        obtain ⟨w7, hw7⟩ : ∃ W, W = wo.alloc (.cells (sgc sk).toArray 63) := ⟨_, rfl⟩
        have HW7 := Lib.hid hw7
        have Q7 : Below wo.heap.size wo w7 := by rw [hw7]; exact bal (Below.refl _ _) _
        have hS7 : BC w7 wo.heap.size (sgc sk) := by rw [hw7]; exact BC.new _ 63 rfl
        have hM7 := hMo.below Q7
        have s0 := hS7.c 0 _ rfl
        have s1 := hS7.c 1 _ rfl
        have s2 := hS7.c 2 _ rfl
        have s3 := hS7.c 3 _ rfl
        have s4 := hS7.c 4 _ rfl
        obtain ⟨⟨z1, z2, z3⟩, hz⟩ : ∃ p, pointM M2 (sk.cx * 65536) (sk.cy * 65536) = p := ⟨_, rfl⟩
        have HZT := Lib.hid fun W => rPoint_any M2 (sk.cx * 65536) (sk.cy * 65536) W
        rw [hz] at HZT
        have HZZ := Lib.hid hz
        simp only [vm, vP] at HZT
        clear hz hw7
        have HE1 := Lib.hid (show plS M2 sk = if z3 ≠ 0 then (sk, z3) else (⟨sk.kind, p1, p2, z1, z2⟩, p3) by unfold plS; rw [if_pos h3, HZZ.out, HPP.out])
        clear h3
        go_upto_region 7 with (fail)
        rw [show wo.alloc (.cells #[.int .i64 sk.kind, .int .i64 sk.x, .int .i64 sk.y, .int .i64 sk.cx, .int .i64 sk.cy] 63) = w7 from HW7.out.symm]
        go_wp2_with (first
          | (refine wpList_load_rec rfl _ _ rfl (w.heap.size) rfl _ 6 matT2 hM7 rfl ?_)
          | fail)
        refine (HZT.out _).mono ?_; rintro e w8 ⟨rfl, b8⟩
        have Q8 := btr Q7 b8
        have S8 := hS7.below b8
        have g8 : wo.heap.size < w8.heap.size := S8.lt
        clear s0 s1 s2 s3 s4
        have u1 := S8.c 3 _ rfl
        have u2 := S8.c 4 _ rfl
        have n1 := S8.nf 3
        have n2 := S8.nf 4
        have hQ := bset (bset Q8 (p := ⟨wo.heap.size, 3, none⟩) (by show wo.heap.size ≤ wo.heap.size; omega) (.int .i64 z1)) (p := ⟨wo.heap.size, 4, none⟩) (by show wo.heap.size ≤ wo.heap.size; omega) (.int .i64 z2)
        have hS := (S8.set 3 (.int .i64 z1) (by show 3 < 5; omega)).set 4 (.int .i64 z2) (by show 4 < 5; omega)
        have hSS : BC ((w8.setCell ⟨wo.heap.size, 3, none⟩ (.int .i64 z1)).setCell ⟨wo.heap.size, 4, none⟩ (.int .i64 z2)) wo.heap.size (sgc ⟨sk.kind, sk.x, sk.y, z1, z2⟩) := hS
        by_cases hz3 : z3 = 0
        · have HES := Lib.hid (show S9 = ⟨sk.kind, p1, p2, z1, z2⟩ ∧ r9 = p3 by have := HS9.out; rw [HE1.out, if_neg (by simpa using hz3)] at this; simp only [Prod.mk.injEq] at this; exact ⟨this.1.symm, this.2.symm⟩)
          have hz3' : (z3 != 0) = false := by simp [hz3]
          have hz3'' : (z3 == 0) = true := by simp [hz3]
          clear hz3 HE1
          go_upto_region 9 with (fail)
          obtain ⟨w9, hw9⟩ : ∃ W, W = (w8.setCell ⟨wo.heap.size, 3, none⟩ (.int .i64 z1)).setCell ⟨wo.heap.size, 4, none⟩ (.int .i64 z2) := ⟨_, rfl⟩
          rw [← hw9] at hQ hSS ⊢
          clear hw9 hS u1 u2 n1 n2
          have hQ9 := hQ
          have hM9 := hMo.below hQ9
          have hS9 := hSS
          clear hQ hSS
          have s0 := hS9.c 0 _ rfl
          have s1 := hS9.c 1 _ rfl
          have s2 := hS9.c 2 _ rfl
          have s3 := hS9.c 3 _ rfl
          have s4 := hS9.c 4 _ rfl
          go_wp2_with (first
            | (refine wpList_load_rec rfl _ _ rfl w.heap.size rfl _ 6 matT2 hM9 rfl ?_)
            | fail)
          refine (HPT.out _).mono ?_; rintro e w10 ⟨rfl, b10⟩
          have Q10 := btr hQ9 b10
          have S10 := hS9.below b10
          have g10 : wo.heap.size < w10.heap.size := S10.lt
          clear s0 s1 s2 s3 s4
          have u1 := S10.c 1 _ rfl
          have u2 := S10.c 2 _ rfl
          have n1 := S10.nf 1
          have n2 := S10.nf 2
          have hQ := bset (bset Q10 (p := ⟨wo.heap.size, 1, none⟩) (by show wo.heap.size ≤ wo.heap.size; omega) (.int .i64 p1)) (p := ⟨wo.heap.size, 2, none⟩) (by show wo.heap.size ≤ wo.heap.size; omega) (.int .i64 p2)
          have hS := (S10.set 1 (.int .i64 p1) (by show 1 < 5; omega)).set 2 (.int .i64 p2) (by show 2 < 5; omega)
          have hSS : BC ((w10.setCell ⟨wo.heap.size, 1, none⟩ (.int .i64 p1)).setCell ⟨wo.heap.size, 2, none⟩ (.int .i64 p2)) wo.heap.size (sgc ⟨sk.kind, p1, p2, z1, z2⟩) := hS
          by_cases hp3 : p3 = 0
          · have HNX : Hid (R = plL M2 (O ++ [⟨sk.kind, p1, p2, z1, z2⟩]) (l.drop (k + 1))) := Lib.hid (by have := HST.out; rw [HES.out.1, HES.out.2, if_neg (by simpa using hp3)] at this; exact this)
            have hp3' : (p3 != 0) = false := by simp [hp3]
            clear hp3
            go_upto_region 11 with (fail)
            obtain ⟨w11, hw11⟩ : ∃ W, W = (w10.setCell ⟨wo.heap.size, 1, none⟩ (.int .i64 p1)).setCell ⟨wo.heap.size, 2, none⟩ (.int .i64 p2) := ⟨_, rfl⟩
            rw [← hw11] at hQ hSS ⊢
            clear hw11 hS u1 u2 n1 n2
            have s0 := hSS.c 0 _ rfl
            have s1 := hSS.c 1 _ rfl
            have s2 := hSS.c 2 _ rfl
            have s3 := hSS.c 3 _ rfl
            have s4 := hSS.c 4 _ rfl
            go_wp2_with (first
              | (at_builtin; refine wpList_app rfl _ _ 24 rfl w6.heap.size sgT rfl (own_below hown (bal hQ _)) (sgc (⟨sk.kind, p1, p2, z1, z2⟩ : Sg)) rfl (sl_newN _ (by simp) rfl) (oneCell_sgc _) (by omega) (bal (btr hbr hQ) _).size ?_; intro A3 c3 w12 hown3 hg3 hat3)
              | fail)
            go_roundw
            case rel => exact ⟨k + 1, A3, c3, O ++ [(⟨sk.kind, p1, p2, z1, z2⟩ : Sg)], by omega, rfl, by go_num, grown_below (bal (btr hbr hQ) _) hg3 (own_below hown (bal hQ _)), HNX, by rw [sgs_app, sgs_one]; exact hown3⟩
            case measure => simp [intOf]; omega
          · have HER : Hid (R = ([], p3)) := Lib.hid (by have := HST.out; rw [HES.out.1, HES.out.2, if_pos (by simpa using hp3)] at this; exact this)
            have hp3' : (p3 != 0) = true := by simp [hp3]
            clear hp3 hSS hS
            go_wp2
            go_ret2
            rw [HER.out]
            exact ⟨btr G6 (btr hbr hQ), none, 0, rfl, own_nil⟩
        · have HER : Hid (R = ([], z3)) := Lib.hid (by
            have h1 := HS9.out
            rw [HE1.out, if_pos (by simpa using hz3)] at h1
            simp only [Prod.mk.injEq] at h1
            have := HST.out
            rw [← h1.2, if_pos (by simpa using hz3)] at this; exact this)
          have hz3' : (z3 != 0) = true := by simp [hz3]
          have hz3'' : (z3 == 0) = false := by simp [hz3]
          clear hz3 hSS hS
          go_wp2
          go_ret2
          rw [HER.out]
          exact ⟨btr G6 (btr hbr hQ), none, 0, rfl, own_nil⟩
      · have h3' : (sk.kind == 3) = false := by simp [h3]
        obtain ⟨w7, hw7⟩ : ∃ W, W = wo.alloc (.cells (sgc sk).toArray 63) := ⟨_, rfl⟩
        have HW7 := Lib.hid hw7
        have Q7 : Below wo.heap.size wo w7 := by rw [hw7]; exact bal (Below.refl _ _) _
        have hS7 : BC w7 wo.heap.size (sgc sk) := by rw [hw7]; exact BC.new _ 63 rfl
        have hM7 := hMo.below Q7
        have s0 := hS7.c 0 _ rfl
        have s1 := hS7.c 1 _ rfl
        have s2 := hS7.c 2 _ rfl
        have s3 := hS7.c 3 _ rfl
        have s4 := hS7.c 4 _ rfl
        clear hw7
        by_cases h4 : sk.kind = 4
        · have h4' : (sk.kind != 4) = false := by simp [h4]
          have HE := Lib.hid (show S9 = sk ∧ r9 = 0 by have := HS9.out; unfold plS at this; rw [if_neg h3, if_pos h4] at this; simp only [Prod.mk.injEq] at this; exact ⟨this.1.symm, this.2.symm⟩)
          clear h3 h4
          go_upto_region 7 with (fail)
          rw [show wo.alloc (.cells #[.int .i64 sk.kind, .int .i64 sk.x, .int .i64 sk.y, .int .i64 sk.cx, .int .i64 sk.cy] 63) = w7 from HW7.out.symm]
          have HNX : Hid (R = plL M2 (O ++ [sk]) (l.drop (k + 1))) := Lib.hid (by have := HST.out; rw [HE.out.1, HE.out.2] at this; exact this)
          go_wp2_with (first
            | (at_builtin; refine wpList_app rfl _ _ 24 rfl w6.heap.size sgT rfl (own_below hown (bal Q7 _)) (sgc sk) rfl (sl_newN _ (by simp) rfl) (oneCell_sgc _) (by omega) (bal (btr hbr Q7) _).size ?_; intro A3 c3 w12 hown3 hg3 hat3)
            | fail)
          go_roundw
          case rel => exact ⟨k + 1, A3, c3, O ++ [sk], by omega, rfl, by go_num, grown_below (bal (btr hbr Q7) _) hg3 (own_below hown (bal Q7 _)), HNX, by rw [sgs_app, sgs_one]; exact hown3⟩
          case measure => simp [intOf]; omega
        · have h4' : (sk.kind != 4) = true := by simp [h4]
          have HES := Lib.hid (show S9 = ⟨sk.kind, p1, p2, sk.cx, sk.cy⟩ ∧ r9 = p3 by have := HS9.out; unfold plS at this; rw [if_neg h3, if_neg h4, HPP.out] at this; simp only [Prod.mk.injEq] at this; exact ⟨this.1.symm, this.2.symm⟩)
          clear h3 h4
          go_upto_region 7 with (fail)
          rw [show wo.alloc (.cells #[.int .i64 sk.kind, .int .i64 sk.x, .int .i64 sk.y, .int .i64 sk.cx, .int .i64 sk.cy] 63) = w7 from HW7.out.symm]
          go_wp2_with (first
            | (refine wpList_load_rec rfl _ _ rfl w.heap.size rfl _ 6 matT2 hM7 rfl ?_)
            | fail)
          refine (HPT.out _).mono ?_; rintro e w10 ⟨rfl, b10⟩
          have Q10 := btr Q7 b10
          have S10 := hS7.below b10
          have g10 : wo.heap.size < w10.heap.size := S10.lt
          clear s0 s1 s2 s3 s4
          have u1 := S10.c 1 _ rfl
          have u2 := S10.c 2 _ rfl
          have n1 := S10.nf 1
          have n2 := S10.nf 2
          have hQ := bset (bset Q10 (p := ⟨wo.heap.size, 1, none⟩) (by show wo.heap.size ≤ wo.heap.size; omega) (.int .i64 p1)) (p := ⟨wo.heap.size, 2, none⟩) (by show wo.heap.size ≤ wo.heap.size; omega) (.int .i64 p2)
          have hS := (S10.set 1 (.int .i64 p1) (by show 1 < 5; omega)).set 2 (.int .i64 p2) (by show 2 < 5; omega)
          have hSS : BC ((w10.setCell ⟨wo.heap.size, 1, none⟩ (.int .i64 p1)).setCell ⟨wo.heap.size, 2, none⟩ (.int .i64 p2)) wo.heap.size (sgc ⟨sk.kind, p1, p2, sk.cx, sk.cy⟩) := hS
          by_cases hp3 : p3 = 0
          · have HNX : Hid (R = plL M2 (O ++ [⟨sk.kind, p1, p2, sk.cx, sk.cy⟩]) (l.drop (k + 1))) := Lib.hid (by have := HST.out; rw [HES.out.1, HES.out.2, if_neg (by simpa using hp3)] at this; exact this)
            have hp3' : (p3 != 0) = false := by simp [hp3]
            clear hp3
            go_upto_region 11 with (fail)
            obtain ⟨w11, hw11⟩ : ∃ W, W = (w10.setCell ⟨wo.heap.size, 1, none⟩ (.int .i64 p1)).setCell ⟨wo.heap.size, 2, none⟩ (.int .i64 p2) := ⟨_, rfl⟩
            rw [← hw11] at hQ hSS ⊢
            clear hw11 hS u1 u2 n1 n2
            have s0 := hSS.c 0 _ rfl
            have s1 := hSS.c 1 _ rfl
            have s2 := hSS.c 2 _ rfl
            have s3 := hSS.c 3 _ rfl
            have s4 := hSS.c 4 _ rfl
            go_wp2_with (first
              | (at_builtin; refine wpList_app rfl _ _ 24 rfl w6.heap.size sgT rfl (own_below hown (bal hQ _)) (sgc (⟨sk.kind, p1, p2, sk.cx, sk.cy⟩ : Sg)) rfl (sl_newN _ (by simp) rfl) (oneCell_sgc _) (by omega) (bal (btr hbr hQ) _).size ?_; intro A3 c3 w12 hown3 hg3 hat3)
              | fail)
            go_roundw
            case rel => exact ⟨k + 1, A3, c3, O ++ [(⟨sk.kind, p1, p2, sk.cx, sk.cy⟩ : Sg)], by omega, rfl, by go_num, grown_below (bal (btr hbr hQ) _) hg3 (own_below hown (bal hQ _)), HNX, by rw [sgs_app, sgs_one]; exact hown3⟩
            case measure => simp [intOf]; omega
          · have HER : Hid (R = ([], p3)) := Lib.hid (by have := HST.out; rw [HES.out.1, HES.out.2, if_pos (by simpa using hp3)] at this; exact this)
            have hp3' : (p3 != 0) = true := by simp [hp3]
            clear hp3 hSS hS
            go_wp2
            go_ret2
            rw [HER.out]
            exact ⟨btr G6 (btr hbr hQ), none, 0, rfl, own_nil⟩
    · obtain rfl : k = n := by omega
      have HE := Lib.hid (show R = (O, 0) by rw [hal.out, List.drop_of_length_le (by omega)]; rfl)
      have hO := (own_sl hown).sglen
      clear hal
      go_wp2
      go_ret2
      rw [HE.out]
      simp only
      rw [hO]
      exact ⟨btr G6 hbr, A2, c2, rfl, own_mono hown G6.size⟩
end Go.Proofs.YtdfkbbcoolgfiaaGreat
