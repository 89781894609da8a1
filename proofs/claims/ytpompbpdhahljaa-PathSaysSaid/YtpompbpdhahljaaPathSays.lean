/- The walk of PathSays: it returns true. -/
import Derived.Test.YtpompbpdhahljaaKnown25
import Derived.Test.YtpompbpdhahljaaFlatSays
import Derived.Test.YtpompbpdhahljaaBox2
import Derived.Test.YtpompbpdhahljaaRefAdd
import Derived.Test.YtpompbpdhahljaaRefBox
import Derived.Test.YtpompbpdhahljaaRefEdges
import Derived.Test.YtpompbpdhahljaaRefBack
namespace Go.Proofs.Ytpompbpdhahljaa
open Go.RowKit

set_option maxRecDepth 100000 in
set_option maxHeartbeats 8000000 in
theorem PathSays_any (A : Option Addr) (n c : Nat) (l : List Sg) (w : World) (h : Sl w 5 A n (sgs l)) (hn : n ≤ 9223372036854775807) :
    Calls Try.prog 8 #[.slice A n c] w fun e w' => e = .returned (.bool true) ∧ Below w.heap.size w w' := by
  obtain ⟨⟨px, py, pk⟩, hpt⟩ : ∃ p, ptL l = p := ⟨_, rfl⟩
  obtain ⟨⟨bx, bk⟩, hbx⟩ : ∃ p, boxL l = p := ⟨_, rfl⟩
  obtain ⟨cs, hcs⟩ : ∃ cs, ctsL l = cs := ⟨_, rfl⟩
  obtain ⟨el, hel⟩ : ∃ el, edgesL l = el := ⟨_, rfl⟩
  obtain ⟨bl, hbl⟩ : ∃ bl, backL l = bl := ⟨_, rfl⟩
  have hbl3 : bl.length ≤ 300 := by rw [← hbl]; exact backL_len_le l
  have HPT := Lib.hid hpt
  have HBX := Lib.hid hbx
  have HCS := Lib.hid hcs
  have HEL := Lib.hid hel
  have HBL := Lib.hid hbl
  clear hpt hbx hcs hel hbl
  go_enter Try.func8, Try.ntmps8
  go_wp2_with fail
  refine (known25_any _).mono ?_; rintro r w1 ⟨rfl, hb1⟩
  have P1 := h.below hb1
  have hl := P1.sglen
  clear h
  go_wp2_with fail
  refine (Few_any _ _ _ _ hn).mono ?_; rintro r w2 ⟨rfl, rfl⟩
  by_cases hn3 : n ≤ 320
  rotate_left
  · have hd : decide ((n : Int) ≤ 320) = false := by simp; omega
    rw [hd]
    go_wp2
    go_ret
    exact ⟨rfl, hb1⟩
  have hd : decide ((n : Int) ≤ 320) = true := by simp; omega
  rw [hd]
  clear hd
  have hcn : cs.length ≤ 320 := by have := cts_len l; rw [HCS.out] at this; omega
  have hce : ∀ c ∈ cs, c.es.length ≤ 1000000 := fun c hc => by have := cts_es l c (by rw [HCS.out]; exact hc); omega
  have HCE := Lib.hid hce
  clear hce
  go_wp2_with fail
  refine (Point_any _ _ _ l _ _ (by omega) P1 HPT.out).mono ?_; rintro r w2 ⟨rfl, hb2⟩
  have P2 := P1.below hb2
  have B2 := btr hb1 hb2
  clear P1 hb1 hb2
  go_wp2_with fail
  refine (ref_Point_any _ _ _ l _ _ (by omega) P2 HPT.out).mono ?_; rintro r w3 ⟨rfl, hb3⟩
  have P3 := P2.below hb3
  have B3 := btr B2 hb3
  clear P2 B2 hb3
  go_wp2_with fail
  refine (Box_any _ _ _ l _ _ (by omega) P3 HBX.out).mono ?_; rintro r w4 ⟨rfl, hb4⟩
  have P4 := P3.below hb4
  have B4 := btr B3 hb4
  clear P3 B3 hb4
  go_wp2_with fail
  refine (ref_Box_any _ _ _ l _ _ (by omega) P4 HBX.out).mono ?_; rintro r w5 ⟨rfl, hb5⟩
  have P5 := P4.below hb5
  have B5 := btr B4 hb5
  clear P4 B4 hb5
  obtain ⟨my, hmy⟩ : ∃ b, b = mayB l := ⟨_, rfl⟩
  go_wp2_with fail
  refine (path_May_any _ _ _ l _ (by omega) P5).mono ?_; rintro r w6 ⟨rfl, hb6⟩
  have P6 := P5.below hb6
  have B6 := btr B5 hb6
  clear P5 B5 hb6
  go_wp2_with fail
  refine (ref_May_any _ _ _ l _ (by omega) P6).mono ?_; rintro r w7 ⟨rfl, hb7⟩
  rw [← hmy]
  have P7 := P6.below hb7
  have B7 := btr B6 hb7
  clear P6 B6 hb7 hmy
  have hmm : (my == my) = true := by simp
  go_wp2_with fail
  refine (Contours_any _ _ _ l cs _ (by omega) P7 HCS.out).mono ?_; rintro r w8 ⟨A8, c8, rfl, hc8, hb8⟩
  have P8 := P7.below hb8
  have B8 := btr B7 hb8
  clear P7 B7 hb8
  go_wp2_with fail
  refine (ref_Contours_any _ _ _ l cs _ (by omega) P8 HCS.out).mono ?_; rintro r w9 ⟨A9, c9, rfl, hc9, hb9⟩
  have P9 := P8.below hb9
  have B9 := btr B8 hb9
  have hd9 := hc8.below hb9
  clear P8 B8 hb9 hc8
  go_wp2_with fail
  refine (contours_any _ _ _ _ _ cs _ (by omega) HCE.out hd9 hc9).mono ?_; rintro r w10 ⟨rfl, q10, rfl⟩
  have P10 := P9.drewN q10
  have B10 := bdrewN B9 q10
  generalize hw10 : w9.drewN q10 = w10 at *
  clear hw10 P9 B9 hd9 hc9
  go_wp2_with fail
  refine (PEdges_any _ _ _ l el _ (by omega) P10 HEL.out).mono ?_; rintro r w11 ⟨A11, c11, rfl, ho11, hb11, hel5⟩
  have P11 := P10.below hb11
  have B11 := btr B10 hb11
  have S11 := own_sl ho11
  clear P10 B10 hb11 ho11
  go_wp2_with fail
  refine (ref_Edges_any _ _ _ l el _ (by omega) P11 HEL.out).mono ?_; rintro r w12 ⟨A12, c12, rfl, ho12, hb12, -⟩
  have P12 := P11.below hb12
  have B12 := btr B11 hb12
  have S12 := own_sl ho12
  have T12 := S11.below hb12
  clear P11 B11 hb12 ho12 S11
  go_wp2_with fail
  refine (sameEd_any _ _ _ _ _ _ el _ (by omega) T12 S12).mono ?_; rintro r w13 ⟨rfl, q13, rfl⟩
  have P13 := P12.drewN q13
  have B13 := bdrewN B12 q13
  generalize hw13 : w12.drewN q13 = w13 at *
  clear hw13 P12 B12 S12 T12
  go_wp2_with fail
  refine (Back_any _ _ _ l bl _ (by omega) P13 HBL.out).mono ?_; rintro r w14 ⟨A14, c14, rfl, ho14, hb14⟩
  have P14 := P13.below hb14
  have B14 := btr B13 hb14
  have S14 := own_sl ho14
  clear P13 B13 hb14 ho14
  go_wp2_with fail
  refine (ref_Back_any _ _ _ l bl _ (by omega) P14 HBL.out).mono ?_; rintro r w15 ⟨A15, c15, rfl, ho15, hb15⟩
  have B15 := btr B14 hb15
  have S15 := own_sl ho15
  have T15 := S14.below hb15
  clear P14 B14 hb15 ho15 S14
  go_wp2_with fail
  refine (sameSg_any _ _ _ _ _ _ bl _ (by omega) T15 S15).mono ?_; rintro r w16 ⟨rfl, q16, rfl⟩
  go_wp2
  go_ret
  exact ⟨by simp, bdrewN B15 q16⟩

end Go.Proofs.Ytpompbpdhahljaa
