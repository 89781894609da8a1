/- tympanref25.Box. -/
import Derived.Test.YtaadajadeemndaaRefMay
import Derived.Test.YtaadajadeemndaaMBoxP
import Derived.Test.YtaadajadeemndaaMay2
import Derived.BigRegion
namespace Go.Proofs.Ytaadajadeemndaa
open Go.RowKit

theorem wid_comm (b : Bx) (x y u v : Int) : wid (wid b x y) u v = wid (wid b u v) x y := by
  unfold wid loI hiI
  rw [Bx.mk.injEq]
  refine ⟨?_, ?_, ?_, ?_⟩ <;> simp only <;> (repeat' split) <;> omega

set_option maxRecDepth 100000 in
set_option maxHeartbeats 4000000 in
theorem ref_Box_any (A : Option Addr) (n c : Nat) (l : List Sg) (p : Bx × Bool) (w : World) (hm : n ≤ 1000000) (h : Sl w 5 A n (sgs l)) (hp : boxL l = p) :
    Calls Try.prog 68 #[.slice A n c] w fun e w' => e = .returned (.tuple #[.int .i64 p.1.x0, .int .i64 p.1.y0, .int .i64 p.1.x1, .int .i64 p.1.y1, .bool p.2]) ∧ Below w.heap.size w w' := by
  have hl := h.sglen
  have HP := Lib.hid hp
  clear hp
  go_enter Try.func68, Try.ntmps68
  by_cases h0 : n = 0
  · have HZ := Lib.hid (show p = (⟨0, 0, 0, 0⟩, false) by rw [← HP.out, List.length_eq_zero_iff.1 (hl.trans h0)]; rfl)
    subst h0
    go_wp2
    (try simp only [Exit.inBlock, Exit.then])
    refine bodyPost_ret (v := .tuple #[.int .i64 0, .int .i64 0, .int .i64 0, .int .i64 0, .bool false]) (by simp [results, Try.results68, go_sem]) rfl ⟨by rw [HZ.out], Below.refl _ _⟩
  · have hn0 : ((n : Int) == 0) = false := by simp; omega
    have hn1 : (n == 0) = false := by simp; omega
    have hl0 : l ≠ [] := fun e => h0 (by rw [← hl, e]; rfl)
    have HL0 := Lib.hid hl0
    clear h0 hl0
    go_wp2_with fail
    refine (ref_May_any _ _ _ l _ hm h).mono ?_; rintro e w1 ⟨rfl, hb1⟩
    cases hok : mayB l
    · have HZ := Lib.hid (show p = (⟨0, 0, 0, 0⟩, false) by rw [← HP.out]; unfold boxL; rw [if_pos (.inr hok)])
      go_wp2
      (try simp only [Exit.inBlock, Exit.then])
      refine bodyPost_ret (v := .tuple #[.int .i64 0, .int .i64 0, .int .i64 0, .int .i64 0, .bool false]) (by simp [results, Try.results68, go_sem]) rfl ⟨by rw [HZ.out], hb1⟩
    · have hs1 := h.below hb1
      have hlp := List.length_pos_iff.2 HL0.out
      have HZ := Lib.hid (show p = (boxFrom l, true) by rw [← HP.out]; unfold boxL; rw [if_neg (by rw [hok]; simp [HL0.out])])
      have hbf := boxFrom_get l hlp
      have HBF := Lib.hid hbf
      have hz1 : 0 < n := by omega
      obtain ⟨b, off, rfl, hb, -, d1, d2, -⟩ := hs1.sg 0 (by omega) (by omega)
      rw [Nat.zero_mul, Nat.add_zero] at d1 d2
      obtain ⟨X, hX⟩ : ∃ X, X = (l[0]'(by omega)).x := ⟨_, rfl⟩
      obtain ⟨Y, hY⟩ : ∃ Y, Y = (l[0]'(by omega)).y := ⟨_, rfl⟩
      rw [← hX] at d1 HBF
      rw [← hY] at d2 HBF
      clear hX hY hbf h HP hok
      go_wp2_with fail
      go_quiet (fail)
      go_wp2_with fail
      go_loopw [7, 8, 9, 10, 11] (fun s7 s8 s9 s10 i wr => ∃ k bx, k ≤ n ∧ s7 = .int .i64 bx.x0 ∧ s8 = .int .i64 bx.y0 ∧ s9 = .int .i64 bx.x1 ∧ s10 = .int .i64 bx.y1 ∧ i = .int .i64 (k : Int) ∧ Hid (bx = (l.take k).foldl boxStep ⟨X, Y, X, Y⟩) ∧ Below w1.heap.size w1 wr) (fun _ _ _ _ i _ => n - (intOf i).toNat)
      case atStart => exact ⟨0, ⟨X, Y, X, Y⟩, by omega, rfl, rfl, rfl, rfl, rfl, rfl, bdrewN (Below.refl _ _) _⟩
      case round =>
        obtain ⟨wo, rfl⟩ : ∃ wo : World, wo = wr := ⟨_, rfl⟩
        obtain ⟨k, bx, hk, rfl, rfl, rfl, rfl, rfl, hst, hbr⟩ := hrel
        by_cases hlt : k < n
        · obtain ⟨b', off', e2, hb', d0, d1, d2, d3, d4⟩ := (hs1.below hbr).sg k hlt (by omega)
          injection e2 with e2; injection e2 with e3 e4; subst e3; subst e4
          have hst2 := fold_take boxStep ⟨X, Y, X, Y⟩ l k (by omega)
          rw [← hst.out] at hst2
          obtain ⟨sk, hsk⟩ : ∃ sk, sk = l[k]'(by omega) := ⟨_, rfl⟩
          rw [← hsk] at d0 d1 d2 d3 d4 hst2
          have HST2 := Lib.hid hst2
          clear hst2 hsk hst
          by_cases h4 : sk.kind = 4
          · have HS := Lib.hid (show bx = (l.take (k + 1)).foldl boxStep ⟨X, Y, X, Y⟩ by rw [HST2.out, boxStep, if_pos h4])
            have h4' : (sk.kind == 4) = true := by simp [h4]
            clear h4 HST2
            go_wp2_with fail
            go_roundw
            case rel => exact ⟨k + 1, bx, by omega, rfl, rfl, rfl, rfl, by go_num, HS, bal hbr _⟩
            case measure => simp [intOf]; omega
          · have h4' : (sk.kind == 4) = false := by simp [h4]
            by_cases h3 : sk.kind = 3
            · have HS := Lib.hid (show wid (wid bx sk.x sk.y) sk.cx sk.cy = (l.take (k + 1)).foldl boxStep ⟨X, Y, X, Y⟩ by rw [HST2.out, boxStep, if_neg h4, if_pos h3, wid_comm])
              have h3' : (sk.kind == 3) = true := by simp [h3]
              clear h4 h3 HST2
              go_wp2_with fail
              go_big_quiet (fail)
              rw [show (if sk.x < bx.x0 then sk.x else bx.x0) = (wid bx sk.x sk.y).x0 from rfl, show (if sk.y < bx.y0 then sk.y else bx.y0) = (wid bx sk.x sk.y).y0 from rfl, show (if bx.x1 < sk.x then sk.x else bx.x1) = (wid bx sk.x sk.y).x1 from rfl, show (if bx.y1 < sk.y then sk.y else bx.y1) = (wid bx sk.x sk.y).y1 from rfl]
              obtain ⟨by1, hby⟩ : ∃ v, v = wid bx sk.x sk.y := ⟨_, rfl⟩
              rw [← hby]
              have HS2 := Lib.hid (show wid by1 sk.cx sk.cy = (l.take (k + 1)).foldl boxStep ⟨X, Y, X, Y⟩ by rw [hby]; exact HS.out)
              clear hby HS
              go_wp2_with fail
              go_big_quiet (fail)
              rw [show (if sk.cx < by1.x0 then sk.cx else by1.x0) = (wid by1 sk.cx sk.cy).x0 from rfl, show (if sk.cy < by1.y0 then sk.cy else by1.y0) = (wid by1 sk.cx sk.cy).y0 from rfl, show (if by1.x1 < sk.cx then sk.cx else by1.x1) = (wid by1 sk.cx sk.cy).x1 from rfl, show (if by1.y1 < sk.cy then sk.cy else by1.y1) = (wid by1 sk.cx sk.cy).y1 from rfl]
              obtain ⟨bz1, hbz⟩ : ∃ v, v = wid by1 sk.cx sk.cy := ⟨_, rfl⟩
              rw [← hbz]
              have HS3 := Lib.hid (show bz1 = (l.take (k + 1)).foldl boxStep ⟨X, Y, X, Y⟩ by rw [hbz]; exact HS2.out)
              clear hbz HS2
              go_wp2_with fail
              go_roundw
              case rel => exact ⟨k + 1, bz1, by omega, rfl, rfl, rfl, rfl, by go_num, HS3, by repeat (first | exact hbr | refine bal ?_ _ | refine bdrew ?_ | refine bdrewN ?_ _)⟩
              case measure => simp [intOf]; omega
            · have HS := Lib.hid (show wid bx sk.x sk.y = (l.take (k + 1)).foldl boxStep ⟨X, Y, X, Y⟩ by rw [HST2.out, boxStep, if_neg h4, if_neg h3])
              have h3' : (sk.kind == 3) = false := by simp [h3]
              clear h4 h3 HST2
              go_wp2_with fail
              go_big_quiet (fail)
              rw [show (if sk.x < bx.x0 then sk.x else bx.x0) = (wid bx sk.x sk.y).x0 from rfl, show (if sk.y < bx.y0 then sk.y else bx.y0) = (wid bx sk.x sk.y).y0 from rfl, show (if bx.x1 < sk.x then sk.x else bx.x1) = (wid bx sk.x sk.y).x1 from rfl, show (if bx.y1 < sk.y then sk.y else bx.y1) = (wid bx sk.x sk.y).y1 from rfl]
              obtain ⟨by1, hby⟩ : ∃ v, v = wid bx sk.x sk.y := ⟨_, rfl⟩
              rw [← hby]
              have HS2 := Lib.hid (show by1 = (l.take (k + 1)).foldl boxStep ⟨X, Y, X, Y⟩ by rw [hby]; exact HS.out)
              clear hby HS
              go_wp2_with fail
              go_roundw
              case rel => exact ⟨k + 1, by1, by omega, rfl, rfl, rfl, rfl, by go_num, HS2, by repeat (first | exact hbr | refine bal ?_ _ | refine bdrew ?_ | refine bdrewN ?_ _)⟩
              case measure => simp [intOf]; omega
        · obtain rfl : k = n := by omega
          have hbl : bx = boxFrom l := by rw [HBF.out, hst.out, List.take_of_length_le (by omega)]
          have HBL := Lib.hid hbl
          clear hbl hst
          go_wp2
          (try simp only [Exit.inBlock, Exit.then])
          refine bodyPost_ret (v := .tuple #[.int .i64 bx.x0, .int .i64 bx.y0, .int .i64 bx.x1, .int .i64 bx.y1, .bool true]) (by simp [results, Try.results68, go_sem]) rfl ⟨by rw [HZ.out, HBL.out], btr hb1 hbr⟩

end Go.Proofs.Ytaadajadeemndaa
