/- The walk of FlatBack: it returns true. -/
import Derived.Test.YtpompbpdhahljaaFlatMade
import Derived.Test.YtpompbpdhahljaaBack
namespace Go.Proofs.Ytpompbpdhahljaa
open Go.RowKit

theorem flatE_len {l q : List Sg} {e : Int} (h : flatE l = (q, e)) : q.length ≤ 300 := by
  unfold flatE at h
  split at h
  · injection h with h _; subst h; simp
  · split at h
    · injection h with h _; subst h; simp
    · injection h with h _; subst h; omega

set_option maxRecDepth 100000 in
set_option maxHeartbeats 2000000 in
theorem FlatBack_any (A : Option Addr) (n c : Nat) (w : World) (h : InA w A n) (hnc : n ≤ c) (hcm : c ≤ 9223372036854775807) :
    Calls Try.prog 11 #[.slice A n c] w fun e w' => e = .returned (.bool true) ∧ Below w.heap.size w w' := by
  go_enter Try.func11, Try.ntmps11
  go_wp2_with fail
  refine (known27_any _).mono ?_; rintro e w1 ⟨rfl, hb1⟩
  go_wp2_with fail
  refine (Made_any A n c true w1 (h.below hb1) hnc hcm).mono ?_; rintro e w2 ⟨l, A2, c2, rfl, hown2, hmd, hb2⟩
  have hp2 := own_sl hown2
  have hmay := hmd.may
  have B2 : Below w.heap.size w w2 := btr hb1 hb2
  have hl12 := hmd.2.1
  obtain ⟨bl, hbl⟩ : ∃ bl, backL l = bl := ⟨_, rfl⟩
  have hbl3 : bl.length ≤ 300 := by rw [← hbl]; exact backL_len_le l
  obtain ⟨⟨q, f1⟩, hq⟩ : ∃ p, flatE bl = p := ⟨_, rfl⟩
  obtain ⟨⟨r, f2⟩, hr⟩ : ∃ p, flatE l = p := ⟨_, rfl⟩
  obtain ⟨hff, hqr⟩ := flat_back (q := q) (r := r) (e := f1) (f := f2) hmay (by rw [hbl, hq]) hr
  subst hff
  have hq3 := flatE_len hq
  have hr3 := flatE_len hr
  have hee : (f1 == f1) = true := by simp
  have HBL := Lib.hid hbl
  have HQ := Lib.hid hq
  have HR := Lib.hid hr
  have HQR := Lib.hid hqr.symm
  clear hb1 hb2 hown2 hmd hbl hq hr hqr hmay
  go_wp2_with fail
  refine (Back_any _ _ _ l bl _ (by omega) hp2 HBL.out).mono ?_; rintro e w3 ⟨A3, c3, rfl, hown3, hb3⟩
  have hp3 := hp2.below hb3
  have hb3l := own_sl hown3
  have B3 : Below w.heap.size w w3 := btr B2 hb3
  clear hb3 hown3 hp2 B2
  go_wp2_with fail
  refine (flat_Path_any _ _ _ bl _ _ (by omega) hb3l HQ.out).mono ?_; rintro e w4 ⟨A4, c4, rfl, hown4, hb4⟩
  have hp4 := hp3.below hb4
  have hq4 := own_sl hown4
  have B4 : Below w.heap.size w w4 := btr B3 hb4
  clear hb4 hown4 hp3 B3 hb3l
  go_wp2_with fail
  refine (flat_Path_any _ _ _ l _ _ (by omega) hp4 HR.out).mono ?_; rintro e w5 ⟨A5, c5, rfl, hown5, hb5⟩
  have hq5 := hq4.below hb5
  have hr5 := own_sl hown5
  have B5 : Below w.heap.size w w5 := btr B4 hb5
  clear hb5 hown5 hp4 B4 hq4
  go_wp2_with fail
  refine (Back_any _ _ _ r q _ (by omega) hr5 HQR.out).mono ?_; rintro e w6 ⟨A6, c6, rfl, hown6, hb6⟩
  have hq6 := hq5.below hb6
  have hs6 := own_sl hown6
  have B6 : Below w.heap.size w w6 := btr B5 hb6
  clear hb6 hown6 hq5 hr5 B5
  go_wp2_with fail
  refine (sameSg_any _ _ _ _ _ _ q _ (by omega) hq6 hs6).mono ?_; rintro e w7 ⟨rfl, q7, rfl⟩
  go_wp2
  go_ret
  exact ⟨rfl, bdrewN B6 _⟩

end Go.Proofs.Ytpompbpdhahljaa
