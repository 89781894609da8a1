/- path.May. -/
import Derived.Test.YtaadajadeemndaaMay
namespace Go.Proofs.Ytaadajadeemndaa
open Go.RowKit

theorem mayB_bool (l : List Sg) (h : l.length ≤ 300) : mayB l = mayFrom 0 l := by simp [mayB, h]
theorem mayFrom_step (l : List Sg) (k : Nat) (last : Int) (h : k < l.length) (hm : mayFrom 0 l = mayFrom last (l.drop k)) :
    (rightB l[k] last = true → Hid (mayFrom 0 l = mayFrom l[k].kind (l.drop (k + 1)))) ∧ (rightB l[k] last = false → mayFrom 0 l = false) := by
  rw [List.drop_eq_getElem_cons h] at hm
  simp only [mayFrom] at hm
  exact ⟨fun hr => by rw [hr] at hm; simpa [Hid] using hm, fun hr => by rw [hr] at hm; simpa using hm⟩

set_option maxHeartbeats 400000 in
theorem path_May_any (A : Option Addr) (n c : Nat) (l : List Sg) (w : World) (hm : n ≤ 1000000) (h : Sl w 5 A n (sgs l)) :
    Calls Try.prog 70 #[.slice A n c] w fun e w' => e = .returned (.bool (mayB l)) ∧ Below w.heap.size w w' := by
  have hl := h.sglen
  by_cases hn : n ≤ 300
  · go_enter Try.func70, Try.ntmps70
    go_wp2
    go_step3
    go_wp2
    go_step3
    go_wp2
    go_loopw [3, 4, 12] (fun la ok i wr => ∃ k : Nat, ∃ last : Int, k ≤ n ∧ la = .int .i64 last ∧ ok = .bool true ∧ i = .int .i64 k ∧ Below w.heap.size w wr ∧ Hid (mayFrom 0 l = mayFrom last (l.drop k))) (fun _ _ i _ => n - (intOf i).toNat)
    case atStart => exact ⟨0, 0, Nat.zero_le _, rfl, rfl, rfl, Below.refl _ _, by simp [Hid]⟩
    case round =>
      obtain ⟨k, last, hk, rfl, rfl, rfl, hbw, hr⟩ := hrel
      by_cases hlt : k < n
      · obtain ⟨b, off, rfl, hb, c0, c1, c2, c3, c4⟩ := (h.below hbw).sg k hlt (by omega)
        obtain ⟨sk, hsk⟩ : ∃ s, s = l[k]'(by omega) := ⟨_, rfl⟩
        rw [← hsk] at c0 c1 c2 c3 c4
        have HS := Lib.hid hsk
        clear hsk
        have hs := mayFrom_step l k last (by omega) hr.out
        rw [← HS.out] at hs
        obtain ⟨h1, h2⟩ := hs
        have H1 := Lib.hid h1
        have H2 := Lib.hid h2
        clear h1 h2
        rcases Bool.eq_false_or_eq_true (rightB ⟨sk.kind, sk.x, sk.y, sk.cx, sk.cy⟩ last) with hrb | hrb
        · go_wp2_with (go_at_call 109; refine (path_right_any _ _ _ _ _ _ _).mono ?_; rintro e w' ⟨rfl, hb1⟩; obtain ⟨hc1, hf1⟩ := bcell hb1)
          go_roundw
          case rel => exact ⟨k + 1, sk.kind, by omega, rfl, rfl, by go_num, btr (bal hbw _) hb1, H1.out hrb⟩
          case measure => simp [intOf]; omega
        · go_wp2_with (go_at_call 109; refine (path_right_any _ _ _ _ _ _ _).mono ?_; rintro e w' ⟨rfl, hb1⟩; obtain ⟨hc1, hf1⟩ := bcell hb1)
          try rw [Exit.noGoto_ret]
          go_ret
          exact ⟨ret_bool (by rw [mayB_bool l (by omega), H2.out hrb]), btr (bal hbw _) hb1⟩
      · go_wp2
        try rw [Exit.noGoto_ret]
        go_ret
        refine ⟨ret_bool ?_, hbw⟩
        rw [mayB_bool l (by omega), hr.out, List.drop_of_length_le (by omega)]
        rfl
  · go_enter Try.func70, Try.ntmps70
    go_wp2
    go_step3
    go_wp2
    try rw [Exit.noGoto_ret]
    go_ret
    exact ⟨ret_bool (by simp [mayB]; omega), Below.refl _ _⟩

end Go.Proofs.Ytaadajadeemndaa
