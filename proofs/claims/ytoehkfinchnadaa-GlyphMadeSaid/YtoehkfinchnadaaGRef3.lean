/- The reference's machine: a number. -/
import Derived.Test.YtoehkfinchnadaaGRef2
import Derived.Test.YtoehkfinchnadaaGlyph10
namespace Go.Proofs.Ytoehkfinchnadaa
open Go.RowKit Go.BigFrame

theorem or64 {a b : Nat} (ha : a < 65536) (hb : b < 65536) : bits .or .i64 (a : Int) (b : Int) = ((a ||| b : Nat) : Int) := by
  have hx : a ||| b < 2 ^ 16 := Nat.or_lt_two_pow (by omega) (by omega)
  show IntKind.i64.wrap ((BitVec.ofInt 64 (a : Int) ||| BitVec.ofInt 64 (b : Int)).toNat : Int) = _
  have q : ∀ c : Nat, c < 65536 → (BitVec.ofInt 64 (c : Int)).toNat = c := fun c hc => by rw [BitVec.ofInt_natCast, BitVec.toNat_ofNat]; exact Nat.mod_eq_of_lt (by omega)
  rw [BitVec.toNat_or, q a ha, q b hb]
  exact IntWalk.i64_in _ (by omega)
theorem or_word {c d : Nat} (hc : c < 256) (hd : d < 256) : bits .or .i64 ((c : Int) * 256) (d : Int) = (c : Int) * 256 + d := by
  have e1 : ((c : Int) * 256) = ((c * 256 : Nat) : Int) := by simp
  have e2 : c * 256 ||| d = c * 256 + d := by
    have := Nat.shiftLeft_add_eq_or_of_lt (i := 8) (b := d) (by omega) c
    rw [Nat.shiftLeft_eq] at this
    exact this.symm
  rw [e1, or64 (by omega) (by omega), e2]
  simp
theorem i16_is {z : Int} (h : 0 ≤ z ∧ z < 65536) : IntKind.i16.wrap z = i16 z := by
  unfold i16
  simp only [IntKind.wrap, IntKind.signed, IntKind.bits]
  simp
  split <;> omega
/-- What went wrong is told. -/
def RX (w : World) (g : Nat) (e : Int) : Prop := g < w.heap.size ∧ w.cell? ⟨g, 12, none⟩ = some (.int .i64 e)
section
variable {w w' : World} {g : Nat} {P : List ByteArray} {main : ByteArray} {F F0 : List (Int × Nat)} {M : GM} {er : Int}
theorem RM.x (h : RM w g P main F M er) : RX w g er := by
  obtain ⟨ρ, Ap, cp, Ai, ci, Aa, ca, Aw, cw, Al, cl, h⟩ := h
  exact ⟨h.rc.lt, h.rc.c 12 _ rfl⟩
/-- A number more waits. -/
theorem RAt.push {ρ : Nat → Nat} {Ap Ai Aa Aw Al A : Option Addr} {cp ci ca cw cl c n : Nat} {v : Int} (h : RAt w g P main F M er ρ Ap cp Ai ci Aa ca Aw cw Al cl) (hn : M.wait.length = n) (hg : w.grownBy w' (Value.slice Aw n cw).ownBlock)
    (ho : w'.ownsRow (g + 1) 3 1 (.slice A (n + 1) c) (n + 1) (ints M.wait ++ [.int .i64 v])) (hat : (Value.slice A (n + 1) c).ownBlock = (Value.slice Aw n cw).ownBlock ∨ (Value.slice A (n + 1) c).ownBlock = some w.heap.size) :
    RM (w'.setCell ⟨g, 4, none⟩ (.slice A (n + 1) c)) g P main F { M with wait := M.wait ++ [v] } er ∧ Below g w (w'.setCell ⟨g, 4, none⟩ (.slice A (n + 1) c)) := by
  subst hn
  have hgl : ∀ k, (Value.slice Aw M.wait.length cw).ownBlock = some k → g < k := fun k hk => by have := (h.rr.hw.lt k hk).1; omega
  obtain ⟨ρ', hr⟩ := h.rr.rowW (xs' := M.wait ++ [v]) hg (by rw [List.length_append, ints_snoc]; exact ho) hat
  have h1 := (h.rc.off hg hgl).set 4 (.slice A (M.wait.length + 1) c) (by simp [rcv])
  refine ⟨⟨ρ', Ap, cp, Ai, ci, Aa, ca, A, c, Al, cl, ?_, ?_, h.lc⟩, ?_⟩
  · simp only [List.length_append, List.length_singleton]; exact h1
  · simp only [List.length_append, List.length_singleton]; exact hr.own1 set_own
  · exact ((Below.refl g w).grown hg (Nat.le_of_lt h.rc.lt) (fun k hk => Nat.le_of_lt (hgl k hk))).setCell (p := ⟨g, 4, none⟩) (Nat.le_refl g) _
theorem RAt.gblk {ρ : Nat → Nat} {Ap Ai Aa Aw Al : Option Addr} {cp ci ca cw cl n : Nat} (h : RAt w g P main F M er ρ Ap cp Ai ci Aa ca Aw cw Al cl) (hn : M.wait.length = n) (hg : w.grownBy w' (Value.slice Aw n cw).ownBlock) :
    (∀ i, w'.cell? ⟨g, i, none⟩ = w.cell? ⟨g, i, none⟩) ∧ ∀ i, w'.frozen? ⟨g, i, none⟩ = false := by
  subst hn
  have hbg := hg.block g h.rc.lt fun e => by have := (h.rr.hw.lt g e.symm).1; omega
  exact ⟨fun i => World.cell?_of_block (a := ⟨g, i, none⟩) hbg, fun i => (World.frozen?_of_block (a := ⟨g, i, none⟩) hbg).trans (h.rc.nf i)⟩
end
/-- A number's reading, as told. -/
def NumP (T : ByteArray) (a : Nat) (m : Nat) (v : Int) (n : Nat) (er : Int) : Prop :=
  match numG ((bl T).drop a) with
  | none => er = 4
  | some (v', n') => if m = 24 then er = 8 else er = 0 ∧ v = v' ∧ n = n'
def TailP (g : Nat) (P : List ByteArray) (main : ByteArray) (F : List (Int × Nat)) (M : GM) (er v : Int) (w : World) (e : Ending) (w' : World) : Prop :=
  e = .returned (.tuple #[]) ∧ Below g w w' ∧ RM w' g P main F { M with wait := M.wait ++ [v] } (if er = 0 then (if M.wait.length = 24 then 8 else 0) else er)

theorem bl_drop {T : ByteArray} {a : Nat} (h : a < T.size) : (bl T).drop a = byt T a :: (bl T).drop (a + 1) := by
  have h0 : a < (bl T).length := by rw [bl_len]; exact h
  rw [List.drop_eq_getElem_cons h0]
  unfold byt
  rw [List.getElem?_eq_getElem h0]; rfl
theorem bl_drop0 {T : ByteArray} {a : Nat} (h : T.size ≤ a) : (bl T).drop a = [] := List.drop_eq_nil_of_le (by rw [bl_len]; exact h)

set_option maxRecDepth 100000 in
set_option maxHeartbeats 1000000 in
/-- Below 247: the byte itself. -/
theorem number_short (g : Nat) (P : List ByteArray) (main : ByteArray) (F : List (Int × Nat)) (M : GM) (b : Nat) (w : World) (h : RM w g P main F M 0) (hb : 32 ≤ b ∧ b ≤ 246) (h24 : M.wait.length ≤ 24) :
    Calls Try.prog 16 #[.pointer (some ⟨g, 0, none⟩), .int .i64 (b : Int)] w (TailP g P main F M 0 ((b : Int) - 139) w) := by
  obtain ⟨m, hm⟩ : ∃ m, M.wait.length = m := ⟨_, rfl⟩
  rw [hm] at h24
  have hb1 : ((b : Int) == 255) = false := by simp; omega
  have hb2 : decide ((b : Int) ≥ 251) = false := by simp; omega
  have hb3 : decide ((b : Int) ≥ 247) = false := by simp; omega
  have h0 := Below.refl g w
  go_enter Try.func16, Try.ntmps16
  have HRM := Lib.hid h
  have HBS := Lib.hid h0
  obtain ⟨ρ, Ap, cp, Ai, ci, Aa, ca, Aw, cw, Al, cl, hM⟩ := h
  have c12 := hM.rc.c 12 _ rfl
  have c4 := hM.rc.c 4 _ rfl
  have nf4 := hM.rc.nf 4
  have hltM := hM.rc.lt
  have hownM := hM.rr.hw
  rw [hm] at c4 hownM
  have HM1 := Lib.hid hM
  clear hM
  by_cases he : m = 24
  · subst he
    clear hownM
    go_wp2_with fail
    refine (wrong_any 8 HRM.out).mono ?_; rintro e wz ⟨rfl, hr, hbz⟩
    clear c12 c4 nf4 hltM HM1
    obtain ⟨ρ, Ap, cp, Ai, ci, Aa, ca, Aw, cw, Al, cl, hM⟩ := hr
    have c12 := hM.rc.c 12 _ rfl
    have c4 := hM.rc.c 4 _ rfl
    have nf4 := hM.rc.nf 4
    have hltM := hM.rc.lt
    have hownM := hM.rr.hw
    rw [hm] at c4 hownM
    have HM1 := Lib.hid hM
    clear hM
    go_wp2_with ((at_builtin; refine wpList_app rfl _ _ 22 rfl (g + 1) ciT rfl (own_below hownM (bal (Below.refl _ _) _)) (ints [(b : Int) - 139]) rfl (sl_new _ rfl rfl) (oneCell_ints [(b : Int) - 139]) (by omega) (Nat.le_trans hltM (bal (Below.refl _ _) _).size) ?_; intro A2 c2 w2 hown2 hg2 hat2; have hMa := HM1.out.below (bal (Below.refl _ _) (.cells #[.int .i64 ((b : Int) - 139)] 3)); obtain ⟨cg, fg⟩ := hMa.gblk hm hg2; have d4 := (cg 4).trans (hMa.rc.c 4 _ rfl); have f4 := fg 4; rw [hm] at d4; have HMA := Lib.hid hMa; clear hMa cg fg))
    go_end0
    have q := HMA.out.push (v := (b : Int) - 139) hm hg2 hown2 hat2
    refine ⟨rfl, ?_, ?_⟩
    · exact (HBS.out.trans hbz).trans (((bal (Below.refl _ _) _ : Below wz.heap.size wz _).mono (Nat.le_of_lt hltM)).trans q.2)
    · rw [if_pos rfl, if_pos hm]; exact q.1
  · have hd1 : decide ((m : Int) ≥ 24) = false := by simp; omega
    go_wp2_with ((at_builtin; refine wpList_app rfl _ _ 22 rfl (g + 1) ciT rfl (own_below hownM (bal (Below.refl _ _) _)) (ints [(b : Int) - 139]) rfl (sl_new _ rfl rfl) (oneCell_ints [(b : Int) - 139]) (by omega) (Nat.le_trans hltM (bal (Below.refl _ _) _).size) ?_; intro A2 c2 w2 hown2 hg2 hat2; have hMa := HM1.out.below (bal (Below.refl _ _) (.cells #[.int .i64 ((b : Int) - 139)] 3)); obtain ⟨cg, fg⟩ := hMa.gblk hm hg2; have d4 := (cg 4).trans (hMa.rc.c 4 _ rfl); have f4 := fg 4; rw [hm] at d4; have HMA := Lib.hid hMa; clear hMa cg fg))
    go_end0
    have q := HMA.out.push (v := (b : Int) - 139) hm hg2 hown2 hat2
    refine ⟨rfl, ?_, ?_⟩
    · exact HBS.out.trans (((bal (Below.refl _ _) _ : Below _ _ _).mono (Nat.le_of_lt hltM)).trans q.2)
    · rw [if_pos rfl, if_neg (by omega)]; exact q.1
set_option maxRecDepth 100000 in
set_option maxHeartbeats 1000000 in
/-- 247 to 254: a byte more. -/
theorem number_two (g : Nat) (P : List ByteArray) (main : ByteArray) (F0 : List (Int × Nat)) (i : Int) (a : Nat) (M : GM) (T : ByteArray) (b : Nat) (w : World) (h : RM w g P main (F0 ++ [(i, a)]) M 0) (hb : 247 ≤ b ∧ b ≤ 254) (h24 : M.wait.length ≤ 24)
    (hT : PcOf P main i T) (hts : T.size ≤ 1000000) (ha : a ≤ T.size) (hF : F0.length ≤ 10) :
    Calls Try.prog 16 #[.pointer (some ⟨g, 0, none⟩), .int .i64 (b : Int)] w fun e w' =>
      if a < T.size then TailP g P main (F0 ++ [(i, a + 1)]) M 0 (if b ≤ 250 then 256 * ((b : Int) - 247) + (byt T a : Int) + 108 else -256 * ((b : Int) - 251) - (byt T a : Int) - 108) w e w' else ∃ v, TailP g P main (F0 ++ [(i, a)]) M 4 v w e w' := by
  obtain ⟨m, hm⟩ : ∃ m, M.wait.length = m := ⟨_, rfl⟩
  rw [hm] at h24
  have HN := Lib.hid (next_any g P main F0 i a M 0 T w h hT hts ha hF)
  have hbyt := byt_lt T a
  obtain ⟨c, hc⟩ : ∃ c, byt T a = c := ⟨_, rfl⟩
  rw [hc] at hbyt
  simp only [hc] at HN ⊢
  have hb1 : ((b : Int) == 255) = false := by simp; omega
  clear hc
  by_cases h5 : b ≤ 250
  · have hb2 : decide ((b : Int) ≥ 251) = false := by simp; omega
    have hb3 : decide ((b : Int) ≥ 247) = true := by simp; omega
    simp only [if_pos h5]
    go_enter Try.func16, Try.ntmps16
    go_wp2_with fail
    refine HN.out.mono ?_; rintro e w1 ⟨hB1, hr1⟩
    by_cases hlt : a < T.size
    · simp only [if_pos hlt] at hr1 ⊢
      obtain ⟨rfl, hr1⟩ := hr1
      have HRM := Lib.hid hr1
      have HBS := Lib.hid hB1
      obtain ⟨ρ, Ap, cp, Ai, ci, Aa, ca, Aw, cw, Al, cl, hM⟩ := hr1
      have c12 := hM.rc.c 12 _ rfl
      have c4 := hM.rc.c 4 _ rfl
      have nf4 := hM.rc.nf 4
      have hltM := hM.rc.lt
      have hownM := hM.rr.hw
      rw [hm] at c4 hownM
      have HM1 := Lib.hid hM
      clear hM
      by_cases he : m = 24
      · subst he
        clear hownM
        go_wp2_with fail
        refine (wrong_any 8 HRM.out).mono ?_; rintro e wz ⟨rfl, hr, hbz⟩
        clear c12 c4 nf4 hltM HM1
        obtain ⟨ρ, Ap, cp, Ai, ci, Aa, ca, Aw, cw, Al, cl, hM⟩ := hr
        have c12 := hM.rc.c 12 _ rfl
        have c4 := hM.rc.c 4 _ rfl
        have nf4 := hM.rc.nf 4
        have hltM := hM.rc.lt
        have hownM := hM.rr.hw
        rw [hm] at c4 hownM
        have HM1 := Lib.hid hM
        clear hM
        go_wp2_with ((at_builtin; refine wpList_app rfl _ _ 22 rfl (g + 1) ciT rfl (own_below hownM (bal (Below.refl _ _) _)) (ints [256 * ((b : Int) - 247) + (c : Int) + 108]) rfl (sl_new _ rfl rfl) (oneCell_ints [256 * ((b : Int) - 247) + (c : Int) + 108]) (by omega) (Nat.le_trans hltM (bal (Below.refl _ _) _).size) ?_; intro A2 c2 w2 hown2 hg2 hat2; have hMa := HM1.out.below (bal (Below.refl _ _) (.cells #[.int .i64 (256 * ((b : Int) - 247) + (c : Int) + 108)] 3)); obtain ⟨cg, fg⟩ := hMa.gblk hm hg2; have d4 := (cg 4).trans (hMa.rc.c 4 _ rfl); have f4 := fg 4; rw [hm] at d4; have HMA := Lib.hid hMa; clear hMa cg fg))
        go_end0
        have q := HMA.out.push (v := 256 * ((b : Int) - 247) + (c : Int) + 108) hm hg2 hown2 hat2
        refine ⟨rfl, ?_, ?_⟩
        · exact (HBS.out.trans hbz).trans (((bal (Below.refl _ _) _ : Below wz.heap.size wz _).mono (Nat.le_of_lt hltM)).trans q.2)
        · rw [if_pos rfl, if_pos hm]; exact q.1
      · have hd1 : decide ((m : Int) ≥ 24) = false := by simp; omega
        go_wp2_with ((at_builtin; refine wpList_app rfl _ _ 22 rfl (g + 1) ciT rfl (own_below hownM (bal (Below.refl _ _) _)) (ints [256 * ((b : Int) - 247) + (c : Int) + 108]) rfl (sl_new _ rfl rfl) (oneCell_ints [256 * ((b : Int) - 247) + (c : Int) + 108]) (by omega) (Nat.le_trans hltM (bal (Below.refl _ _) _).size) ?_; intro A2 c2 w2 hown2 hg2 hat2; have hMa := HM1.out.below (bal (Below.refl _ _) (.cells #[.int .i64 (256 * ((b : Int) - 247) + (c : Int) + 108)] 3)); obtain ⟨cg, fg⟩ := hMa.gblk hm hg2; have d4 := (cg 4).trans (hMa.rc.c 4 _ rfl); have f4 := fg 4; rw [hm] at d4; have HMA := Lib.hid hMa; clear hMa cg fg))
        go_end0
        have q := HMA.out.push (v := 256 * ((b : Int) - 247) + (c : Int) + 108) hm hg2 hown2 hat2
        refine ⟨rfl, ?_, ?_⟩
        · exact HBS.out.trans (((bal (Below.refl _ _) _ : Below _ _ _).mono (Nat.le_of_lt hltM)).trans q.2)
        · rw [if_pos rfl, if_neg (by omega)]; exact q.1
    · simp only [if_neg hlt] at hr1 ⊢
      obtain ⟨rfl, hr1⟩ := hr1
      simp only [if_true] at hr1
      have HRM := Lib.hid hr1
      have HBS := Lib.hid hB1
      obtain ⟨ρ, Ap, cp, Ai, ci, Aa, ca, Aw, cw, Al, cl, hM⟩ := hr1
      have c12 := hM.rc.c 12 _ rfl
      have c4 := hM.rc.c 4 _ rfl
      have nf4 := hM.rc.nf 4
      have hltM := hM.rc.lt
      have hownM := hM.rr.hw
      rw [hm] at c4 hownM
      have HM1 := Lib.hid hM
      clear hM
      go_wp2_with ((at_builtin; refine wpList_app rfl _ _ 22 rfl (g + 1) ciT rfl (own_below hownM (bal (Below.refl _ _) _)) (ints [256 * ((b : Int) - 247) + 108]) rfl (sl_new _ rfl rfl) (oneCell_ints [256 * ((b : Int) - 247) + 108]) (by omega) (Nat.le_trans hltM (bal (Below.refl _ _) _).size) ?_; intro A2 c2 w2 hown2 hg2 hat2; have hMa := HM1.out.below (bal (Below.refl _ _) (.cells #[.int .i64 (256 * ((b : Int) - 247) + 108)] 3)); obtain ⟨cg, fg⟩ := hMa.gblk hm hg2; have d4 := (cg 4).trans (hMa.rc.c 4 _ rfl); have f4 := fg 4; rw [hm] at d4; have HMA := Lib.hid hMa; clear hMa cg fg))
      go_end0
      have q := HMA.out.push (v := 256 * ((b : Int) - 247) + 108) hm hg2 hown2 hat2
      refine ⟨256 * ((b : Int) - 247) + 108,  rfl, ?_, ?_⟩
      · exact HBS.out.trans (((bal (Below.refl _ _) _ : Below _ _ _).mono (Nat.le_of_lt hltM)).trans q.2)
      · rw [if_neg (by omega)]; exact q.1
  · have hb2 : decide ((b : Int) ≥ 251) = true := by simp; omega
    simp only [if_neg h5]
    go_enter Try.func16, Try.ntmps16
    go_wp2_with fail
    refine HN.out.mono ?_; rintro e w1 ⟨hB1, hr1⟩
    by_cases hlt : a < T.size
    · simp only [if_pos hlt] at hr1 ⊢
      obtain ⟨rfl, hr1⟩ := hr1
      have HRM := Lib.hid hr1
      have HBS := Lib.hid hB1
      obtain ⟨ρ, Ap, cp, Ai, ci, Aa, ca, Aw, cw, Al, cl, hM⟩ := hr1
      have c12 := hM.rc.c 12 _ rfl
      have c4 := hM.rc.c 4 _ rfl
      have nf4 := hM.rc.nf 4
      have hltM := hM.rc.lt
      have hownM := hM.rr.hw
      rw [hm] at c4 hownM
      have HM1 := Lib.hid hM
      clear hM
      by_cases he : m = 24
      · subst he
        clear hownM
        go_wp2_with fail
        refine (wrong_any 8 HRM.out).mono ?_; rintro e wz ⟨rfl, hr, hbz⟩
        clear c12 c4 nf4 hltM HM1
        obtain ⟨ρ, Ap, cp, Ai, ci, Aa, ca, Aw, cw, Al, cl, hM⟩ := hr
        have c12 := hM.rc.c 12 _ rfl
        have c4 := hM.rc.c 4 _ rfl
        have nf4 := hM.rc.nf 4
        have hltM := hM.rc.lt
        have hownM := hM.rr.hw
        rw [hm] at c4 hownM
        have HM1 := Lib.hid hM
        clear hM
        go_wp2_with ((at_builtin; refine wpList_app rfl _ _ 22 rfl (g + 1) ciT rfl (own_below hownM (bal (Below.refl _ _) _)) (ints [-256 * ((b : Int) - 251) - (c : Int) - 108]) rfl (sl_new _ rfl rfl) (oneCell_ints [-256 * ((b : Int) - 251) - (c : Int) - 108]) (by omega) (Nat.le_trans hltM (bal (Below.refl _ _) _).size) ?_; intro A2 c2 w2 hown2 hg2 hat2; have hMa := HM1.out.below (bal (Below.refl _ _) (.cells #[.int .i64 (-256 * ((b : Int) - 251) - (c : Int) - 108)] 3)); obtain ⟨cg, fg⟩ := hMa.gblk hm hg2; have d4 := (cg 4).trans (hMa.rc.c 4 _ rfl); have f4 := fg 4; rw [hm] at d4; have HMA := Lib.hid hMa; clear hMa cg fg))
        go_end0
        have q := HMA.out.push (v := -256 * ((b : Int) - 251) - (c : Int) - 108) hm hg2 hown2 hat2
        refine ⟨rfl, ?_, ?_⟩
        · exact (HBS.out.trans hbz).trans (((bal (Below.refl _ _) _ : Below wz.heap.size wz _).mono (Nat.le_of_lt hltM)).trans q.2)
        · rw [if_pos rfl, if_pos hm]; exact q.1
      · have hd1 : decide ((m : Int) ≥ 24) = false := by simp; omega
        go_wp2_with ((at_builtin; refine wpList_app rfl _ _ 22 rfl (g + 1) ciT rfl (own_below hownM (bal (Below.refl _ _) _)) (ints [-256 * ((b : Int) - 251) - (c : Int) - 108]) rfl (sl_new _ rfl rfl) (oneCell_ints [-256 * ((b : Int) - 251) - (c : Int) - 108]) (by omega) (Nat.le_trans hltM (bal (Below.refl _ _) _).size) ?_; intro A2 c2 w2 hown2 hg2 hat2; have hMa := HM1.out.below (bal (Below.refl _ _) (.cells #[.int .i64 (-256 * ((b : Int) - 251) - (c : Int) - 108)] 3)); obtain ⟨cg, fg⟩ := hMa.gblk hm hg2; have d4 := (cg 4).trans (hMa.rc.c 4 _ rfl); have f4 := fg 4; rw [hm] at d4; have HMA := Lib.hid hMa; clear hMa cg fg))
        go_end0
        have q := HMA.out.push (v := -256 * ((b : Int) - 251) - (c : Int) - 108) hm hg2 hown2 hat2
        refine ⟨rfl, ?_, ?_⟩
        · exact HBS.out.trans (((bal (Below.refl _ _) _ : Below _ _ _).mono (Nat.le_of_lt hltM)).trans q.2)
        · rw [if_pos rfl, if_neg (by omega)]; exact q.1
    · simp only [if_neg hlt] at hr1 ⊢
      obtain ⟨rfl, hr1⟩ := hr1
      simp only [if_true] at hr1
      have HRM := Lib.hid hr1
      have HBS := Lib.hid hB1
      obtain ⟨ρ, Ap, cp, Ai, ci, Aa, ca, Aw, cw, Al, cl, hM⟩ := hr1
      have c12 := hM.rc.c 12 _ rfl
      have c4 := hM.rc.c 4 _ rfl
      have nf4 := hM.rc.nf 4
      have hltM := hM.rc.lt
      have hownM := hM.rr.hw
      rw [hm] at c4 hownM
      have HM1 := Lib.hid hM
      clear hM
      go_wp2_with ((at_builtin; refine wpList_app rfl _ _ 22 rfl (g + 1) ciT rfl (own_below hownM (bal (Below.refl _ _) _)) (ints [-256 * ((b : Int) - 251) - 108]) rfl (sl_new _ rfl rfl) (oneCell_ints [-256 * ((b : Int) - 251) - 108]) (by omega) (Nat.le_trans hltM (bal (Below.refl _ _) _).size) ?_; intro A2 c2 w2 hown2 hg2 hat2; have hMa := HM1.out.below (bal (Below.refl _ _) (.cells #[.int .i64 (-256 * ((b : Int) - 251) - 108)] 3)); obtain ⟨cg, fg⟩ := hMa.gblk hm hg2; have d4 := (cg 4).trans (hMa.rc.c 4 _ rfl); have f4 := fg 4; rw [hm] at d4; have HMA := Lib.hid hMa; clear hMa cg fg))
      go_end0
      have q := HMA.out.push (v := -256 * ((b : Int) - 251) - 108) hm hg2 hown2 hat2
      refine ⟨-256 * ((b : Int) - 251) - 108,  rfl, ?_, ?_⟩
      · exact HBS.out.trans (((bal (Below.refl _ _) _ : Below _ _ _).mono (Nat.le_of_lt hltM)).trans q.2)
      · rw [if_neg (by omega)]; exact q.1
set_option maxRecDepth 100000 in
set_option maxHeartbeats 1000000 in
/-- 255: two bytes more. -/
theorem number_three (g : Nat) (P : List ByteArray) (main : ByteArray) (F0 : List (Int × Nat)) (i : Int) (a : Nat) (M : GM) (T : ByteArray) (w : World) (h : RM w g P main (F0 ++ [(i, a)]) M 0) (h24 : M.wait.length ≤ 24)
    (hT : PcOf P main i T) (hts : T.size ≤ 1000000) (ha : a ≤ T.size) (hF : F0.length ≤ 10) :
    Calls Try.prog 16 #[.pointer (some ⟨g, 0, none⟩), .int .i64 255] w fun e w' =>
      if a + 1 < T.size then TailP g P main (F0 ++ [(i, a + 2)]) M 0 (i16 ((byt T a : Int) * 256 + (byt T (a + 1) : Int))) w e w' else ∃ v a', TailP g P main (F0 ++ [(i, a')]) M 4 v w e w' := by
  obtain ⟨m, hm⟩ : ∃ m, M.wait.length = m := ⟨_, rfl⟩
  rw [hm] at h24
  have HN := Lib.hid (next_any g P main F0 i a M 0 T w h hT hts ha hF)
  have HN2 := Lib.hid (fun W er (h1 : RM W g P main (F0 ++ [(i, a)]) M er) => next_any g P main F0 i a M er T W h1 hT hts ha hF)
  have HN3 := Lib.hid (fun W er (h1 : RM W g P main (F0 ++ [(i, a + 1)]) M er) (hlt : a < T.size) => next_any g P main F0 i (a + 1) M er T W h1 hT hts (by omega) hF)
  have hbyt := byt_lt T a
  have hbyt2 := byt_lt T (a + 1)
  obtain ⟨c, hc⟩ : ∃ c, byt T a = c := ⟨_, rfl⟩
  obtain ⟨d, hd⟩ : ∃ c, byt T (a + 1) = c := ⟨_, rfl⟩
  rw [hc] at hbyt
  rw [hd] at hbyt2
  simp only [hc] at HN HN2 ⊢
  simp only [hd] at HN3 ⊢
  clear hc hd
  go_enter Try.func16, Try.ntmps16
  go_wp2_with fail
  refine HN.out.mono ?_; rintro e w1 ⟨hB1, hr1⟩
  by_cases hlt : a < T.size
  · simp only [if_pos hlt] at hr1
    obtain ⟨rfl, hr1⟩ := hr1
    go_wp2_with fail
    refine (HN3.out _ _ hr1 hlt).mono ?_; rintro e w2 ⟨hB2, hr2⟩
    have hB3 := hB1.trans hB2
    by_cases hlt2 : a + 1 < T.size
    · simp only [if_pos hlt2] at hr2 ⊢
      obtain ⟨rfl, hr2⟩ := hr2
      have w1' := or_word hbyt hbyt2
      have w2' : IntKind.u16.wrap ((c : Int) * 256 + (d : Int)) = (c : Int) * 256 + (d : Int) := by simp only [IntKind.wrap, IntKind.signed, IntKind.bits]; simp; omega
      have w3' := i16_is (z := (c : Int) * 256 + (d : Int)) (by omega)
      have w4' : wrap64 (i16 ((c : Int) * 256 + (d : Int))) = i16 ((c : Int) * 256 + (d : Int)) := IntWalk.wrap64_in _ (by unfold i16; split <;> omega)
      have HRM := Lib.hid hr2
      have HBS := Lib.hid hB3
      obtain ⟨ρ, Ap, cp, Ai, ci, Aa, ca, Aw, cw, Al, cl, hM⟩ := hr2
      have c12 := hM.rc.c 12 _ rfl
      have c4 := hM.rc.c 4 _ rfl
      have nf4 := hM.rc.nf 4
      have hltM := hM.rc.lt
      have hownM := hM.rr.hw
      rw [hm] at c4 hownM
      have HM1 := Lib.hid hM
      clear hM
      by_cases he : m = 24
      · subst he
        clear hownM
        go_wp2_with fail
        refine (wrong_any 8 HRM.out).mono ?_; rintro e wz ⟨rfl, hr, hbz⟩
        clear c12 c4 nf4 hltM HM1
        obtain ⟨ρ, Ap, cp, Ai, ci, Aa, ca, Aw, cw, Al, cl, hM⟩ := hr
        have c12 := hM.rc.c 12 _ rfl
        have c4 := hM.rc.c 4 _ rfl
        have nf4 := hM.rc.nf 4
        have hltM := hM.rc.lt
        have hownM := hM.rr.hw
        rw [hm] at c4 hownM
        have HM1 := Lib.hid hM
        clear hM
        go_wp2_with ((at_builtin; refine wpList_app rfl _ _ 22 rfl (g + 1) ciT rfl (own_below hownM (bal (Below.refl _ _) _)) (ints [i16 ((c : Int) * 256 + (d : Int))]) rfl (sl_new _ rfl rfl) (oneCell_ints [i16 ((c : Int) * 256 + (d : Int))]) (by omega) (Nat.le_trans hltM (bal (Below.refl _ _) _).size) ?_; intro A2 c2 w2 hown2 hg2 hat2; have hMa := HM1.out.below (bal (Below.refl _ _) (.cells #[.int .i64 (i16 ((c : Int) * 256 + (d : Int)))] 3)); obtain ⟨cg, fg⟩ := hMa.gblk hm hg2; have d4 := (cg 4).trans (hMa.rc.c 4 _ rfl); have f4 := fg 4; rw [hm] at d4; have HMA := Lib.hid hMa; clear hMa cg fg))
        go_end0
        have q := HMA.out.push (v := i16 ((c : Int) * 256 + (d : Int))) hm hg2 hown2 hat2
        refine ⟨rfl, ?_, ?_⟩
        · exact (HBS.out.trans hbz).trans (((bal (Below.refl _ _) _ : Below wz.heap.size wz _).mono (Nat.le_of_lt hltM)).trans q.2)
        · rw [if_pos rfl, if_pos hm]; exact q.1
      · have hd1 : decide ((m : Int) ≥ 24) = false := by simp; omega
        go_wp2_with ((at_builtin; refine wpList_app rfl _ _ 22 rfl (g + 1) ciT rfl (own_below hownM (bal (Below.refl _ _) _)) (ints [i16 ((c : Int) * 256 + (d : Int))]) rfl (sl_new _ rfl rfl) (oneCell_ints [i16 ((c : Int) * 256 + (d : Int))]) (by omega) (Nat.le_trans hltM (bal (Below.refl _ _) _).size) ?_; intro A2 c2 w2 hown2 hg2 hat2; have hMa := HM1.out.below (bal (Below.refl _ _) (.cells #[.int .i64 (i16 ((c : Int) * 256 + (d : Int)))] 3)); obtain ⟨cg, fg⟩ := hMa.gblk hm hg2; have d4 := (cg 4).trans (hMa.rc.c 4 _ rfl); have f4 := fg 4; rw [hm] at d4; have HMA := Lib.hid hMa; clear hMa cg fg))
        go_end0
        have q := HMA.out.push (v := i16 ((c : Int) * 256 + (d : Int))) hm hg2 hown2 hat2
        refine ⟨rfl, ?_, ?_⟩
        · exact HBS.out.trans (((bal (Below.refl _ _) _ : Below _ _ _).mono (Nat.le_of_lt hltM)).trans q.2)
        · rw [if_pos rfl, if_neg (by omega)]; exact q.1
    · simp only [if_neg hlt2] at hr2 ⊢
      obtain ⟨rfl, hr2⟩ := hr2
      simp only [if_true] at hr2
      have w1' : bits .or .i64 ((c : Int) * 256) 0 = (c : Int) * 256 := by have := or_word (d := 0) hbyt (by omega); simpa using this
      have w2' : IntKind.u16.wrap ((c : Int) * 256) = (c : Int) * 256 := by simp only [IntKind.wrap, IntKind.signed, IntKind.bits]; simp; omega
      have w3' := i16_is (z := (c : Int) * 256) (by omega)
      have w4' : wrap64 (i16 ((c : Int) * 256)) = i16 ((c : Int) * 256) := IntWalk.wrap64_in _ (by unfold i16; split <;> omega)
      have HRM := Lib.hid hr2
      have HBS := Lib.hid hB3
      obtain ⟨ρ, Ap, cp, Ai, ci, Aa, ca, Aw, cw, Al, cl, hM⟩ := hr2
      have c12 := hM.rc.c 12 _ rfl
      have c4 := hM.rc.c 4 _ rfl
      have nf4 := hM.rc.nf 4
      have hltM := hM.rc.lt
      have hownM := hM.rr.hw
      rw [hm] at c4 hownM
      have HM1 := Lib.hid hM
      clear hM
      go_wp2_with ((at_builtin; refine wpList_app rfl _ _ 22 rfl (g + 1) ciT rfl (own_below hownM (bal (Below.refl _ _) _)) (ints [i16 ((c : Int) * 256)]) rfl (sl_new _ rfl rfl) (oneCell_ints [i16 ((c : Int) * 256)]) (by omega) (Nat.le_trans hltM (bal (Below.refl _ _) _).size) ?_; intro A2 c2 w2 hown2 hg2 hat2; have hMa := HM1.out.below (bal (Below.refl _ _) (.cells #[.int .i64 (i16 ((c : Int) * 256))] 3)); obtain ⟨cg, fg⟩ := hMa.gblk hm hg2; have d4 := (cg 4).trans (hMa.rc.c 4 _ rfl); have f4 := fg 4; rw [hm] at d4; have HMA := Lib.hid hMa; clear hMa cg fg))
      go_end0
      have q := HMA.out.push (v := i16 ((c : Int) * 256)) hm hg2 hown2 hat2
      refine ⟨i16 ((c : Int) * 256), a + 1, rfl, ?_, ?_⟩
      · exact HBS.out.trans (((bal (Below.refl _ _) _ : Below _ _ _).mono (Nat.le_of_lt hltM)).trans q.2)
      · rw [if_neg (by omega)]; exact q.1
  · simp only [if_neg hlt] at hr1
    obtain ⟨rfl, hr1⟩ := hr1
    simp only [if_true] at hr1
    have hlt2 : ¬ a + 1 < T.size := by omega
    go_wp2_with fail
    refine (HN2.out _ _ hr1).mono ?_; rintro e w2 ⟨hB2, hr2⟩
    have hB3 := hB1.trans hB2
    simp only [if_neg hlt] at hr2
    obtain ⟨rfl, hr2⟩ := hr2
    have hr3 : RM w2 g P main (F0 ++ [(i, a)]) M 4 := by simpa using hr2
    have w1' : bits .or .i64 0 0 = 0 := by decide +kernel
    have HRM := Lib.hid hr3
    have HBS := Lib.hid hB3
    obtain ⟨ρ, Ap, cp, Ai, ci, Aa, ca, Aw, cw, Al, cl, hM⟩ := hr3
    have c12 := hM.rc.c 12 _ rfl
    have c4 := hM.rc.c 4 _ rfl
    have nf4 := hM.rc.nf 4
    have hltM := hM.rc.lt
    have hownM := hM.rr.hw
    rw [hm] at c4 hownM
    have HM1 := Lib.hid hM
    clear hM
    go_wp2_with ((at_builtin; refine wpList_app rfl _ _ 22 rfl (g + 1) ciT rfl (own_below hownM (bal (Below.refl _ _) _)) (ints [0]) rfl (sl_new _ rfl rfl) (oneCell_ints [0]) (by omega) (Nat.le_trans hltM (bal (Below.refl _ _) _).size) ?_; intro A2 c2 w2 hown2 hg2 hat2; have hMa := HM1.out.below (bal (Below.refl _ _) (.cells #[.int .i64 (0)] 3)); obtain ⟨cg, fg⟩ := hMa.gblk hm hg2; have d4 := (cg 4).trans (hMa.rc.c 4 _ rfl); have f4 := fg 4; rw [hm] at d4; have HMA := Lib.hid hMa; clear hMa cg fg))
    go_end0
    have q := HMA.out.push (v := 0) hm hg2 hown2 hat2
    refine ⟨0, a, rfl, ?_, ?_⟩
    · exact HBS.out.trans (((bal (Below.refl _ _) _ : Below _ _ _).mono (Nat.le_of_lt hltM)).trans q.2)
    · rw [if_neg (by omega)]; exact q.1
end Go.Proofs.Ytoehkfinchnadaa
