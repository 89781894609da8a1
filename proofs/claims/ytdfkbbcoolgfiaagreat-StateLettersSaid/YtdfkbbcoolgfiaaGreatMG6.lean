/- The reference's Run: what it answers. -/
import Derived.Test.YtdfkbbcoolgfiaaGreatGRef9
import Derived.Test.YtdfkbbcoolgfiaaGreatGRef10
import Derived.Test.YtdfkbbcoolgfiaaGreatMGl2
namespace Go.Proofs.YtdfkbbcoolgfiaaGreat
open Go.RowKit Go.BigFrame

/-- What is left of a frame. -/
def restF (P : List ByteArray) (main : ByteArray) (f : Int × Nat) : List Nat := (bl (if f.1 < 0 then main else (P[f.1.toNat]?.getD .empty))).drop f.2
def kontF (P : List ByteArray) (main : ByteArray) (F : List (Int × Nat)) (M : GM) : GR := kont (P.map bl) (F.reverse.map (restF P main)) (.ok M)
/-- A frame that may be. -/
def FOK (P : List ByteArray) (f : Int × Nat) : Prop := f.1 < 0 ∨ f.1.toNat < P.length
def pcB (P : List ByteArray) (main : ByteArray) (f : Int × Nat) : ByteArray := if f.1 < 0 then main else P[f.1.toNat]?.getD .empty
structure FsOK (P : List ByteArray) (main : ByteArray) (F : List (Int × Nat)) : Prop where
  n1 : 1 ≤ F.length
  n5 : F.length ≤ 5
  ok : ∀ f ∈ F, FOK P f ∧ f.2 ≤ (pcB P main f).size
theorem FOK.pc {P : List ByteArray} {main : ByteArray} {f : Int × Nat} (h : FOK P f) : PcOf P main f.1 (pcB P main f) := by
  unfold pcB
  by_cases h0 : f.1 < 0
  · rw [if_pos h0]; exact .inl ⟨h0, rfl⟩
  · rw [if_neg h0]
    have hl : f.1.toNat < P.length := h.resolve_left h0
    exact .inr ⟨f.1.toNat, by omega, by rw [List.getElem?_eq_getElem hl]; rfl⟩
theorem restF_is (P : List ByteArray) (main : ByteArray) (f : Int × Nat) : restF P main f = (bl (pcB P main f)).drop f.2 := rfl
theorem kontF_snoc (P : List ByteArray) (main : ByteArray) (F0 : List (Int × Nat)) (f : Int × Nat) (M : GM) : kontF P main (F0 ++ [f]) M = kont (P.map bl) (restF P main f :: F0.reverse.map (restF P main)) (.ok M) := by
  unfold kontF; rw [List.reverse_append]; rfl
theorem split_last {α : Type} {F : List α} (h : 1 ≤ F.length) : ∃ F0 f, F = F0 ++ [f] := by
  have hne : F ≠ [] := by intro e; rw [e] at h; simp at h
  exact ⟨F.dropLast, F.getLast hne, (List.dropLast_concat_getLast hne).symm⟩

theorem linesG_keeps : ∀ (v : List Int) (M M' : GM), GOK M → linesG M v = .ok M' → GOK M' ∧ M'.ops = M.ops ∧ M'.wait = M.wait
  | [], _, _, hok, h => by cases h; exact ⟨hok, rfl, rfl⟩
  | [_], _, _, hok, h => by cases h; exact ⟨hok, rfl, rfl⟩
  | a :: b :: v, M, M', hok, h => by
    simp only [linesG] at h
    cases hl : lineG M a b with
    | bad e => rw [hl] at h; cases h
    | ok M1 =>
      rw [hl] at h
      have k1 := lineG_keeps hok hl
      have k2 := takeG_keeps (show takeG M _ = .ok M1 from hl)
      obtain ⟨a1, a2, a3⟩ := linesG_keeps v M1 M' k1.1 h
      exact ⟨a1, a2.trans k2.2.1, a3.trans k1.2⟩
theorem opG_keeps {c : Nat} {M M' : GM} {v : List Int} (hok : GOK M) (h : opG c M v = .ok M') : GOK M' ∧ M'.ops = M.ops ∧ M'.wait = M.wait := by
  unfold opG at h
  have tk : ∀ r : List Sg × Int, (r.2 = 0 → mayB r.1 = true) → takeG M r = .ok M' → GOK M' ∧ M'.ops = M.ops ∧ M'.wait = M.wait := fun r hr h => ⟨hok.take hr h, (takeG_keeps h).2.1, (takeG_keeps h).1⟩
  split at h
  · unfold widthG at h
    split at h
    · cases h
    · split at h
      · cases h
      · rename_i h1 h2
        cases h
        exact ⟨⟨hok.w24, hok.wv, hok.x, hok.y, hok.may, by simp only; omega, hok.ops⟩, rfl, rfl⟩
  split at h
  · exact tk _ start_may h
  split at h
  · exact linesG_keeps v M M' hok h
  split at h
  · exact tk _ (fun h0 => on_may (.inl rfl) h0) h
  split at h
  · exact tk _ (fun h0 => on_may (.inr ⟨rfl, rfl, rfl⟩) h0) h
  split at h
  · exact tk _ (fun h0 => on_may (.inr ⟨rfl, rfl, rfl⟩) h0) h
  split at h
  · exact tk _ shut_may h
  · cases h; exact ⟨⟨hok.w24, hok.wv, hok.x, hok.y, hok.may, hok.wide, hok.ops⟩, rfl, rfl⟩
theorem drawG_keeps {c : Nat} {M M' : GM} (hok : GOK M) (h : drawG c M = .ok M') : GOK M' ∧ M'.ops = M.ops ∧ M'.wait = [] := by
  unfold drawG at h
  split at h
  · cases h
  · split at h
    · cases h
    · split at h
      · cases h
      · cases ho : opG c { M with wait := [] } M.wait with
        | bad e => rw [ho] at h; cases h
        | ok M1 =>
          rw [ho] at h
          cases h
          obtain ⟨a1, a2, a3⟩ := opG_keeps (M := { M with wait := [] }) hok.nowait ho
          exact ⟨a1.drawn, a2, a3⟩
/-- How much may be left to do. -/
def measM (M : GM) : Nat := 1 + (1000 - M.ops) * 25 + (24 - M.wait.length)
/-- Behind a byte: under way, over, or wrong. -/
def LRel (g : Nat) (P : List ByteArray) (main : ByteArray) (R : GR) (μ : Nat) (w : World) : Prop :=
  (∃ F M, RM w g P main F M 0 ∧ FsOK P main F ∧ GOK M ∧ M.over = false ∧ R = kontF P main F M ∧ measM M < μ) ∨
  (∃ F M, RM w g P main F M 0 ∧ GOK M ∧ M.over = true ∧ R = .ok M) ∨ (∃ er, er ≠ 0 ∧ RX w g er ∧ R = .bad er)
theorem FsOK.set {P : List ByteArray} {main : ByteArray} {F0 : List (Int × Nat)} {i : Int} {a b : Nat} (h : FsOK P main (F0 ++ [(i, a)])) (hb : b ≤ (pcB P main (i, a)).size) : FsOK P main (F0 ++ [(i, b)]) := by
  refine ⟨by have := h.n1; simp at this ⊢, by have := h.n5; simp at this ⊢; omega, fun f hf => ?_⟩
  rcases List.mem_append.1 hf with h1 | h1
  · exact h.ok f (List.mem_append_left _ h1)
  · rw [List.mem_singleton] at h1; subst h1
    have := h.ok (i, a) (by simp)
    exact ⟨this.1, hb⟩

section
variable {w w' : World} {g : Nat} {P : List ByteArray} {main : ByteArray} {F F0 : List (Int × Nat)} {M : GM} {er : Int} {R : GR}
theorem number_step (i : Int) (a b : Nat) (h : RM w g P main (F0 ++ [(i, a + 1)]) M 0) (hF : FsOK P main (F0 ++ [(i, a)])) (hok : GOK M) (hov : M.over = false) (hR : R = kontF P main (F0 ++ [(i, a)]) M)
    (hlt : a < (pcB P main (i, a)).size) (hts : (pcB P main (i, a)).size ≤ 1000000) (hb : byt (pcB P main (i, a)) a = b) (h32 : 32 ≤ b) :
    Calls Tryz.prog 169 #[.pointer (some ⟨g, 0, none⟩), .int .i64 (b : Int)] w fun e w' => e = .returned (.tuple #[]) ∧ Below g w w' ∧ LRel g P main R (measM M) w' := by
  obtain ⟨T, hT⟩ : ∃ T, pcB P main (i, a) = T := ⟨_, rfl⟩
  have hb256 := byt_lt T a
  rw [hT] at hlt hts hb
  have hpc : PcOf P main i T := by have := (hF.ok (i, a) (by simp)).1.pc (main := main); rw [hT] at this; exact this
  have hset : ∀ n, n ≤ T.size → FsOK P main (F0 ++ [(i, n)]) := fun n hn => hF.set (by rw [hT]; exact hn)
  have hrest : ∀ n, restF P main (i, n) = (bl T).drop n := fun n => by rw [restF_is]; congr 1; rw [← hT]; rfl
  have hbl := bl_drop hlt
  rw [hb] at hbl
  have hF10 : F0.length ≤ 10 := by have := hF.n5; simp at this; omega
  have hR2 : R = match numG (b :: (bl T).drop (a + 1)) with
      | none => .bad 4
      | some (v, n) => if M.wait.length = 24 then .bad 8 else kontF P main (F0 ++ [(i, a + n)]) { M with wait := M.wait ++ [v] } := by
    rw [hR, kontF_snoc, hrest, hbl, kont_num hov h32, ← hbl]
    cases hn : numG ((bl T).drop a) with
    | none => rfl
    | some vn =>
      obtain ⟨v, n⟩ := vn
      simp only
      rw [kontF_snoc, hrest, List.drop_drop]
  have h24 := hok.w24
  -- the tail, told
  have fin : ∀ (v : Int) (n : Nat) (e : Ending) (w' : World), numG (b :: (bl T).drop (a + 1)) = some (v, n) → a + n ≤ T.size → TailP g P main (F0 ++ [(i, a + n)]) M 0 v w e w' → e = .returned (.tuple #[]) ∧ Below g w w' ∧ LRel g P main R (measM M) w' := by
    intro v n e w' hn hle ht
    obtain ⟨he, hB, hm⟩ := ht
    refine ⟨he, hB, ?_⟩
    rw [hn] at hR2
    simp only at hR2
    rw [if_pos rfl] at hm
    by_cases h4 : M.wait.length = 24
    · rw [if_pos h4] at hm hR2
      exact .inr (.inr ⟨8, by omega, hm.x, hR2⟩)
    · rw [if_neg h4] at hm hR2
      refine .inl ⟨_, _, hm, hset _ hle, hok.push h4 (numG_bd (s := b :: (bl T).drop (a + 1)) (by rw [← hbl]; exact fun x hx => bl_lt T x (List.mem_of_mem_drop hx)) hn), hov, hR2, ?_⟩
      unfold measM; simp only [List.length_append, List.length_singleton]; omega
  have bad : ∀ (v : Int) (k : Nat) (e : Ending) (w' : World), numG (b :: (bl T).drop (a + 1)) = none → TailP g P main (F0 ++ [(i, k)]) M 4 v w e w' → e = .returned (.tuple #[]) ∧ Below g w w' ∧ LRel g P main R (measM M) w' := by
    intro v k e w' hn ht
    obtain ⟨he, hB, hm⟩ := ht
    rw [hn] at hR2
    rw [if_neg (by omega)] at hm
    exact ⟨he, hB, .inr (.inr ⟨4, by omega, hm.x, hR2⟩)⟩
  by_cases h1 : b ≤ 246
  · refine (number_short g P main _ M b w h ⟨h32, h1⟩ h24).mono fun e w' ht => fin _ 1 e w' ?_ (by omega) ht
    simp only [numG]; rw [if_pos h1]
  · by_cases h2 : b = 255
    · subst h2
      refine (number_three g P main F0 i (a + 1) M T w h h24 hpc hts (by omega) hF10).mono fun e w' ht => ?_
      by_cases hl : a + 1 + 1 < T.size
      · rw [if_pos hl] at ht
        have e1 := bl_drop (T := T) (a := a + 1) (by omega)
        have e2 := bl_drop (T := T) (a := a + 1 + 1) hl
        refine fin _ 3 e w' ?_ (by omega) ht
        rw [e1, e2]; simp only [numG]; rw [if_neg (by omega), if_pos trivial]
      · rw [if_neg hl] at ht
        obtain ⟨v, k, ht⟩ := ht
        refine bad v k e w' ?_ ht
        simp only [numG]; rw [if_neg (by omega), if_pos trivial]
        have hl2 : ((bl T).drop (a + 1)).length ≤ 1 := by rw [List.length_drop, bl_len]; omega
        match (bl T).drop (a + 1), hl2 with
        | [], _ => rfl
        | [_], _ => rfl
    · refine (number_two g P main F0 i (a + 1) M T b w h ⟨by omega, by omega⟩ h24 hpc hts (by omega) hF10).mono fun e w' ht => ?_
      by_cases hl : a + 1 < T.size
      · rw [if_pos hl] at ht
        have e1 := bl_drop (T := T) (a := a + 1) hl
        refine fin _ 2 e w' ?_ (by omega) ht
        rw [e1]; simp only [numG]; rw [if_neg h1, if_neg h2]
      · rw [if_neg hl] at ht
        obtain ⟨v, ht⟩ := ht
        refine bad v _ e w' ?_ ht
        simp only [numG]; rw [if_neg h1, if_neg h2, bl_drop0 (by omega)]
theorem cnt_takes {b m : Nat} {t : Int} (h : cntE b m = 0) (ht : takesR b = t) (h0 : 0 ≤ t) : (m : Int) = t := by
  unfold cntE at h
  rw [ht, if_neg (by omega)] at h
  split at h
  · omega
  · rename_i h1
    rw [not_or, not_or] at h1
    obtain ⟨_, _, h3⟩ := h1
    split at h
    · omega
    · omega
theorem do_draw (b : Nat) (h : RM w g P main F M 0) (hok : GOK M) (ho : M.ops < 1000) (h32 : b < 32) (h8 : b ≠ 8) (h9 : b ≠ 9) (hz : cntE b M.wait.length = 0) :
    Calls Tryz.prog 170 #[.pointer (some ⟨g, 0, none⟩), .int .i64 (b : Int)] w (DoP g P main F w (drawG b { M with ops := M.ops + 1 })) := by
  have hc := fun t (ht : takesR b = t) (h0 : (0 : Int) ≤ t) => cnt_takes hz ht h0
  rcases byte_cases h32 with rfl | rfl | rfl | rfl | rfl | rfl | rfl | rfl | rfl | rfl | rfl | rfl | h12
  · exact absurd hz (by have h1 : takesR 0 = -2 := rfl; unfold cntE; rw [if_pos h1]; omega)
  · exact do1 h hok ho (by have := hc 1 rfl (by omega); omega)
  · exact do2 h hok ho (by have := hc 2 rfl (by omega); omega)
  · exact do3 h hok ho (by have := hc 2 rfl (by omega); omega)
  · exact do4 h hok ho (by have := hc 4 rfl (by omega); omega)
  · exact do5 h hok ho (by have := hc 1 rfl (by omega); omega)
  · exact do6 h hok ho (by have := hc 1 rfl (by omega); omega)
  · exact do7 h hok ho (by have := hc 0 rfl (by omega); omega)
  · exact absurd rfl h8
  · exact absurd rfl h9
  · exact do10 h hok ho (by have := hc 0 rfl (by omega); omega)
  · have h1 : takesR 11 = -1 := rfl
    have hm : ¬ (M.wait.length = 0 ∨ M.wait.length % 2 = 1) := by
      intro hm
      unfold cntE at hz
      rw [h1, if_neg (by omega), if_pos (.inr (.inl ⟨rfl, hm⟩))] at hz
      omega
    exact do11 _ h hok ho rfl (by omega) (by omega)
  · exact absurd hz (by
      have h1 : takesR b = -2 := by unfold takesR; rw [if_neg (by omega), if_neg (by omega), if_neg (by omega), if_neg (by omega), if_neg (by omega)]
      unfold cntE; rw [if_pos h1]; omega)
theorem do_step (i : Int) (a b : Nat) (h : RM w g P main (F0 ++ [(i, a + 1)]) M 0) (hF : FsOK P main (F0 ++ [(i, a)])) (hok : GOK M) (hov : M.over = false) (hP : P.length ≤ 16) (hR : R = kontF P main (F0 ++ [(i, a)]) M)
    (hlt : a < (pcB P main (i, a)).size) (hb : byt (pcB P main (i, a)) a = b) (h32 : b < 32) :
    Calls Tryz.prog 170 #[.pointer (some ⟨g, 0, none⟩), .int .i64 (b : Int)] w fun e w' => e = .returned (.tuple #[]) ∧ Below g w w' ∧ LRel g P main R (measM M) w' := by
  obtain ⟨T, hT⟩ : ∃ T, pcB P main (i, a) = T := ⟨_, rfl⟩
  rw [hT] at hlt hb
  have hset : ∀ n, n ≤ T.size → FsOK P main (F0 ++ [(i, n)]) := fun n hn => hF.set (by rw [hT]; exact hn)
  have hrest : ∀ n, restF P main (i, n) = (bl T).drop n := fun n => by rw [restF_is]; congr 1; rw [← hT]; rfl
  have hbl := bl_drop hlt
  rw [hb] at hbl
  have hF5 := hF.n5
  rw [snoc_len] at hF5
  have h24 := hok.w24
  have ho := hok.ops
  have hnb : ¬ 32 ≤ b := by omega
  rw [kontF_snoc, hrest, hbl] at hR
  have hlr : (F0.reverse.map (restF P main)).length = F0.length := by simp
  by_cases hl : M.ops = 1000
  · refine (do_limit b h32 h hok hl).mono ?_; rintro e w' ⟨rfl, hB, hx⟩
    rw [kont_lim hov hnb (by omega)] at hR
    exact ⟨rfl, hB, .inr (.inr ⟨5, by omega, hx, hR⟩)⟩
  · have hl9 : M.ops < 1000 := by omega
    by_cases h8 : b = 8
    · subst h8
      rw [kont_call hov (by omega) (by rw [hlr]; omega)] at hR
      cases hw : M.wait.length with
      | zero =>
        have hw0 : M.wait = [] := List.eq_nil_of_length_eq_zero hw
        rw [hw0] at hR
        refine (do_bad 8 (by omega) 7 h hok hl9 (by rw [hw]; decide) (by omega)).mono ?_; rintro e w' ⟨rfl, hB, hx⟩
        exact ⟨rfl, hB, .inr (.inr ⟨7, by omega, hx, hR⟩)⟩
      | succ n =>
        obtain ⟨q, hq⟩ : ∃ q, M.wait[n]?.getD 0 = q := ⟨_, rfl⟩
        rw [last_is hw, hq] at hR
        simp only [hlr, List.length_map] at hR
        refine (do8 n q h hok hl9 hw hq (by rw [snoc_len]; omega) hP).mono ?_; rintro e w' ⟨rfl, hB, hr⟩
        refine ⟨rfl, hB, ?_⟩
        by_cases h3 : q < 0 ∨ (P.length : Int) ≤ q
        · rw [if_pos h3] at hr hR
          exact .inr (.inr ⟨3, by omega, hr, hR⟩)
        · rw [if_neg h3] at hr hR
          rw [snoc_len] at hr
          by_cases h4 : 4 < F0.length + 1
          · rw [if_pos h4] at hr
            rw [if_pos (by omega)] at hR
            exact .inr (.inr ⟨5, by omega, hr, hR⟩)
          · rw [if_neg h4] at hr
            rw [if_neg (by omega)] at hR
            have hs1 := hset (a + 1) (by omega)
            refine .inl ⟨_, _, hr, ⟨by simp, by simp; omega, fun f hf => ?_⟩, ?_, hov, ?_, ?_⟩
            · rcases List.mem_append.1 hf with h1 | h1
              · exact hs1.ok f h1
              · rw [List.mem_singleton] at h1; subst h1
                exact ⟨.inr (by simp only; omega), Nat.zero_le _⟩
            · have := (hok.stepped (k := M.ops + 1) (by omega)).pop; exact this
            · rw [hR, kontF_snoc, restF_is, List.reverse_append, List.reverse_singleton]
              simp only [List.singleton_append, List.map_cons, hrest]
              congr 2
              unfold pcB
              simp only
              rw [if_neg (by omega), List.getElem?_map, List.drop_zero, List.getElem?_eq_getElem (by omega)]
              rfl
            · unfold measM; simp only [List.length_dropLast]; omega
    · by_cases h9 : b = 9
      · subst h9
        refine (do9 i (a + 1) h hok hl9 (by omega)).mono ?_; rintro e w' ⟨rfl, hB, hr⟩
        refine ⟨rfl, hB, ?_⟩
        by_cases h0 : F0.length = 0
        · rw [if_pos h0] at hr
          obtain rfl := List.eq_nil_of_length_eq_zero h0
          simp only [List.reverse_nil, List.map_nil] at hR
          rw [kont_back0 hov (by omega)] at hR
          exact .inr (.inr ⟨3, by omega, hr, hR⟩)
        · rw [if_neg h0] at hr
          rw [kont_back hov (by omega) (by intro e; have := congrArg List.length e; rw [hlr] at this; simp at this; exact h0 (by rw [this]; rfl))] at hR
          refine .inl ⟨_, _, hr, ⟨by omega, by omega, fun f hf => hF.ok f (List.mem_append_left _ hf)⟩, hok.stepped (by omega), hov, hR, ?_⟩
          unfold measM; simp only; omega
      · rw [kont_draw hov hnb (by omega) h8 h9] at hR
        have hD : Calls Tryz.prog 170 #[.pointer (some ⟨g, 0, none⟩), .int .i64 (b : Int)] w (DoP g P main (F0 ++ [(i, a + 1)]) w (drawG b { M with ops := M.ops + 1 })) := by
          by_cases hz : cntE b M.wait.length = 0
          · exact do_draw b h hok hl9 h32 h8 h9 hz
          · refine (do_bad b h32 _ h hok hl9 rfl hz).mono ?_; rintro e w' ⟨rfl, hB, hx⟩
            refine ⟨rfl, hB, ?_⟩
            rw [(draw_cnt h32 h8 h9 { M with ops := M.ops + 1 }).1 hz]
            exact ⟨hz, hx⟩
        refine hD.mono ?_; rintro e w' ⟨rfl, hB, hr⟩
        refine ⟨rfl, hB, ?_⟩
        cases hd : drawG b { M with ops := M.ops + 1 } with
        | bad z =>
          rw [hd] at hr hR
          exact .inr (.inr ⟨z, hr.1, hr.2, hR⟩)
        | ok M' =>
          rw [hd] at hr hR
          obtain ⟨k1, k2, k3⟩ := drawG_keeps (hok.stepped (k := M.ops + 1) (by omega)) hd
          simp only at hR hr k2
          cases hv : M'.over
          · rw [hv] at hR
            simp only [Bool.false_eq_true, if_false] at hR
            refine .inl ⟨_, _, hr, hset (a + 1) (by omega), k1, hv, ?_, ?_⟩
            · rw [hR, kontF_snoc, hrest]
            · unfold measM; rw [k2, k3]; simp only [List.length_nil]; omega
          · rw [hv] at hR
            simp only [if_true] at hR
            exact .inr (.inl ⟨_, _, hr, k1, hv, hR⟩)
end
end Go.Proofs.YtdfkbbcoolgfiaaGreat

namespace Go.Proofs.YtdfkbbcoolgfiaaGreat
open Go.RowKit Go.BigFrame

theorem bel_drewN {b : Nat} {w w' : World} (h : Below b w w') (n : Nat) : Below b w (w'.drewN n) := h.trans ⟨rfl, rfl, rfl, Nat.le_refl _, fun _ _ => rfl⟩
def boolV : Value → Bool | .bool b => b | _ => true
def lenV : Value → Nat | .slice _ n _ => n | _ => 0
def measR (g : Nat) (w : World) : Nat :=
  if intOf ((w.cell? ⟨g, 12, none⟩).getD (.int .i64 1)) = 0 ∧ boolV ((w.cell? ⟨g, 11, none⟩).getD (.bool true)) = false then
    1 + (1000 - (intOf ((w.cell? ⟨g, 10, none⟩).getD (.int .i64 0))).toNat) * 25 + (24 - lenV ((w.cell? ⟨g, 4, none⟩).getD (.int .i64 0))) else 0
theorem measR_run {w : World} {g : Nat} {P : List ByteArray} {main : ByteArray} {F : List (Int × Nat)} {M : GM} (h : RM w g P main F M 0) (ho : M.over = false) : measR g w = measM M := by
  obtain ⟨ρ, Ap, cp, Ai, ci, Aa, ca, Aw, cw, Al, cl, h⟩ := h
  have c12 := h.rc.c 12 _ rfl
  have c11 := h.rc.c 11 _ rfl
  have c10 := h.rc.c 10 _ rfl
  have c4 := h.rc.c 4 _ rfl
  unfold measR measM
  rw [c12, c11, c10, c4, ho]
  simp [intOf, boolV, lenV]
theorem measR_over {w : World} {g : Nat} {P : List ByteArray} {main : ByteArray} {F : List (Int × Nat)} {M : GM} (h : RM w g P main F M 0) (ho : M.over = true) : measR g w = 0 := by
  obtain ⟨ρ, Ap, cp, Ai, ci, Aa, ca, Aw, cw, Al, cl, h⟩ := h
  have c11 := h.rc.c 11 _ rfl
  unfold measR
  rw [c11, ho]
  simp [boolV]
theorem measR_bad {w : World} {g : Nat} {er : Int} (h : RX w g er) (he : er ≠ 0) : measR g w = 0 := by
  unfold measR
  rw [h.2]
  simp [intOf, he]
theorem LRel.less {w : World} {g : Nat} {P : List ByteArray} {main : ByteArray} {R : GR} {M : GM} (h : LRel g P main R (measM M) w) : measR g w < measM M := by
  have h1 : 1 ≤ measM M := by unfold measM; omega
  rcases h with ⟨F, M', hr, _, _, ho, _, hm⟩ | ⟨F, M', hr, _, ho, _⟩ | ⟨er, he, hx, _⟩
  · rw [measR_run hr ho]; exact hm
  · rw [measR_over hr ho]; omega
  · rw [measR_bad hx he]; omega
theorem LRel.any {w : World} {g : Nat} {P : List ByteArray} {main : ByteArray} {R : GR} {μ : Nat} (h : LRel g P main R μ w) : ∃ μ, LRel g P main R μ w := ⟨μ, h⟩
/-- Where Run begins. -/
theorem beg_rel {w w' : World} {p : ByteArray} {e : Ending} (h : BegP w p e w') : e = .returned (.pointer (some ⟨w.heap.size, 0, none⟩)) ∧ Below w.heap.size w w' ∧ ∃ (P : List ByteArray) (main : ByteArray) (R : GR) (μ : Nat), RunG (bl p) = endG R ∧ P.length ≤ 16 ∧ (∀ q ∈ P, q.size ≤ 1000000) ∧ main.size ≤ 1000000 ∧ LRel w.heap.size P main R μ w' := by
  obtain ⟨he, hb, P, main, er, hs, hP, ⟨hq, hm⟩, hr⟩ := h
  refine ⟨he, hb, P, main, ?_⟩
  by_cases h0 : er = 0
  · subst h0
    rw [if_pos rfl] at hr
    refine ⟨kontF P main [(-1, 0)] startG, measM startG + 1, ?_, hP, hq, hm, .inl ⟨_, _, hr, ⟨by simp, by simp, fun f hf => ?_⟩, start_ok, rfl, rfl, Nat.lt_succ_self _⟩⟩
    · unfold RunG; rw [hs]; simp only [if_true]
      congr 1
    · rw [List.mem_singleton] at hf; subst hf
      exact ⟨.inl (by simp only; omega), Nat.zero_le _⟩
  · rw [if_neg h0] at hr
    refine ⟨.bad er, 0, ?_, hP, hq, hm, .inr (.inr ⟨er, h0, hr, rfl⟩)⟩
    unfold RunG; rw [hs]; simp only; rw [if_neg h0]; rfl
theorem pc_size {P : List ByteArray} {main : ByteArray} {f : Int × Nat} (hq : ∀ q ∈ P, q.size ≤ 1000000) (hm : main.size ≤ 1000000) : (pcB P main f).size ≤ 1000000 := by
  unfold pcB
  split
  · exact hm
  · cases h : P[f.1.toNat]? with
    | none => simp
    | some q => exact hq q (List.mem_of_getElem? h)
set_option maxRecDepth 100000 in
set_option maxHeartbeats 2000000 in
theorem ref_Run_any (p : ByteArray) (w : World) (hp : p.size ≤ 1000000) :
    Calls Tryz.prog 145 #[.string p] w fun e w' => ∃ (L : List Sg) (wd er : Int) (A : Option Addr) (n c : Nat), e = .returned (.tuple #[.slice A n c, .int .i64 wd, .int .i64 er]) ∧ RunG (bl p) = ((L, wd), er) ∧ L.length = n ∧ n ≤ c ∧
      Sl w' 5 A n (sgs L) ∧ Below w.heap.size w w' := by
  go_enter Tryz.func145, Tryz.ntmps145
  go_wp2_with fail
  refine (begin_any p w hp).mono ?_; rintro e w1 hbeg
  obtain ⟨rfl, hb1, P, main, R, μ0, hRG, hP, hq, hm, hL⟩ := beg_rel hbeg
  have HRG := Lib.hid hRG
  have HQ := Lib.hid hq
  have HL := Lib.hid hL
  clear hbeg hRG hq hL
  obtain ⟨g, hg⟩ : ∃ g, w.heap.size = g := ⟨_, rfl⟩
  rw [hg] at HL hb1 ⊢
  have HG := Lib.hid hg
  clear hg
  go_wp2_with fail
  go_loopw [6] (fun _ wr => ∃ μ, Hid (LRel g P main R μ wr) ∧ Below g w wr) (fun _ wr => measR g wr)
  case atStart => exact ⟨μ0, HL, hb1⟩
  case round =>
    obtain ⟨μ, hLR, hbr⟩ := hrel
    clear HL hb1
    rcases hLR.out with ⟨F, M, hr, hFs, hok, hov, hR, hmu⟩ | ⟨F, M, hr, hok, hov, hR⟩ | ⟨er, he, hx, hR⟩
    · obtain ⟨F0, ⟨i, a⟩, rfl⟩ := split_last hFs.n1
      have hmr := measR_run hr hov
      have HN := Lib.hid (next_any g P main F0 i a M 0 (pcB P main (i, a)) wr hr (hFs.ok (i, a) (by simp)).1.pc (pc_size HQ.out hm) (hFs.ok (i, a) (by simp)).2 (by have := hFs.n5; simp at this; omega))
      have hts : (pcB P main (i, a)).size ≤ 1000000 := pc_size HQ.out hm
      have HRR := Lib.hid hR
      have HFS := Lib.hid hFs
      have HOK := Lib.hid hok
      obtain ⟨ρ, Ap, cp, Ai, ci, Aa, ca, Aw, cw, Al, cl, hM⟩ := hr
      have c12 := hM.rc.c 12 _ rfl
      have c11 := hM.rc.c 11 _ rfl
      rw [hov] at c11
      have HOV := Lib.hid hov
      clear hM hR hFs hok hov hLR hmu
      go_wp2_with fail
      refine HN.out.mono ?_; rintro e w2 ⟨hb2, hn2⟩
      have hbb := hbr.trans hb2
      by_cases hlt : a < (pcB P main (i, a)).size
      · rw [if_pos hlt] at hn2
        obtain ⟨rfl, hr2⟩ := hn2
        obtain ⟨b, hb⟩ : ∃ b, byt (pcB P main (i, a)) a = b := ⟨_, rfl⟩
        rw [hb]
        have HR2 := Lib.hid hr2
        obtain ⟨ρ2, Ap2, cp2, Ai2, ci2, Aa2, ca2, Aw2, cw2, Al2, cl2, hM2⟩ := hr2
        have d12 := hM2.rc.c 12 _ rfl
        clear hM2
        by_cases h32 : 32 ≤ b
        · have HC := Lib.hid (number_step i a b HR2.out HFS.out HOK.out HOV.out HRR.out hlt hts hb h32)
          have hd : decide ((b : Int) ≥ 32) = true := by simp; omega
          go_wp2_with fail
          refine HC.out.mono ?_; rintro e w3 ⟨rfl, hb3, hl3⟩
          have HL3 := Lib.hid hl3
          have hless := hl3.less
          clear hl3
          go_wp2_with fail
          go_roundw
          case rel => exact ⟨_, HL3, hbb.trans hb3⟩
          case measure => rw [hmr]; exact hless
        · have HC := Lib.hid (do_step i a b HR2.out HFS.out HOK.out HOV.out hP HRR.out hlt hb (by omega))
          have hd : decide ((b : Int) ≥ 32) = false := by simp; omega
          go_wp2_with fail
          refine HC.out.mono ?_; rintro e w3 ⟨rfl, hb3, hl3⟩
          have HL3 := Lib.hid hl3
          have hless := hl3.less
          clear hl3
          go_wp2_with fail
          go_roundw
          case rel => exact ⟨_, HL3, hbb.trans hb3⟩
          case measure => rw [hmr]; exact hless
      · rw [if_neg hlt] at hn2
        obtain ⟨rfl, hr2⟩ := hn2
        simp only [if_true] at hr2
        have hR4 : R = .bad 4 := by
          rw [HRR.out, kontF_snoc, restF_is, bl_drop0 (by have := (HFS.out.ok (i, a) (by simp)).2; simp only; omega), kont_end HOV.out]
        have HX := Lib.hid (show LRel g P main R (measM M) w2 from .inr (.inr ⟨4, by omega, hr2.x, hR4⟩))
        have hless := HX.out.less
        obtain ⟨hx1, hx2⟩ := hr2.x
        clear hr2
        go_wp2_with fail
        go_roundw
        case rel => exact ⟨_, HX, hbb⟩
        case measure => rw [hmr]; exact hless
    · have HR2 := Lib.hid (show RunG (bl p) = ((M.l, M.wide), 0) by rw [HRG.out, hR]; rfl)
      obtain ⟨ρ, Ap, cp, Ai, ci, Aa, ca, Aw, cw, Al, cl, hM⟩ := hr
      have c12 := hM.rc.c 12 _ rfl
      have c11 := hM.rc.c 11 _ rfl
      have c7 := hM.rc.c 7 _ rfl
      have c8 := hM.rc.c 8 _ rfl
      rw [hov] at c11
      have HM := Lib.hid hM
      clear hM hR hov hLR hok
      go_wp2_with fail
      go_quiet (fail)
      go_wp2_with fail
      go_ret3
      exact ⟨M.l, M.wide, 0, Al, _, cl, rfl, HR2.out, rfl, HM.out.lc, HM.out.rr.hl.below (bdrewN (Below.refl _ _) _), by rw [HG.out]; exact bel_drewN hbr nq⟩
    · have HR2 := Lib.hid (show RunG (bl p) = (([], 0), er) by rw [HRG.out, hR]; rfl)
      obtain ⟨hx1, hx2⟩ := hx
      have hz0 : (er == 0) = false := by simp [he]
      have hz1 : (er != 0) = true := by simp [he]
      clear hR hLR
      go_wp2_with fail
      go_quiet (fail)
      go_wp2_with fail
      go_ret3
      exact ⟨[], 0, er, none, 0, 0, rfl, HR2.out, rfl, Nat.le_refl _, Sl.nil_, by rw [HG.out]; exact bel_drewN hbr nq⟩
end Go.Proofs.YtdfkbbcoolgfiaaGreat
