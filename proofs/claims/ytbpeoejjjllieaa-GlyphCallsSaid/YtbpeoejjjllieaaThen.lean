/- A region that draws its order: first what only reads, then calls whose order is forced: one walk, in the text's order. -/
import Derived.Test.YtbpeoejjjllieaaBase
import Derived.Deep.RegionHeld3
namespace Go.Proofs.Ytbpeoejjjllieaa

section
variable {P : Program} {md : Region.Mode} {ops : Array Oper} {C : World → Prop} {Q : Exit → Act → World → Prop}

/-- Operations ahead of c are quiet in the class C; behind them: whatever. -/
def wpAnyM (P : Program) (md : Region.Mode) (ops : Array Oper) (C : World → Prop) (Q : Exit → Act → World → Prop) (c : Nat) : Nat → Array Bool → Act → Prop
  | 0, listed, a => Region.ready md ops listed = [] ∧ ∀ w, C w → Q .normal a w
  | fuel + 1, listed, a =>
    (Region.ready md ops listed = [] → ∀ w, C w → Q .normal a w) ∧
    ∀ i ∈ Region.ready md ops listed, if i < c then qOp P ops C i (wpAnyM P md ops C Q c fuel (listed.setIfInBounds i true)) a else ∀ w, C w → wpOp P ops Q i (wpAny P md ops Q fuel (listed.setIfInBounds i true)) a w
theorem wpAny_of_M {c : Nat} : ∀ (fuel : Nat) (listed : Array Bool) (a : Act) (w : World), C w → wpAnyM P md ops C Q c fuel listed a → wpAny P md ops Q fuel listed a w
  | 0, _, _, _, hw, h => ⟨h.1, h.2 _ hw⟩
  | fuel + 1, _, _, w, hw, h => ⟨fun h0 => h.1 h0 w hw, fun i hi => by
      have h1 := h.2 i hi
      split at h1
      · exact wpOp_of_qOp hw (fun a' w' hw' h' => wpAny_of_M fuel _ a' w' hw' h') h1
      · exact h1 w hw⟩

def waitsOn (md : Region.Mode) (ops : Array Oper) (i : Nat) (bs : List Nat) (d : Nat) : Bool :=
  match ops[d]? with
  | some o => o.after.toList.any fun e => Region.binds md e && (e.on == i || bs.contains e.on)
  | none => false
def blkL (md : Region.Mode) (ops : Array Oper) (i : Nat) : List Nat :=
  (List.range ops.size).foldl (fun acc j => if waitsOn md ops i acc j then acc ++ [j] else acc) []
/-- All from c on wait for number i. -/
def blkB (md : Region.Mode) (ops : Array Oper) (c : Nat) (listed : Array Bool) (i : Nat) : Bool :=
  (blkL md ops i).all (fun d => !listed.getD d false && waitsOn md ops i (blkL md ops i) d) && (List.range ops.size).all fun d => decide (d < c) || (blkL md ops i).contains d

theorem not_blk {i j : Nat} {bs : List Nat} {listed : Array Bool} (hw : ∀ d ∈ bs, waitsOn md ops i bs d = true) (hu : ∀ d ∈ bs, listed.getD d false = false) (hi : listed.getD i true = false) (hj : j ∈ Region.ready md ops listed) : j ∉ bs := by
  intro hm
  have h1 := hw j hm
  obtain ⟨_, o, ho, hall⟩ := mem_ready.1 hj
  unfold waitsOn at h1
  rw [ho] at h1
  simp only [List.any_eq_true, Bool.and_eq_true, Bool.or_eq_true, beq_iff_eq, List.contains_iff_mem] at h1
  obtain ⟨e, he, hb, hon⟩ := h1
  have h2 := hall e (by simpa using he) hb
  rcases hon with hon | hon
  · rw [hon] at h2
    rcases Nat.lt_or_ge i listed.size with h' | h'
    · simp [h'] at hi h2; rw [hi] at h2; cases h2
    · simp [Array.getElem?_eq_none h'] at h2
  · rw [hu _ hon] at h2; cases h2

theorem wpAnyM_first {c i : Nat} {oi : Oper} {v : Value} {bs : List Nat} (hi : ops[i]? = some oi) (hic : i < c) (hsel : ∀ (j : Nat) (o : Oper) cs b, ops[j]? = some o → o.op ≠ .select cs b)
    (hw : ∀ d ∈ bs, waitsOn md ops i bs d = true) (hc : ∀ d, d < ops.size → d < c ∨ d ∈ bs) :
    ∀ (fuel : Nat) (listed : Array Bool) (a : Act),
      (∀ j oj, ops[j]? = some oj → j ≠ i → listed.getD j true = false → (∀ e ∈ oj.after, Region.binds md e = true → e.on ≠ i) → oi.apart ops oj = true) →
      (∀ d ∈ bs, listed.getD d false = false) →
      i ∈ Region.ready md ops listed → YieldsIn P ops C oi v a →
      wpAnyM P md ops C Q c fuel (listed.setIfInBounds i true) (a.put oi.dst v) → wpAnyM P md ops C Q c (fuel + 1) listed a := by
  intro fuel
  induction fuel with
  | zero =>
    intro listed a _ _ hr hy H
    refine ⟨fun h => (by rw [h] at hr; cases hr), fun j hj => ?_⟩
    by_cases hji : j = i
    · subst hji; rw [if_pos hic]; exact hy.qOp hi H
    · have := ready_mono hj hji
      rw [H.1] at this
      cases this
  | succ fuel ih =>
    intro listed a hfree hu hr hy H
    refine ⟨fun h => (by rw [h] at hr; cases hr), fun j hj => ?_⟩
    by_cases hji : j = i
    · subst hji; rw [if_pos hic]; exact hy.qOp hi H
    · have hnb := not_blk hw hu (mem_ready.1 hr).1 hj
      obtain ⟨hjun, oj, hoj, hall⟩ := mem_ready.1 hj
      have hjs : j < ops.size := (Array.getElem?_eq_some_iff.1 hoj).1
      have hjc : j < c := (hc j hjs).resolve_right hnb
      have h1 := H.2 j (ready_mono hj hji)
      rw [if_pos hjc] at h1 ⊢
      have hnot : ∀ e ∈ oj.after, Region.binds md e = true → e.on ≠ i := fun e he hb heq => by
        have h1 := hall e he hb
        have h0 := (mem_ready.1 hr).1
        rw [heq] at h1
        rcases Nat.lt_or_ge i listed.size with h' | h'
        · simp [h'] at h0 h1; rw [h0] at h1; cases h1
        · simp [Array.getElem?_eq_none h'] at h1
      have h2 := qOp_put hoj (hfree j oj hoj hji hjun hnot) (fun cs b => hsel i oi cs b hi) (fun cs b => hsel j oj cs b hoj) hy h1
      have hfree' : ∀ k ok, ops[k]? = some ok → k ≠ i → (listed.setIfInBounds j true).getD k true = false →
          (∀ e ∈ ok.after, Region.binds md e = true → e.on ≠ i) → oi.apart ops ok = true := fun k ok hk hki hun hno => by
        refine hfree k ok hk hki ?_ hno
        by_cases hjk : j = k
        · subst hjk; exact hjun
        · rw [getD_set_ne true hjk] at hun; exact hun
      have hu' : ∀ d ∈ bs, (listed.setIfInBounds j true).getD d false = false := fun d hd => by
        have hjd : j ≠ d := fun e => hnb (e ▸ hd)
        rw [getD_set_ne false hjd]; exact hu d hd
      refine qOp_mono (fun a' h3 => ih (listed.setIfInBounds j true) a' hfree' hu' (ready_mono hr (Ne.symm hji)) h3.1 ?_) h2
      rw [Array.setIfInBounds_comm _ _ hji]
      exact h3.2

def lexC (md : Region.Mode) (ops : Array Oper) (c : Nat) : Nat → Nat → Array Bool → Bool
  | 0, _, listed => (Region.ready md ops listed).all fun i => decide (c ≤ i)
  | fuel + 1, k, listed => (Region.ready md ops listed).contains k && Region.free md ops listed k && decide (k < c) && blkB md ops c listed k && lexC md ops c fuel (k + 1) (listed.setIfInBounds k true)
/-- The array of what has come up: k operations more. -/
def listK : Nat → Nat → Array Bool → Array Bool
  | 0, _, listed => listed
  | n + 1, k, listed => listK n (k + 1) (listed.setIfInBounds k true)
theorem wpAnyM_lex {c m : Nat} (hs : Region.noSelect ops = true) : ∀ (l : List Oper) (k : Nat) (listed : Array Bool) (a : Act), (∀ j, j < l.length → l[j]? = ops[k + j]?) →
    lexC md ops c l.length k listed = true → wpQuiet P ops C (fun a' => ∀ w, C w → wpAny P md ops Q (m + 1) (listK l.length k listed) a' w) l a → wpAnyM P md ops C Q c (l.length + (m + 1)) listed a
  | [], _, listed, a, _, hB, h => by
    simp only [lexC, List.length_nil, List.all_eq_true, decide_eq_true_eq] at hB
    simp only [List.length_nil, Nat.zero_add]
    refine ⟨fun h0 w hw => (h w hw).1 h0, fun i hi => ?_⟩
    rw [if_neg (by have := hB i hi; omega)]
    exact fun w hw => (h w hw).2 i hi
  | o :: l, k, listed, a, hl, hB, h => by
    have h0 : ops[k]? = some o := by simpa using (hl 0 (by simp)).symm
    simp only [List.length_cons, lexC, Bool.and_eq_true, decide_eq_true_eq] at hB
    obtain ⟨⟨⟨⟨hr, hf⟩, hkc⟩, hb⟩, hB'⟩ := hB
    have hst : qOp P ops C k (wpQuiet P ops C (fun a' => ∀ w, C w → wpAny P md ops Q (m + 1) (listK (l.length + 1) k listed) a' w) l) a := by unfold qOp; simp only [h0]; exact h
    obtain ⟨v, hy, hK⟩ := yieldsIn_of_qOp h0 hst
    simp only [blkB, Bool.and_eq_true, List.all_eq_true, Bool.not_eq_true', List.mem_range, Bool.or_eq_true, decide_eq_true_eq, List.contains_iff_mem] at hb
    obtain ⟨hb1, hb2⟩ := hb
    have hlen : (o :: l).length + (m + 1) = (l.length + (m + 1)) + 1 := by simp only [List.length_cons]; omega
    rw [hlen]
    exact wpAnyM_first h0 hkc (Region.noSelect_spec hs) (fun d hd => (hb1 d hd).2) hb2 (l.length + (m + 1)) listed a (Region.free_spec h0 hf) (fun d hd => (hb1 d hd).1) (by simpa using hr) hy
      (wpAnyM_lex hs l (k + 1) _ _ (fun j hj => by have := hl (j + 1) (by simp; omega); simpa [Nat.add_assoc, Nat.add_comm 1 j] using this) hB' hK)

def pureO (o : Oper) : Bool := o.guard.isNone && match o.op with | .extract .. => true | .assign _ => true | .move _ => true | _ => false
def seqB (md : Region.Mode) (ops : Array Oper) : Nat → Nat → Array Bool → Bool
  | 0, _, listed => (Region.ready md ops listed).isEmpty
  | f + 1, k, listed => (Region.ready md ops listed == [k] || ((match ops[k]? with | some o => pureO o | none => false) && (Region.ready md ops listed).contains k && Region.free md ops listed k)) && seqB md ops f (k + 1) (listed.setIfInBounds k true)
theorem pure_yields {o : Oper} {a : Act} {w : World} {K : Act → World → Prop} (hp : pureO o = true) (h : o.wp P a w K Q) : ∃ v, Yields P ops o v a ∧ K (a.put o.dst v) w := by
  simp only [pureO, Bool.and_eq_true, Option.isNone_iff_eq_none] at hp
  obtain ⟨hg, hk⟩ := hp
  have hw : Region.wanted o (yielded ops a.tmps) = true := by simp [Region.wanted, hg]
  unfold Oper.wp at h
  cases hop : o.op <;> rw [hop] at hk <;> simp only [Bool.false_eq_true] at hk
  · rename_i x
    have he : ∀ w, (execOp a.eval o).run P w = .ok (.value (a.eval x)) w := fun w => by simp [execOp, hop]
    rw [he] at h
    exact ⟨_, .inl ⟨hw, he⟩, h⟩
  · rename_i x
    have he : ∀ w, (execOp a.eval o).run P w = .ok (.value (a.eval x)) w := fun w => by simp [execOp, hop]
    rw [he] at h
    exact ⟨_, .inl ⟨hw, he⟩, h⟩
  · rename_i x i
    have he : ∀ w, (execOp a.eval o).run P w = (Instr.extract (a.eval x) i >>= fun v => pure (.value v)).run P w := fun w => by simp [execOp, hop]
    rw [he] at h
    unfold Instr.extract at h he
    split at h
    · rename_i vs hvs
      split at h
      · rename_i v hv
        have he2 : ∀ w, (execOp a.eval o).run P w = .ok (.value v) w := fun w => by rw [he, hvs]; simp [hv]
        exact ⟨v, .inl ⟨hw, he2⟩, by simpa [Oper.upon] using h⟩
      · simp [stuck, Oper.upon] at h
    · simp [stuck, Oper.upon] at h
theorem wpAny_seq (hs : Region.noSelect ops = true) (hQ : ∀ c d v a w, Q (.panic c) (Act.put a d v) w → Q (.panic c) a w) (hL : ∀ a w, ¬ Q .outgrown a w) : ∀ (l : List Oper) (k : Nat) (listed : Array Bool) (a : Act) (w : World), (∀ j, l[j]? = ops[k + j]?) →
    seqB md ops l.length k listed = true → wpList P ops Q l a w → wpAny P md ops Q l.length listed a w
  | [], _, listed, _, _, _, hB, h => ⟨by simpa [seqB] using hB, h⟩
  | o :: l, k, listed, a, w, hl, hB, h => by
    have h0 : ops[k]? = some o := by simpa using (hl 0).symm
    simp only [List.length_cons, seqB, Bool.and_eq_true, Bool.or_eq_true, beq_iff_eq] at hB
    obtain ⟨hB1, hB2⟩ := hB
    have hrec : ∀ a' w', wpList P ops Q l a' w' → wpAny P md ops Q l.length (listed.setIfInBounds k true) a' w' := fun a' w' h' =>
      wpAny_seq hs hQ hL l (k + 1) _ _ _ (fun j => by have := hl (j + 1); simpa [Nat.add_assoc, Nat.add_comm 1 j] using this) hB2 h'
    have hop : wpOp P ops Q k (wpList P ops Q l) a w := by unfold wpOp; simp only [h0]; exact h
    rcases hB1 with hr | ⟨⟨hp, hr⟩, hf⟩
    · refine ⟨fun he => (by rw [hr] at he; cases he), fun i hi => ?_⟩
      rw [hr, List.mem_singleton] at hi
      subst hi
      exact wpOp_mono hrec hop
    · simp only [h0] at hp
      have hg : o.guard = none := by simp only [pureO, Bool.and_eq_true, Option.isNone_iff_eq_none] at hp; exact hp.1
      have hw : Region.wanted o (yielded ops a.tmps) = true := by simp [Region.wanted, hg]
      unfold wpList at h
      rw [if_pos hw] at h
      have h1 := h.resolve_right fun hh => by obtain ⟨_, a', w', hq⟩ := hh; exact hL a' w' hq
      obtain ⟨v, hy, hK⟩ := pure_yields (ops := ops) hp h1
      exact wpAny_first h0 (Region.noSelect_spec hs) (fun c a w => hQ c _ _ a w) l.length listed a w (Region.free_spec h0 hf) (by simpa using hr) hy (hrec _ _ hK)

theorem wpQuiet_mono' {Q1 Q2 : Act → Prop} (h : ∀ a, Q1 a → Q2 a) : ∀ (l : List Oper) (a : Act), wpQuiet P ops C Q1 l a → wpQuiet P ops C Q2 l a
  | [], a, hh => h a hh
  | o :: l, a, hh => by
    unfold wpQuiet at hh ⊢
    split
    · rename_i hw; rw [if_pos hw] at hh; exact Oper.quiet_mono (fun a' => wpQuiet_mono' h l a') hh
    · rename_i hw; rw [if_neg hw] at hh; exact wpQuiet_mono' h l _ hh
/-- A region: one move, a part that is quiet, a part whose order is forced. -/
theorem wp_region_then {id : Nat} {a : Act} {w : World} (o0 o1 : Oper) (l1 l2 : List Oper) (hm : P.follows .mixedOrders = true)
    (hs : Region.noSelect (o0 :: (l1 ++ o1 :: l2)).toArray = true) (hp : pureO o0 = true) (hf : Region.free .any (o0 :: (l1 ++ o1 :: l2)).toArray (Array.replicate (o0 :: (l1 ++ o1 :: l2)).length false) 0 = true)
    (hr : (Region.ready .any (o0 :: (l1 ++ o1 :: l2)).toArray (Array.replicate (o0 :: (l1 ++ o1 :: l2)).length false)).contains 0 = true)
    (hB : lexC .any (o0 :: (l1 ++ o1 :: l2)).toArray (1 + l1.length) l1.length 1 ((Array.replicate (o0 :: (l1 ++ o1 :: l2)).length false).setIfInBounds 0 true) = true)
    (hC2 : seqB .any (o0 :: (l1 ++ o1 :: l2)).toArray (l2.length + 1) (1 + l1.length) (listK l1.length 1 ((Array.replicate (o0 :: (l1 ++ o1 :: l2)).length false).setIfInBounds 0 true)) = true)
    (hL : ∀ a w, ¬ Q .outgrown a w) (C : World → Prop) (hC : C w.drew) {u : Value} (hu : ∀ w', (execOp a.eval o0).run P w' = .ok (.value u) w')
    (h : wpQuiet P (o0 :: (l1 ++ o1 :: l2)).toArray C (fun a' => ∀ w', C w' → wpList P (o0 :: (l1 ++ o1 :: l2)).toArray (NoPanic Q) (o1 :: l2) a' w') l1 (a.put o0.dst u)) :
    (Code.region id (o0 :: (l1 ++ o1 :: l2)).toArray true).wp P Q a w := by
  refine wp_region_noPanic (wp_region_any hm ?_)
  have hsz : (o0 :: (l1 ++ o1 :: l2)).toArray.size = (l1.length + (l2.length + 1)) + 1 := by simp
  have hlen : (o0 :: (l1 ++ o1 :: l2)).length = (l1.length + (l2.length + 1)) + 1 := by simp
  rw [hlen] at hf hr hB hC2
  rw [hsz]
  have hg : o0.guard = none := by simp only [pureO, Bool.and_eq_true, Option.isNone_iff_eq_none] at hp; exact hp.1
  have hw : Region.wanted o0 (yielded (o0 :: (l1 ++ o1 :: l2)).toArray a.tmps) = true := by simp [Region.wanted, hg]
  have hQ' : ∀ c d v a w, NoPanic Q (.panic c) (Act.put a d v) w → NoPanic Q (.panic c) a w := fun _ _ _ _ _ h => h
  have hget : ∀ j, (l1 ++ o1 :: l2)[j]? = (o0 :: (l1 ++ o1 :: l2)).toArray[1 + j]? := fun j => by
    rw [Nat.add_comm]; simp
  refine wpAny_first (i := 0) (oi := o0) (by simp) (Region.noSelect_spec hs) (fun c a w => hQ' c _ _ a w) _ _ a _ (Region.free_spec (by simp) hf) (by simpa using hr) (.inl ⟨hw, hu⟩) ?_
  refine wpAny_of_M (C := C) (c := 1 + l1.length) _ _ _ _ hC ?_
  refine wpAnyM_lex (m := l2.length) hs l1 1 _ _ (fun j hj => by rw [← hget j, List.getElem?_append_left hj]) hB ?_
  refine wpQuiet_mono' (fun a' h' w' hw' => ?_) l1 _ h
  refine wpAny_seq hs hQ' (fun a w hq => hL a w hq) (o1 :: l2) (1 + l1.length) _ a' w' (fun j => ?_) hC2 (h' w' hw')
  rw [Nat.add_assoc, ← hget (l1.length + j), List.getElem?_append_right (by omega)]
  congr 1; omega
/-- The same, the region's operations written out: the first is a move, the next n are quiet. -/
theorem wp_region_cut {id : Nat} {a : Act} {w : World} {L : List Oper} (n : Nat) {o0 o1 : Oper} {T l1 l2 : List Oper} (hm : P.follows .mixedOrders = true) (h0 : L = o0 :: T) (h1 : T.take n = l1) (h2 : T.drop n = o1 :: l2)
    (hs : Region.noSelect L.toArray = true) (hp : pureO o0 = true) (hf : Region.free .any L.toArray (Array.replicate L.length false) 0 = true)
    (hr : (Region.ready .any L.toArray (Array.replicate L.length false)).contains 0 = true)
    (hB : lexC .any L.toArray (1 + n) n 1 ((Array.replicate L.length false).setIfInBounds 0 true) = true)
    (hC2 : seqB .any L.toArray (T.length - n) (1 + n) (listK n 1 ((Array.replicate L.length false).setIfInBounds 0 true)) = true)
    (hL : ∀ a w, ¬ Q .outgrown a w) {u : Value} (hu : ∀ w', (execOp a.eval o0).run P w' = .ok (.value u) w')
    (h : wpQuiet P L.toArray (fun w' => ∃ n, w' = w.drewN n) (fun a' => ∀ w', (∃ n, w' = w.drewN n) → wpList P L.toArray (NoPanic Q) (o1 :: l2) a' w') l1 (a.put o0.dst u)) :
    (Code.region id L.toArray true).wp P Q a w := by
  have hT : T = l1 ++ o1 :: l2 := by rw [← h1, ← h2, List.take_append_drop]
  have hle : n ≤ T.length := by
    rcases Nat.lt_or_ge T.length n with hh | hh
    · rw [List.drop_of_length_le (by omega)] at h2; cases h2
    · exact hh
  have hn : l1.length = n := by rw [← h1, List.length_take]; omega
  have hl2 : T.length - n = l2.length + 1 := by rw [hT, List.length_append, List.length_cons, hn]; omega
  subst h0
  rw [hl2] at hC2
  subst hT
  subst hn
  exact wp_region_then o0 o1 l1 l2 hm hs hp hf hr hB hC2 hL _ ⟨1, rfl⟩ hu h
end
end Go.Proofs.Ytbpeoejjjllieaa
