/- GlyphCalls, plainly: a piece that is called is as if it stood there. -/
import Derived.Test.YtbpeoejjjllieaaGlyphCodeQ
namespace Go.Proofs.Ytbpeoejjjllieaa

def GR.withOps (o : Nat) : GR → GR
  | .bad e => .bad e
  | .ok M => .ok { M with ops := o }
/-- An operator and its numbers. -/
abbrev Item := Nat × List Int
def encI (p : Item) : List Nat := p.2.flatMap putG ++ [p.1]
def enc (B : List Item) : List Nat := B.flatMap encI
structure GoodI (p : Item) : Prop where
  c : (p.1 = 2 ∧ p.2.length = 2) ∨ (p.1 = 3 ∧ p.2.length = 2) ∨ (p.1 = 4 ∧ p.2.length = 4) ∨ (p.1 = 7 ∧ p.2.length = 0)
  v : ∀ v ∈ p.2, -32768 ≤ v ∧ v ≤ 32767
def stepI (p : Item) (M : GM) : GR := opG p.1 M p.2
/-- Operators, one after the other; what they count is not told. -/
def exec : List Item → GM → GR
  | [], M => .ok M
  | p :: B, M => match stepI p M with
    | .bad e => .bad e
    | .ok M' => exec B { M' with drawn := true }
def thenR (r : GR) (k : GM → GR) : GR :=
  match r with
  | .bad e => .bad e
  | .ok M => k M
theorem take_ops (M : GM) (o : Nat) (r : List Sg × Int) : takeG { M with ops := o } r = (takeG M r).withOps o := by
  unfold takeG; split <;> rfl
theorem take_keeps {M M' : GM} {r : List Sg × Int} (h : takeG M r = .ok M') : M'.wait = M.wait ∧ M'.over = M.over ∧ M'.ops = M.ops := by
  unfold takeG at h
  split at h
  · cases h; exact ⟨rfl, rfl, rfl⟩
  · cases h
theorem step_ops {p : Item} (hp : GoodI p) (M : GM) (o : Nat) : stepI p { M with ops := o } = (stepI p M).withOps o := by
  obtain ⟨c, v⟩ := p
  have hc := hp.c
  simp only at hc
  unfold stepI
  rcases hc with ⟨rfl, hv⟩ | ⟨rfl, hv⟩ | ⟨rfl, hv⟩ | ⟨rfl, hv⟩
  · exact take_ops M o _
  · match v, hv with
    | [a, b], _ =>
      have h1 : ∀ M : GM, opG 3 M [a, b] = (match lineG M a b with | .bad e => .bad e | .ok M' => .ok M') := fun M => rfl
      simp only [h1]
      have h2 : lineG { M with ops := o } a b = (lineG M a b).withOps o := take_ops M o _
      rw [h2]
      cases lineG M a b <;> rfl
  · exact take_ops M o _
  · exact take_ops M o _
theorem step_keeps {p : Item} (hp : GoodI p) {M M' : GM} (h : stepI p M = .ok M') : M'.wait = M.wait ∧ M'.over = M.over ∧ M'.ops = M.ops := by
  obtain ⟨c, v⟩ := p
  have hc := hp.c
  simp only at hc
  unfold stepI at h
  rcases hc with ⟨rfl, hv⟩ | ⟨rfl, hv⟩ | ⟨rfl, hv⟩ | ⟨rfl, hv⟩
  · exact take_keeps h
  · match v, hv with
    | [a, b], _ =>
      have h1 : opG 3 M [a, b] = (match lineG M a b with | .bad e => .bad e | .ok M' => .ok M') := rfl
      simp only [h1] at h
      cases hl : lineG M a b with
      | bad e => rw [hl] at h; cases h
      | ok M2 => rw [hl] at h; cases h; exact take_keeps hl
  · exact take_keeps h
  · exact take_keeps h
theorem exec_keeps : ∀ {B : List Item} {M M' : GM}, (∀ p ∈ B, GoodI p) → exec B M = .ok M' → M'.wait = M.wait ∧ M'.over = M.over ∧ M'.ops = M.ops
  | [], M, M', _, h => by cases h; exact ⟨rfl, rfl, rfl⟩
  | p :: B, M, M', hg, h => by
    simp only [exec] at h
    cases hs : stepI p M with
    | bad e => rw [hs] at h; cases h
    | ok M2 =>
      rw [hs] at h
      simp only at h
      obtain ⟨a1, a2, a3⟩ := step_keeps (hg p (by simp)) hs
      obtain ⟨b1, b2, b3⟩ := exec_keeps (fun q hq => hg q (by simp [hq])) h
      exact ⟨b1.trans a1, b2.trans a2, b3.trans a3⟩
theorem exec_ops : ∀ {B : List Item} (M : GM) (o : Nat), (∀ p ∈ B, GoodI p) → exec B { M with ops := o } = (exec B M).withOps o
  | [], M, o, _ => rfl
  | p :: B, M, o, hg => by
    simp only [exec]
    rw [step_ops (hg p (by simp))]
    cases hs : stepI p M with
    | bad e => rfl
    | ok M2 =>
      simp only [GR.withOps]
      exact exec_ops { M2 with drawn := true } o (fun q hq => hg q (by simp [hq]))
section
variable {np : Nat} {deeper : Nat → GM → GR} {top : Bool}
theorem run_puts : ∀ (v : List Int) (M : GM), (∀ x ∈ v, -32768 ≤ x ∧ x ≤ 32767) → M.wait.length + v.length ≤ 24 → ∀ s, runS np deeper top (v.flatMap putG ++ s) M = runS np deeper top s { M with wait := M.wait ++ v }
  | [], M, _, _, s => by simp
  | x :: v, M, h, hw, s => by
    rw [List.length_cons] at hw
    rw [List.flatMap_cons, List.append_assoc, run_put (h x (by simp)), push_few (by omega), run_puts v _ (fun y hy => h y (by simp [hy])) (by simp; omega)]
    simp
/-- A piece's bytes are run. -/
theorem run_exec : ∀ (B : List Item) (M : GM), (∀ p ∈ B, GoodI p) → M.wait = [] → M.over = false → M.ops + B.length ≤ 1000 → ∀ s,
    runS np deeper top (enc B ++ s) M = thenR (exec B M) fun M' => runS np deeper top s { M' with ops := M.ops + B.length }
  | [], M, _, _, _, _, s => rfl
  | p :: B, M, hg, hw, ho, hops, s => by
    rw [List.length_cons] at hops
    have hp := hg p (by simp)
    have hc := hp.c
    obtain ⟨c, v⟩ := p
    simp only at hc
    have e : enc ((c, v) :: B) ++ s = v.flatMap putG ++ (c :: (enc B ++ s)) := by simp [enc, encI]
    rw [e, run_puts v M hp.v (by rw [hw]; simp only [List.length_nil]; omega), hw, List.nil_append]
    have h32 : c < 32 ∧ c ≠ 8 ∧ c ≠ 9 := by omega
    have ht : takesG c = some (v.length : Int) := by
      rcases hc with ⟨rfl, hv⟩ | ⟨rfl, hv⟩ | ⟨rfl, hv⟩ | ⟨rfl, hv⟩ <;> rw [hv] <;> rfl
    rw [runS_op _ (by omega), if_neg (by simp only; omega), if_neg h32.2.1, if_neg h32.2.2]
    rw [draw_is (M := { M with wait := v, ops := M.ops + 1 }) ht (by omega) rfl]
    have hM : ({ M with wait := [], ops := M.ops + 1 } : GM) = { M with ops := M.ops + 1 } := by
      obtain ⟨w, l, x, y, wide, ops, dr, ov⟩ := M
      simp only at hw; subst hw; rfl
    simp only
    rw [hM]
    have hs := step_ops hp M (M.ops + 1)
    unfold stepI at hs
    simp only at hs
    rw [hs]
    simp only [exec, stepI]
    cases hst : opG c M v with
    | bad e => rfl
    | ok M2 =>
      obtain ⟨a1, a2, a3⟩ := step_keeps hp (M := M) (M' := M2) hst
      simp only [GR.withOps, drawnG, thenG]
      rw [if_neg (by rw [a2, ho]; simp)]
      rw [run_exec B _ (fun q hq => hg q (by simp [hq])) (by simp only; rw [a1, hw]) (by simp only; rw [a2, ho]) (by simp only; omega) s]
      have hx := exec_ops { M2 with drawn := true } (M.ops + 1) (B := B) (fun q hq => hg q (by simp [hq]))
      simp only at hx
      rw [hx]
      cases exec B { M2 with drawn := true } with
      | bad e => rfl
      | ok M3 =>
        simp only [GR.withOps, thenR, List.length_cons]
        rw [show M.ops + 1 + B.length = M.ops + (B.length + 1) by omega]
/-- A call of a piece. -/
theorem run_call {k : Nat} {M : GM} (hk : k < np) (hk9 : k ≤ 100) (hw : M.wait = []) (ho : M.ops + 1 ≤ 1000) (s : List Nat) :
    runS np deeper top ((k + 139) :: 8 :: s) M = thenG (deeper k { M with ops := M.ops + 1 }) (runS np deeper top s) := by
  rw [runS.eq_def]
  simp only
  rw [if_pos (by omega), if_pos (by omega), push_few (by rw [hw]; simp), runS_op _ (by omega), if_neg (by simp only; omega), if_pos rfl, hw, List.nil_append]
  have hc : callG np deeper { M with wait := [((k + 139 : Nat) : Int) - 139], ops := M.ops + 1 } = deeper k { M with ops := M.ops + 1 } := by
    unfold callG
    simp only [List.getLast?_singleton]
    rw [if_neg (by omega), show (((k + 139 : Nat) : Int) - 139).toNat = k by omega]
    obtain ⟨w, l, x, y, wide, ops, dr, ov⟩ := M
    simp only at hw; subst hw; rfl
  rw [hc, hw]
end
theorem run_back {np : Nat} {deeper : Nat → GM → GR} {M : GM} (ho : M.ops + 1 ≤ 1000) (s : List Nat) : runS np deeper false (9 :: s) M = .ok { M with ops := M.ops + 1 } := by
  rw [runS_op _ (by omega), if_neg (by omega), if_neg (by omega), if_pos rfl, if_neg (by simp)]
theorem run_end' {np : Nat} {deeper : Nat → GM → GR} {M : GM} (hw : M.wait = []) (ho : M.ops ≤ 999) (s : List Nat) : runS np deeper true (10 :: s) M = .ok { M with ops := M.ops + 1, over := true, drawn := true } := by
  rw [runS_op _ (by omega), if_neg (by omega), if_neg (by omega), if_neg (by omega)]
  have h2 : drawG 10 { M with ops := M.ops + 1 } = drawnG (opG 10 { M with ops := M.ops + 1, wait := [] } M.wait) := draw_is (M := { M with ops := M.ops + 1 }) (t := 0) rfl (by omega) (by simp [hw])
  rw [h2]
  obtain ⟨w, l, x, y, wide, ops, dr, ov⟩ := M
  simp only at hw
  subst hw
  rfl
def progFlat (X Y : List Nat) : List Nat := 0 :: (X ++ (Y ++ (X ++ [10])))
def progCall (X Y : List Nat) : List Nat := 2 :: (X.length + 1) :: (X ++ (9 :: 3 :: 139 :: 8 :: 9 :: 140 :: 8 :: (Y ++ [139, 8, 10])))
theorem split_call {X Y : List Nat} (h : (progCall X Y).length ≤ 600) : splitG (progCall X Y) = (([X ++ [9], [139, 8, 9]], 140 :: 8 :: (Y ++ [139, 8, 10])), 0) := by
  unfold splitG
  rw [if_neg (by omega)]
  unfold progCall
  simp only
  rw [if_neg (by omega)]
  have h1 : piecesG 2 ((X.length + 1) :: (X ++ (9 :: 3 :: 139 :: 8 :: 9 :: 140 :: 8 :: (Y ++ [139, 8, 10])))) [] = some ([X ++ [9], [139, 8, 9]], 140 :: 8 :: (Y ++ [139, 8, 10])) := by
    have e : X ++ (9 :: 3 :: 139 :: 8 :: 9 :: 140 :: 8 :: (Y ++ [139, 8, 10])) = (X ++ [9]) ++ (3 :: 139 :: 8 :: 9 :: 140 :: 8 :: (Y ++ [139, 8, 10])) := by simp
    rw [e]
    simp only [piecesG]
    rw [if_neg (by simp)]
    have hl : X.length + 1 = (X ++ [9]).length := by simp
    rw [hl, List.drop_left, List.take_left]
    simp only [piecesG, List.nil_append]
    rw [if_neg (by simp)]
    rfl
  rw [h1]
theorem endG_ops (r : GR) (o : Nat) : endG (r.withOps o) = endG r := by cases r <;> rfl
theorem calls_law (X Y : List Item) (hX : ∀ p ∈ X, GoodI p) (hY : ∀ p ∈ Y, GoodI p) (lx : X.length ≤ 100) (ly : Y.length ≤ 100) (hf : (progFlat (enc X) (enc Y)).length ≤ 600) (hc : (progCall (enc X) (enc Y)).length ≤ 600) :
    RunG (progCall (enc X) (enc Y)) = RunG (progFlat (enc X) (enc Y)) := by
  have hF : RunG (progFlat (enc X) (enc Y)) = endG (thenR (exec X startG) fun M1 => thenR (exec Y M1) fun M2 => thenR (exec X M2) fun M3 => .ok M3) := by
    unfold progFlat
    rw [RunG_zero (by unfold progFlat at hf; simp only [List.length_cons] at hf; omega)]
    rw [run_exec X startG hX rfl rfl (by simp [startG]; omega)]
    cases h1 : exec X startG with
    | bad e => rfl
    | ok M1 =>
      obtain ⟨a1, a2, a3⟩ := exec_keeps hX h1
      simp only [thenR]
      rw [run_exec Y _ hY (by simp only; rw [a1]; rfl) (by simp only; rw [a2]; rfl) (by simp [startG]; omega), exec_ops M1 _ hY]
      cases h2 : exec Y M1 with
      | bad e => rfl
      | ok M2 =>
        obtain ⟨b1, b2, b3⟩ := exec_keeps hY h2
        simp only [thenR, GR.withOps]
        rw [run_exec X _ hX (by simp only; rw [b1, a1]; rfl) (by simp only; rw [b2, a2]; rfl) (by simp [startG]; omega), exec_ops M2 _ hX]
        cases h3 : exec X M2 with
        | bad e => rfl
        | ok M3 =>
          obtain ⟨c1, c2, c3⟩ := exec_keeps hX h3
          simp only [thenR, GR.withOps]
          rw [run_end' (by simp only; rw [c1, b1, a1]; rfl) (by simp [startG]; omega)]
          rfl
  rw [hF]
  unfold RunG
  rw [split_call hc]
  simp only [if_true]
  obtain ⟨P, hP⟩ : ∃ P : List (List Nat), P = [enc X ++ [9], [139, 8, 9]] := ⟨_, rfl⟩
  rw [← hP]
  have hlen : P.length = 2 := by rw [hP]; rfl
  have p0 : P[0]?.getD [] = enc X ++ [9] := by rw [hP]; rfl
  have p1 : P[1]?.getD [] = [139, 8, 9] := by rw [hP]; rfl
  clear hP hF hf hc
  -- the first piece, wherever it is called
  have call0 : ∀ (d : Nat) (M : GM), M.wait = [] → M.over = false → M.ops ≤ 500 → runD P d false (P[0]?.getD []) M = thenR (exec X M) fun M' => .ok { M' with ops := M.ops + X.length + 1 } := by
    intro d M hw ho hops
    rw [p0]
    have : ∀ (deeper : Nat → GM → GR), runS P.length deeper false (enc X ++ [9]) M = thenR (exec X M) fun M' => .ok { M' with ops := M.ops + X.length + 1 } := by
      intro deeper
      rw [run_exec X M hX hw ho (by omega)]
      cases exec X M with
      | bad e => rfl
      | ok M1 =>
        simp only [thenR]
        rw [run_back (by simp only; omega)]
    cases d <;> exact this _
  have call1 : ∀ (M : GM), M.wait = [] → M.over = false → M.ops ≤ 400 → runD P 3 false (P[1]?.getD []) M = thenR (exec X M) fun M' => .ok { M' with ops := M.ops + X.length + 3 } := by
    intro M hw ho hops
    rw [p1]
    show runS P.length (fun k M => runD P 2 false (P[k]?.getD []) M) false ((0 + 139) :: 8 :: [9]) M = _
    rw [run_call (by omega) (by omega) hw (by omega)]
    rw [call0 2 { M with ops := M.ops + 1 } hw ho (by simp only; omega), exec_ops M _ hX]
    cases h1 : exec X M with
    | bad e => rfl
    | ok M1 =>
      obtain ⟨a1, a2, a3⟩ := exec_keeps hX h1
      simp only [thenR, GR.withOps, thenG]
      rw [if_neg (by rw [a2, ho]; simp), run_back (by simp only; omega)]
      simp only
      congr 2; omega
  show endG (runS P.length (fun k M => runD P 3 false (P[k]?.getD []) M) true ((1 + 139) :: 8 :: (enc Y ++ ((0 + 139) :: 8 :: [10]))) startG) = _
  rw [run_call (by omega) (by omega) rfl (by simp [startG]), call1 { startG with ops := startG.ops + 1 } rfl rfl (by simp [startG]), exec_ops startG _ hX]
  cases h1 : exec X startG with
  | bad e => rfl
  | ok M1 =>
    obtain ⟨a1, a2, a3⟩ := exec_keeps hX h1
    simp only [thenR, GR.withOps, thenG]
    rw [if_neg (by rw [a2]; simp [startG])]
    rw [run_exec Y _ hY (by simp only; rw [a1]; rfl) (by simp only; rw [a2]; rfl) (by simp [startG]; omega), exec_ops M1 _ hY]
    cases h2 : exec Y M1 with
    | bad e => rfl
    | ok M2 =>
      obtain ⟨b1, b2, b3⟩ := exec_keeps hY h2
      simp only [thenR, GR.withOps]
      rw [run_call (by omega) (by omega) (by simp only; rw [b1, a1]; rfl) (by simp [startG]; omega)]
      rw [call0 3 _ (by simp only; rw [b1, a1]; rfl) (by simp only; rw [b2, a2]; rfl) (by simp [startG]; omega), exec_ops M2 _ hX]
      cases h3 : exec X M2 with
      | bad e => rfl
      | ok M3 =>
        obtain ⟨c1, c2, c3⟩ := exec_keeps hX h3
        simp only [thenR, GR.withOps, thenG]
        rw [if_neg (by rw [c2, b2, a2]; simp [startG])]
        rw [run_end' (by simp only; rw [c1, b1, a1]; rfl) (by simp [startG]; omega)]
        rfl
/-- A path's bytes as operators. -/
def itemsG : Int → Int → Int → Int → List Sg → List Item
  | _, _, _, _, [] => []
  | x, y, bx, by_, s :: l =>
    if s.kind = 4 then (7, []) :: itemsG bx by_ bx by_ l
    else if s.kind = 1 then (2, [s.x - x, s.y - y]) :: itemsG s.x s.y s.x s.y l
    else if s.kind = 2 then (3, [s.x - x, s.y - y]) :: itemsG s.x s.y bx by_ l
    else (4, [s.cx - x, s.cy - y, s.x - x, s.y - y]) :: itemsG s.x s.y bx by_ l
theorem items_enc : ∀ (l : List Sg) (x y bx by_ : Int), bodyG x y bx by_ l = enc (itemsG x y bx by_ l)
  | [], _, _, _, _ => rfl
  | s :: l, x, y, bx, by_ => by
    unfold bodyG itemsG
    split
    · rw [items_enc l]; rfl
    · split
      · rw [items_enc l]; simp [enc, encI]
      · split
        · rw [items_enc l]; simp [enc, encI]
        · rw [items_enc l]; simp [enc, encI]
theorem items_len : ∀ (l : List Sg) (x y bx by_ : Int), (itemsG x y bx by_ l).length = l.length
  | [], _, _, _, _ => rfl
  | s :: l, x, y, bx, by_ => by
    unfold itemsG
    split
    · simp [items_len l]
    · split
      · simp [items_len l]
      · split <;> simp [items_len l]
theorem items_good : ∀ (l : List Sg) (x y bx by_ : Int), Sml x → Sml y → Sml bx → Sml by_ → (∀ s ∈ l, Sml s.x ∧ Sml s.y ∧ Sml s.cx ∧ Sml s.cy) → ∀ p ∈ itemsG x y bx by_ l, GoodI p
  | [], _, _, _, _, _, _, _, _, _, p, hp => by simp [itemsG] at hp
  | s :: l, x, y, bx, by_, hx, hy, hbx, hby, h, p, hp => by
    obtain ⟨s1, s2, s3, s4⟩ := h s (by simp)
    have hr : ∀ t ∈ l, Sml t.x ∧ Sml t.y ∧ Sml t.cx ∧ Sml t.cy := fun t ht => h t (by simp [ht])
    unfold itemsG at hp
    split at hp
    · rcases List.mem_cons.1 hp with rfl | hp
      · exact ⟨by simp, by simp⟩
      · exact items_good l _ _ _ _ hbx hby hbx hby hr p hp
    · split at hp
      · rcases List.mem_cons.1 hp with rfl | hp
        · refine ⟨by simp, ?_⟩
          intro v hv; simp only [List.mem_cons, List.not_mem_nil, or_false] at hv; unfold Sml at *; omega
        · exact items_good l _ _ _ _ s1 s2 s1 s2 hr p hp
      · split at hp
        · rcases List.mem_cons.1 hp with rfl | hp
          · refine ⟨by simp, ?_⟩
            intro v hv; simp only [List.mem_cons, List.not_mem_nil, or_false] at hv; unfold Sml at *; omega
          · exact items_good l _ _ _ _ s1 s2 hbx hby hr p hp
        · rcases List.mem_cons.1 hp with rfl | hp
          · refine ⟨by simp, ?_⟩
            intro v hv; simp only [List.mem_cons, List.not_mem_nil, or_false] at hv; unfold Sml at *; omega
          · exact items_good l _ _ _ _ s1 s2 hbx hby hr p hp
/-- Two small paths' bytes, flat and called. -/
theorem calls_paths {l m : List Sg} (hl : ∀ s ∈ l, Sml s.x ∧ Sml s.y ∧ Sml s.cx ∧ Sml s.cy) (hm : ∀ s ∈ m, Sml s.x ∧ Sml s.y ∧ Sml s.cx ∧ Sml s.cy) (h1 : l.length ≤ 12) (h2 : m.length ≤ 12) :
    RunG (progCall (bodyG 0 0 0 0 l) (bodyG 0 0 0 0 m)) = RunG (progFlat (bodyG 0 0 0 0 l) (bodyG 0 0 0 0 m)) := by
  have h0 : Sml 0 := by unfold Sml; omega
  have b1 := bodyG_len l 0 0 0 0 h0 h0 h0 h0 hl
  have b2 := bodyG_len m 0 0 0 0 h0 h0 h0 h0 hm
  rw [items_enc, items_enc] at *
  refine calls_law _ _ (items_good l 0 0 0 0 h0 h0 h0 h0 hl) (items_good m 0 0 0 0 h0 h0 h0 h0 hm) (by rw [items_len]; omega) (by rw [items_len]; omega) ?_ ?_
  · unfold progFlat; simp only [List.length_cons, List.length_append, List.length_nil]; omega
  · unfold progCall; simp only [List.length_cons, List.length_append, List.length_nil]; omega
end Go.Proofs.Ytbpeoejjjllieaa
