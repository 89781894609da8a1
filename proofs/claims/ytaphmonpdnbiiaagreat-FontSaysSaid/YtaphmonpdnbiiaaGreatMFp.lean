/- A font by numbers, plainly: three letters at the bytes 0, 1, 2, small, some of them kerned. -/
import Derived.Test.YtaphmonpdnbiiaaGreatFontP
import Derived.Test.YtaphmonpdnbiiaaGreatAllP
import Derived.Test.YtaphmonpdnbiiaaGreatMGc
namespace Go.Proofs.YtaphmonpdnbiiaaGreat

def strA : ByteArray := { data := #[97] }
def strB : ByteArray := { data := #[98] }
def strC : ByteArray := { data := #[99] }
def strD : ByteArray := { data := #[100] }
def abc : Nat → ByteArray
  | 0 => strA
  | 1 => strB
  | _ => strC
def Sm19 (v : Int) : Prop := -19 ≤ v ∧ v ≤ 19
def SmS (s : Sg) : Prop := Sm19 s.x ∧ Sm19 s.y ∧ Sm19 s.cx ∧ Sm19 s.cy
/-- A letter's path. -/
def PaOK (l : List Sg) : Prop := mayFrom 0 l = true ∧ l.length ≤ 6 ∧ ∀ s ∈ l, SmS s
def LeOK (i : Nat) (x : Le) : Prop := x.name = abc i ∧ ∃ l wd, PaOK l ∧ 0 ≤ wd ∧ wd ≤ 24 ∧ bl x.prog = codeS l wd
def PrOK (k : Pr) : Prop := (∃ a b : Nat, a < 3 ∧ b < 3 ∧ k.a = abc a ∧ k.b = abc b) ∧ -4 ≤ k.mv ∧ k.mv ≤ 4
def namesM : List ByteArray := [strA, strB, strC, ByteArray.empty, strD]
def scaleM (k : Int) : Mt := ⟨k * 65536, 0, 0, k * 65536, 0, 0⟩
structure MadeF (F : Fo) : Prop where
  m : ∃ k : Int, 1 ≤ k ∧ k ≤ 3 ∧ F.m = scaleM k
  names : F.names = namesM
  lets : ∃ x0 x1 x2, F.lets = [x0, x1, x2] ∧ LeOK 0 x0 ∧ LeOK 1 x1 ∧ LeOK 2 x2
  kl : F.kern.length ≤ 3
  kern : ∀ k ∈ F.kern, PrOK k
theorem PaOK.may {l : List Sg} (h : PaOK l) : mayB l = true := by
  unfold mayB; rw [h.1, decide_eq_true (by have := h.2.1; omega)]; rfl
theorem bl_size (s : ByteArray) : s.size = (bl s).length := by unfold bl; rw [List.length_map, Array.length_toList]; rfl
theorem LeOK.prog {i : Nat} {x : Le} (h : LeOK i x) : x.prog.size ≤ 600 := by
  obtain ⟨_, l, wd, hl, h0, h1, h2⟩ := h
  have := codeS_len13 l wd
  have := hl.2.1
  rw [bl_size, h2]; omega
theorem LeOK.run {i : Nat} {x : Le} (h : LeOK i x) : ∃ l wd, PaOK l ∧ 0 ≤ wd ∧ wd ≤ 24 ∧ RunG (bl x.prog) = ((l, wd), 0) := by
  obtain ⟨_, l, wd, hl, h0, h1, h2⟩ := h
  have := codeS_len13 l wd
  have := hl.2.1
  refine ⟨l, wd, hl, h0, h1, ?_⟩
  have hb := code_back (l := l) (wide := wd) hl.may (by omega) [] (by rw [List.append_nil]; omega)
  rw [List.append_nil] at hb
  rw [h2]; exact hb
theorem fixB_of {v : Int} (h1 : -1073741823 ≤ v) (h2 : v ≤ 1073741823) : fixB v = true := by unfold fixB; rw [decide_eq_true h1, decide_eq_true h2]; rfl
theorem scale_may {k : Int} (h1 : 1 ≤ k) (h2 : k ≤ 3) : mtB (scaleM k) = true := by
  unfold mtB scaleM
  simp only
  rw [fixB_of (v := k * 65536) (by omega) (by omega), fixB_of (v := 0) (by omega) (by omega)]; rfl
theorem MadeF.open {F : Fo} (h : MadeF F) : openB F = true := by
  obtain ⟨⟨k, k1, k2, hm⟩, hn, ⟨x0, x1, x2, hl, o0, o1, o2⟩, hkl, hk⟩ := h
  unfold openB
  rw [hm, hn, hl, scale_may k1 k2]
  have hkern : F.kern.all (fun k => decide (-8191 ≤ k.mv) && decide (k.mv ≤ 8191)) = true := by
    rw [List.all_eq_true]; intro x hx; have := (hk x hx).2; simp; omega
  have hb : bookB [x0, x1, x2] = true := by
    have e0 := o0.prog
    have e1 := o1.prog
    have e2 := o2.prog
    have n0 := o0.1
    have n1 := o1.1
    have n2 := o2.1
    have t1 : decide (x0.prog.size ≤ 600) = true := decide_eq_true e0
    have t2 : decide (x1.prog.size ≤ 600) = true := decide_eq_true e1
    have t3 : decide (x2.prog.size ≤ 600) = true := decide_eq_true e2
    simp only [bookB, List.length_cons, List.length_nil, bookTo, leB, List.take, List.any_cons, List.any_nil, List.getElem?_cons_succ, List.getElem?_cons_zero, n0, n1, n2, t1, t2, t3]
    decide +kernel
  rw [hkern, hb]
  simp only [Bool.and_true, Bool.true_and, decide_eq_true (show ([x0, x1, x2] : List Le).length ≤ 256 by simp), decide_eq_true (show F.kern.length ≤ 256 by omega)]
  decide
theorem MadeF.run {F : Fo} (h : MadeF F) {c : Nat} (hc : c < 3) : ∃ l wd, PaOK l ∧ 0 ≤ wd ∧ wd ≤ 24 ∧ runF F c = ((l, wd), 0) := by
  obtain ⟨_, hn, ⟨x0, x1, x2, hl, o0, o1, o2⟩, _, _⟩ := h
  have key : ∀ i x, LeOK i x → letF F (nameF F c) = some x → ∃ l wd, PaOK l ∧ 0 ≤ wd ∧ wd ≤ 24 ∧ runF F c = ((l, wd), 0) := fun i x hx hf => by
    obtain ⟨l, wd, h1, h2, h3, h4⟩ := hx.run
    refine ⟨l, wd, h1, h2, h3, ?_⟩
    unfold runF; rw [hf]; simp only [h4, if_true]
  have d1 : decide (strA = strB) = false := by decide +kernel
  have d2 : decide (strA = strC) = false := by decide +kernel
  have d3 : decide (strB = strC) = false := by decide +kernel
  have n0 := o0.1
  have n1 := o1.1
  have n2 := o2.1
  simp only [abc] at n0 n1 n2
  rcases (show c = 0 ∨ c = 1 ∨ c = 2 by omega) with rfl | rfl | rfl
  · refine key 0 x0 o0 ?_
    unfold letF; rw [hl]; show ([x0, x1, x2].find? fun x => decide (x.name = (nameF F 0))) = _; rw [show nameF F 0 = strA by unfold nameF; rw [hn]; rfl]; simp only [List.find?_cons, n0, decide_true]
  · refine key 1 x1 o1 ?_
    unfold letF; rw [hl]; rw [show nameF F 1 = strB by unfold nameF; rw [hn]; rfl]; simp only [List.find?_cons, n0, n1, d1, decide_true]
  · refine key 2 x2 o2 ?_
    unfold letF; rw [hl]; rw [show nameF F 2 = strC by unfold nameF; rw [hn]; rfl]; simp only [List.find?_cons, n0, n1, n2, d2, d3, decide_true]
theorem MadeF.kernB {F : Fo} (h : MadeF F) (a b : Nat) : -4 ≤ kernF F a b ∧ kernF F a b ≤ 4 := by
  unfold kernF
  split
  · omega
  · cases hf : F.kern.find? fun k => decide (k.a = nameF F a) && decide (k.b = nameF F b) with
    | none => simp
    | some k => simpa using (h.kern k (List.mem_of_find?_eq_some hf)).2
end Go.Proofs.YtaphmonpdnbiiaaGreat

namespace Go.Proofs.YtaphmonpdnbiiaaGreat

def wholeM (a b c d e f : Int) : Mt := ⟨a * 65536, b * 65536, c * 65536, d * 65536, e * 65536, f * 65536⟩
def Bd (n v : Int) : Prop := -n ≤ v ∧ v ≤ n
theorem whole_may {a b c d e f : Int} (ha : Bd 16383 a) (hb : Bd 16383 b) (hc : Bd 16383 c) (hd : Bd 16383 d) (he : Bd 16383 e) (hf : Bd 16383 f) : mtB (wholeM a b c d e f) = true := by
  unfold Bd at *
  unfold mtB wholeM
  simp only
  rw [fixB_of (v := a * 65536) (by omega) (by omega), fixB_of (v := b * 65536) (by omega) (by omega), fixB_of (v := c * 65536) (by omega) (by omega), fixB_of (v := d * 65536) (by omega) (by omega), fixB_of (v := e * 65536) (by omega) (by omega), fixB_of (v := f * 65536) (by omega) (by omega)]; rfl
theorem move_whole (p q : Int) : moveM (p * 65536) (q * 65536) = wholeM 1 0 0 1 p q := by simp [moveM, wholeM]
theorem scale_whole (k : Int) : scaleM k = wholeM k 0 0 k 0 0 := by simp [scaleM, wholeM]
theorem one_whole : oneM = wholeM 1 0 0 1 0 0 := rfl
theorem rnd_w (a b c d : Int) : rndM 65536 32768 (a * 65536 * (b * 65536) + c * 65536 * (d * 65536)) = (a * b + c * d) * 65536 := by
  have h : a * 65536 * (b * 65536) + c * 65536 * (d * 65536) = 65536 * ((a * b + c * d) * 65536) := by grind
  rw [h]; exact rnd_one
theorem prod_whole (a b c d e f a' b' c' d' e' f' : Int) : prodM (wholeM a b c d e f) (wholeM a' b' c' d' e' f') =
    wholeM (a * a' + b * c') (a * b' + b * d') (c * a' + d * c') (c * b' + d * d') (e * a' + f * c' + e') (e * b' + f * d' + f') := by
  unfold prodM wholeM
  simp only [rnd_w]
  have h1 : (e * a' + f * c') * 65536 + e' * 65536 = (e * a' + f * c' + e') * 65536 := by grind
  have h2 : (e * b' + f * d') * 65536 + f' * 65536 = (e * b' + f * d' + f') * 65536 := by grind
  rw [h1, h2]
theorem mul_whole {m n : Mt} {R : Mt} (hm : mtB m = true) (hn : mtB n = true) (hR : prodM m n = R) (hR2 : mtB R = true) : mulB m n = (R, 0) := by
  unfold mulB
  rw [hm, hn]
  simp only [Bool.and_self, if_true]
  rw [mul_held hm hn, hR]
  unfold heldM
  rw [if_pos hR2]
theorem rnd32_one (n : Int) : rndM 4294967296 2147483648 (4294967296 * n) = n := by
  unfold rndM
  have h1 : 4294967296 * n / 4294967296 = n := by omega
  rw [h1, if_neg (by omega)]
theorem near_in {x y k : Int} (hx : Bd k x) (hy : Bd k y) : nearP x y k = (x, y, 0) := by
  unfold Bd at *
  unfold nearP; rw [if_neg (by omega)]
theorem point_whole {a b c d e f x y : Int} (hm : mtB (wholeM a b c d e f) = true) (hx : Bd 16383 x) (hy : Bd 16383 y) (h1 : Bd 8191 (a * x + c * y + e)) (h2 : Bd 8191 (b * x + d * y + f)) :
    pointM (wholeM a b c d e f) (x * 65536) (y * 65536) = (a * x + c * y + e, b * x + d * y + f, 0) := by
  have fx : fixB (x * 65536) = true := fixB_of (by unfold Bd at *; omega) (by unfold Bd at *; omega)
  have fy : fixB (y * 65536) = true := fixB_of (by unfold Bd at *; omega) (by unfold Bd at *; omega)
  unfold pointM
  rw [hm, fx, fy]
  simp only [Bool.and_self, if_true]
  have e1 : (wholeM a b c d e f).a * (x * 65536) + (wholeM a b c d e f).c * (y * 65536) + (wholeM a b c d e f).e * 65536 = 4294967296 * (a * x + c * y + e) := by
    show a * 65536 * (x * 65536) + c * 65536 * (y * 65536) + e * 65536 * 65536 = _; grind
  have e2 : (wholeM a b c d e f).b * (x * 65536) + (wholeM a b c d e f).d * (y * 65536) + (wholeM a b c d e f).f * 65536 = 4294967296 * (b * x + d * y + f) := by
    show b * 65536 * (x * 65536) + d * 65536 * (y * 65536) + f * 65536 * 65536 = _; grind
  rw [e1, e2, rnd32_one, rnd32_one, near_in h1 h2]
/-- A piece under a matrix of whole numbers. -/
def affS (a b c d e f : Int) (s : Sg) : Sg :=
  if s.kind = 4 then s else if s.kind = 3 then ⟨s.kind, a * s.x + c * s.y + e, b * s.x + d * s.y + f, a * s.cx + c * s.cy + e, b * s.cx + d * s.cy + f⟩ else ⟨s.kind, a * s.x + c * s.y + e, b * s.x + d * s.y + f, s.cx, s.cy⟩
theorem affS_kind (a b c d e f : Int) (s : Sg) : (affS a b c d e f s).kind = s.kind := by
  unfold affS
  split
  · rfl
  · split <;> rfl
theorem mul_bdF {n m x y : Int} (hx : Bd n x) (hy : Bd m y) (hn : 0 ≤ n) (hm : 0 ≤ m) : Bd (n * m) (x * y) := by
  unfold Bd at *
  have h1 := Int.mul_le_mul (a := x.natAbs) (b := y.natAbs) (c := n) (d := m) (by omega) (by omega) (by omega) hn
  have h2 : ((x * y).natAbs : Int) = x.natAbs * y.natAbs := by rw [Int.natAbs_mul]; rfl
  omega
/-- Small matrices of whole numbers. -/
structure MSm (a b c d e f : Int) : Prop where
  a : Bd 60 a
  b : Bd 60 b
  c : Bd 60 c
  d : Bd 60 d
  e : Bd 5000 e
  f : Bd 5000 f
theorem MSm.may {a b c d e f : Int} (h : MSm a b c d e f) : mtB (wholeM a b c d e f) = true := by
  obtain ⟨h1, h2, h3, h4, h5, h6⟩ := h
  unfold Bd at *
  exact whole_may (by unfold Bd; omega) (by unfold Bd; omega) (by unfold Bd; omega) (by unfold Bd; omega) (by unfold Bd; omega) (by unfold Bd; omega)
theorem MSm.bd {a b c d e f : Int} (h : MSm a b c d e f) {x y : Int} (hx : Sm19 x) (hy : Sm19 y) : Bd 8191 (a * x + c * y + e) ∧ Bd 8191 (b * x + d * y + f) := by
  obtain ⟨h1, h2, h3, h4, h5, h6⟩ := h
  have p1 := mul_bdF (m := 19) h1 hx (by omega) (by omega)
  have p2 := mul_bdF (m := 19) h2 hx (by omega) (by omega)
  have p3 := mul_bdF (m := 19) h3 hy (by omega) (by omega)
  have p4 := mul_bdF (m := 19) h4 hy (by omega) (by omega)
  unfold Bd at *
  omega
theorem plS_whole {a b c d e f : Int} (h : MSm a b c d e f) {s : Sg} (hs : SmS s) : plS (wholeM a b c d e f) s = (affS a b c d e f s, 0) := by
  obtain ⟨s1, s2, s3, s4⟩ := hs
  have b1 := h.bd s1 s2
  have b2 := h.bd s3 s4
  have big : ∀ v, Sm19 v → Bd 16383 v := fun v hv => by unfold Sm19 at hv; unfold Bd; omega
  have hp := point_whole h.may (big _ s1) (big _ s2) b1.1 b1.2
  have hc := point_whole h.may (big _ s3) (big _ s4) b2.1 b2.2
  unfold plS affS
  rw [hp, hc]
  by_cases h3 : s.kind = 3
  · simp [h3]
  · by_cases h4 : s.kind = 4
    · simp [h4]
    · simp [h3, h4]
theorem plL_whole {a b c d e f : Int} (h : MSm a b c d e f) : ∀ (l O : List Sg), (∀ s ∈ l, SmS s) → plL (wholeM a b c d e f) O l = (O ++ l.map (affS a b c d e f), 0)
  | [], O, _ => by simp [plL]
  | s :: l, O, hl => by
    unfold plL
    rw [plS_whole h (hl s (by simp))]
    simp only [ne_eq, not_true_eq_false, if_false]
    rw [plL_whole h l _ (fun t ht => hl t (by simp [ht]))]
    simp
theorem mayFrom_map {g : Sg → Sg} (hk : ∀ s, (g s).kind = s.kind) : ∀ (l : List Sg) (a : Int), mayFrom a l = true → (∀ s ∈ l, pieceB (g s) = true) → mayFrom a (l.map g) = true
  | [], _, _, _ => rfl
  | s :: l, a, h, hp => by
    simp only [List.map_cons, mayFrom, Bool.and_eq_true] at h ⊢
    refine ⟨rightB_iff.2 ⟨hp s (by simp), ?_⟩, ?_⟩
    · rw [hk]; exact (rightB_iff.1 h.1).2
    · rw [hk]; exact mayFrom_map hk l _ h.2 (fun t ht => hp t (by simp [ht]))
theorem pieces_of : ∀ (l : List Sg) (a : Int), mayFrom a l = true → ∀ s ∈ l, pieceB s = true
  | [], _, _, s, hs => by simp at hs
  | t :: l, a, h, s, hs => by
    simp only [mayFrom, Bool.and_eq_true] at h
    rcases List.mem_cons.1 hs with rfl | hs
    · exact (rightB_iff.1 h.1).1
    · exact pieces_of l _ h.2 s hs
theorem co_bd {v : Int} (h : Bd 8191 v) : co v = true := by unfold Bd at h; simp [co]; omega
theorem aff_piece {a b c d e f : Int} (h : MSm a b c d e f) {s : Sg} (hs : SmS s) (hp : pieceB s = true) : pieceB (affS a b c d e f s) = true := by
  obtain ⟨s1, s2, s3, s4⟩ := hs
  have b1 := h.bd s1 s2
  have b2 := h.bd s3 s4
  unfold affS
  by_cases h4 : s.kind = 4
  · rw [if_pos h4]; exact hp
  · rw [if_neg h4]
    by_cases h3 : s.kind = 3
    · rw [if_pos h3]; simp [pieceB, h3, co_bd b1.1, co_bd b1.2, co_bd b2.1, co_bd b2.2]
    · rw [if_neg h3]
      simp [pieceB, h3, h4] at hp
      simp [pieceB, hp.1, co_bd b1.1, co_bd b1.2, hp.2.1.2, hp.2.2]
theorem aff_may {a b c d e f : Int} (h : MSm a b c d e f) {l : List Sg} (hl : PaOK l) : mayB (l.map (affS a b c d e f)) = true := by
  unfold mayB
  rw [mayFrom_map (affS_kind a b c d e f) l 0 hl.1 (fun s hs => aff_piece h (hl.2.2 s hs) (pieces_of l 0 hl.1 s hs)), decide_eq_true (by rw [List.length_map]; have := hl.2.1; omega)]; rfl
end Go.Proofs.YtaphmonpdnbiiaaGreat

namespace Go.Proofs.YtaphmonpdnbiiaaGreat

/-- One behind the other. -/
def jn (l d : List Sg) : List Sg := (if lastK l = 1 ∧ d ≠ [] then l.dropLast else l) ++ d
theorem jn_ok {l d : List Sg} (hl : mayB l = true) (hd : mayB d = true) (hn : l.length + d.length ≤ 300) : joinL l d = (jn l d, 0) ∧ mayB (jn l d) = true ∧ (jn l d).length ≤ l.length + d.length := by
  obtain ⟨J, h1, h2, h3, _, _⟩ := joins hl hd hn
  have h4 : joinL l d = longL (if lastK l = 1 ∧ d ≠ [] then l.dropLast else l) d := by unfold joinL; rw [if_neg (by simp [hl, hd])]
  have h5 : (if lastK l = 1 ∧ d ≠ [] then l.dropLast else l).length ≤ l.length := by
    split
    · rw [List.length_dropLast]; omega
    · exact Nat.le_refl _
  rw [longL_ok (by omega)] at h4
  have h6 : J = jn l d := by rw [h1] at h4; exact congrArg Prod.fst h4
  rw [h6] at h1 h3
  exact ⟨h1, h3, by unfold jn; rw [List.length_append]; omega⟩
theorem jn_nil (l : List Sg) : jn l [] = l := by simp [jn]
theorem nil_jn (d : List Sg) : jn [] d = d := by simp [jn, lastK]
theorem place_whole {F : Fo} {k a b c d e f p q : Int} (hm : F.m = scaleM k) (hk : 1 ≤ k ∧ k ≤ 3) (h0 : MSm a b c d e f) (hp : Bd 16383 p) (hq : Bd 16383 q) (hr : MSm (k * a) (k * b) (k * c) (k * d) (p * a + q * c + e) (p * b + q * d + f))
    {l : List Sg} (hl : PaOK l) : placeF F (wholeM a b c d e f) (p * 65536) (q * 65536) l = (l.map (affS (k * a) (k * b) (k * c) (k * d) (p * a + q * c + e) (p * b + q * d + f)), 0) := by
  have h1 : mulB (moveM (p * 65536) (q * 65536)) (wholeM a b c d e f) = (wholeM a b c d (p * a + q * c + e) (p * b + q * d + f), 0) := by
    rw [move_whole]
    refine mul_whole (whole_may (by unfold Bd; omega) (by unfold Bd; omega) (by unfold Bd; omega) (by unfold Bd; omega) hp hq) h0.may ?_ (MSm.may ⟨h0.a, h0.b, h0.c, h0.d, hr.e, hr.f⟩)
    rw [prod_whole]; simp
  have h2 : mulB F.m (wholeM a b c d (p * a + q * c + e) (p * b + q * d + f)) = (wholeM (k * a) (k * b) (k * c) (k * d) (p * a + q * c + e) (p * b + q * d + f), 0) := by
    rw [hm]
    refine mul_whole (scale_may hk.1 hk.2) (MSm.may ⟨h0.a, h0.b, h0.c, h0.d, hr.e, hr.f⟩) ?_ hr.may
    rw [scale_whole, prod_whole]; simp
  unfold placeF
  rw [h1]
  simp only [ne_eq, not_true_eq_false, if_false]
  rw [h2]
  simp only [not_true_eq_false, if_false]
  rw [plL_whole hr l [] hl.2.2]; rfl
theorem aim_whole {k z : Int} (hk : 1 ≤ k ∧ k ≤ 3) (hz : Bd 100 z) : aimM (scaleM k) (z * 65536) 0 = (k * z * 65536, 0, 0) := by
  have hb := mul_bdF (n := 3) (m := 100) (x := k) (y := z) (by unfold Bd; omega) hz (by omega) (by omega)
  unfold aimM
  have fz : fixB (z * 65536) = true := fixB_of (by unfold Bd at *; omega) (by unfold Bd at *; omega)
  have f0 : fixB 0 = true := by decide
  rw [scale_may hk.1 hk.2, fz, f0]
  simp only [Bool.and_self, if_true]
  have e1 : (scaleM k).a * (z * 65536) + (scaleM k).c * 0 = 65536 * (k * z * 65536) := by show k * 65536 * (z * 65536) + 0 * 0 = _; grind
  have e2 : (scaleM k).b * (z * 65536) + (scaleM k).d * 0 = 65536 * 0 := by show 0 * (z * 65536) + k * 65536 * 0 = _; grind
  rw [e1, e2, rnd_one, rnd_one, near_in (by unfold Bd at *; omega) (by unfold Bd; omega)]
/-- What a text's letters draw, and where they lead. -/
def outW (F : Fo) (k a b c d e f q : Int) : List Nat → Int → List Sg → List Sg × Int
  | [], p, l => (l, p)
  | ch :: s, p, l => outW F k a b c d e f q s (p + k * stepF F ch s) (jn l ((runF F ch).1.1.map (affS (k * a) (k * b) (k * c) (k * d) (p * a + q * c + e) (p * b + q * d + f))))
theorem step_bd {F : Fo} (h : MadeF F) {ch : Nat} (hc : ch < 3) (s : List Nat) : Bd 28 (stepF F ch s) := by
  obtain ⟨l, wd, h1, h2, h3, h4⟩ := h.run hc
  unfold stepF
  rw [h4]
  unfold Bd
  cases s with
  | nil => simp only; omega
  | cons x s => have := h.kernB ch x; simp only; omega
theorem kz_bd {k z : Int} (hk : 1 ≤ k ∧ k ≤ 3) (hz : Bd 28 z) : Bd 84 (k * z) := mul_bdF (n := 3) (m := 28) (by unfold Bd; omega) hz (by omega) (by omega)
/-- The conditions: where it begins, how long it may get. -/
structure OWOK (F : Fo) (k a b c d e f q : Int) : Prop where
  hF : MadeF F
  hm : F.m = scaleM k
  hk : 1 ≤ k ∧ k ≤ 3
  h0 : MSm a b c d e f
  hq : Bd 16383 q
  hr : ∀ p, Bd 1000 p → MSm (k * a) (k * b) (k * c) (k * d) (p * a + q * c + e) (p * b + q * d + f)
/-- One letter. -/
theorem one_whole_step {F : Fo} {k a b c d e f q : Int} (h : OWOK F k a b c d e f q) {ch : Nat} (hc : ch < 3) (p : Int) (hp : Bd 1000 p) {l : List Sg} (hl : mayB l = true) (hn : l.length + 6 ≤ 300) :
    ∃ L wd, runF F ch = ((L, wd), 0) ∧ PaOK L ∧ 0 ≤ wd ∧ wd ≤ 24 ∧
      placeF F (wholeM a b c d e f) (p * 65536) (q * 65536) L = (L.map (affS (k * a) (k * b) (k * c) (k * d) (p * a + q * c + e) (p * b + q * d + f)), 0) ∧
      mayB (L.map (affS (k * a) (k * b) (k * c) (k * d) (p * a + q * c + e) (p * b + q * d + f))) = true ∧
      joinL l (L.map (affS (k * a) (k * b) (k * c) (k * d) (p * a + q * c + e) (p * b + q * d + f))) = (jn l (L.map (affS (k * a) (k * b) (k * c) (k * d) (p * a + q * c + e) (p * b + q * d + f))), 0) ∧
      mayB (jn l (L.map (affS (k * a) (k * b) (k * c) (k * d) (p * a + q * c + e) (p * b + q * d + f)))) = true ∧
      (jn l (L.map (affS (k * a) (k * b) (k * c) (k * d) (p * a + q * c + e) (p * b + q * d + f)))).length ≤ l.length + 6 := by
  obtain ⟨L, wd, h1, h2, h3, h4⟩ := h.hF.run hc
  have hr := h.hr p hp
  have hm := aff_may hr h1
  have hL : (L.map (affS (k * a) (k * b) (k * c) (k * d) (p * a + q * c + e) (p * b + q * d + f))).length ≤ 6 := by rw [List.length_map]; exact h1.2.1
  obtain ⟨j1, j2, j3⟩ := jn_ok hl hm (by omega)
  exact ⟨L, wd, h4, h1, h2, h3, place_whole h.hm h.hk h.h0 (by unfold Bd at *; omega) h.hq hr h1, hm, j1, j2, by omega⟩
theorem outS_whole {F : Fo} {k a b c d e f q : Int} (h : OWOK F k a b c d e f q) : ∀ (s : List Nat) (p : Int) (l : List Sg), (∀ b ∈ s, b < 3) → (1000 : Int) - 84 * s.length ≥ 0 → Bd (1000 - 84 * s.length) p → mayB l = true → l.length + 6 * s.length ≤ 300 →
    outS F (wholeM a b c d e f) l (p * 65536) (q * 65536) s = (((outW F k a b c d e f q s p l).1, (outW F k a b c d e f q s p l).2 * 65536, q * 65536), 0) := by
  intro s
  induction s with
  | nil => intro p l _ _ _ _ _; rw [outS, outW]
  | cons ch s ih =>
    intro p l hs hlen hp hl hn
    have hc := hs ch (by simp)
    simp only [List.length_cons] at hlen hp hn
    have hp7 : Bd 1000 p := by unfold Bd at *; omega
    obtain ⟨L, wd, r1, r2, r3, r4, r5, r6, r7, r8, r9⟩ := one_whole_step h hc p hp7 hl (by omega)
    have hz := step_bd h.hF hc s
    have hkz := kz_bd h.hk hz
    have ha := aim_whole (z := stepF F ch s) h.hk (by unfold Bd at *; omega)
    rw [outS, outW, r1]
    simp only [ne_eq, not_true_eq_false, if_false, r5, r7, h.hm, ha]
    have e1 : p * 65536 + k * stepF F ch s * 65536 = (p + k * stepF F ch s) * 65536 := by grind
    have e2 : q * 65536 + 0 = q * 65536 := by omega
    rw [e1, e2]
    have hp2 : Bd (1000 - 84 * s.length) (p + k * stepF F ch s) := by unfold Bd at *; omega
    have f1 : fixB ((p + k * stepF F ch s) * 65536) = true := fixB_of (by unfold Bd at *; omega) (by unfold Bd at *; omega)
    have hq := h.hq
    have f2 : fixB (q * 65536) = true := fixB_of (by unfold Bd at *; omega) (by unfold Bd at *; omega)
    rw [f1, f2]
    simp only [Bool.and_self, Bool.true_eq_false, if_false]
    exact ih _ _ (fun b hb => hs b (by simp [hb])) (by omega) hp2 r8 (by omega)
end Go.Proofs.YtaphmonpdnbiiaaGreat
