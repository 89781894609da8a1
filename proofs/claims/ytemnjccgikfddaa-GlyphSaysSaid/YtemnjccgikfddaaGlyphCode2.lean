/- glyph.Code: a path's program. -/
import Derived.Test.YtemnjccgikfddaaGlyphCode1
import Derived.Deep.RegionHeld3
namespace Go.Proofs.Ytemnjccgikfddaa
open Go.RowKit Go.BigFrame

theorem may_mem : ∀ {l : List Sg} {k : Int}, mayFrom k l = true → ∀ s ∈ l, ((-8191 ≤ s.x ∧ s.x ≤ 8191) ∧ (-8191 ≤ s.y ∧ s.y ≤ 8191) ∧ (-8191 ≤ s.cx ∧ s.cx ≤ 8191) ∧ (-8191 ≤ s.cy ∧ s.cy ≤ 8191)) ∧ (s.kind = 1 ∨ s.kind = 2 ∨ s.kind = 3 ∨ s.kind = 4)
  | [], _, _, _, hs => by simp at hs
  | a :: l, k, h, s, hs => by
    unfold mayFrom at h
    rw [Bool.and_eq_true] at h
    rcases List.mem_cons.1 hs with rfl | hs
    · have h1 := h.1
      simp only [rightB, nearB, co, Bool.and_eq_true, Bool.or_eq_true, List.all_cons, List.all_nil, decide_eq_true_eq, beq_iff_eq, bne_iff_ne, ne_eq, and_true] at h1
      refine ⟨by omega, by omega⟩
    · exact may_mem h.2 s hs
theorem wr64 {v : Int} (h : -100000 ≤ v ∧ v ≤ 100000) : IntKind.i64.wrap v = v := by
  simp only [IntKind.wrap, IntKind.signed, IntKind.bits]; simp; omega
theorem sl_str {w : World} {A : Option Addr} {n c : Nat} {bs : List Nat} (h : Sl w 1 A n (u8s bs)) (hn : 0 < n) : (convert 41 9 (.slice A n c)).run Try.prog w = .ok (.string (strOfNums (bs.map Int.ofNat))) w := by
  obtain ⟨b, off, rfl, hb, hc⟩ := h.2 hn
  have hl : bs.length = n := by have := h.1; simp [u8s] at this; omega
  refine run_convert_bytes_arg w 41 5 Try.underlying41 Try.underlying5 b off n c (bs.map Int.ofNat) (by simpa using hl) (fun i hi => ?_) 9 Try.underlying9
  rw [hc i (.int .u8 (bs[i]'(by omega))) (by simp [u8s, hl, hi])]
  simp [List.getD, hl, hi]
theorem cells5 {w w' : World} {g : Nat} {a b c d e : Value} {r : Option Nat} (hg : w.grownBy w' r) (hr : r ≠ some g) (hlt : g < w.heap.size)
    (h : w.cell? ⟨g, 0, none⟩ = some a ∧ w.cell? ⟨g, 1, none⟩ = some b ∧ w.cell? ⟨g, 2, none⟩ = some c ∧ w.cell? ⟨g, 3, none⟩ = some d ∧ w.cell? ⟨g, 4, none⟩ = some e) :
    w'.cell? ⟨g, 0, none⟩ = some a ∧ w'.cell? ⟨g, 1, none⟩ = some b ∧ w'.cell? ⟨g, 2, none⟩ = some c ∧ w'.cell? ⟨g, 3, none⟩ = some d ∧ w'.cell? ⟨g, 4, none⟩ = some e := by
  have hb := hg.block g hlt fun e => hr e.symm
  have k : ∀ i, w'.cell? ⟨g, i, none⟩ = w.cell? ⟨g, i, none⟩ := fun i => World.cell?_of_block (a := ⟨g, i, none⟩) hb
  simp only [k]; exact h

/-- A row that numbers are put to, and s's block beside it. -/
structure PutSt (W w : World) (g : Nat) (v0 v1 v2 v3 v4 : Value) (A : Option Addr) (n c : Nat) (l : List Nat) (N : Nat) : Prop where
  own : w.ownsRow W.heap.size 5 1 (.slice A n c) n (u8s l)
  len : l.length = n
  few : n ≤ N
  below : Below W.heap.size W w
  lt : g < w.heap.size
  ne : (Value.slice A n c).ownBlock ≠ some g
  cells : w.cell? ⟨g, 0, none⟩ = some v0 ∧ w.cell? ⟨g, 1, none⟩ = some v1 ∧ w.cell? ⟨g, 2, none⟩ = some v2 ∧ w.cell? ⟨g, 3, none⟩ = some v3 ∧ w.cell? ⟨g, 4, none⟩ = some v4
section
variable {W w : World} {g g' n c N : Nat} {u v0 v1 v2 v3 v4 : Value} {A : Option Addr} {l : List Nat}
theorem PutSt.dr (h : PutSt W w g v0 v1 v2 v3 v4 A n c l N) : PutSt W w.drew g v0 v1 v2 v3 v4 A n c l N := ⟨own_below h.own (bdrew (Below.refl _ _)), h.len, h.few, bdrew h.below, h.lt, h.ne, h.cells⟩
theorem PutSt.drN (h : PutSt W w g v0 v1 v2 v3 v4 A n c l N) (k : Nat) : PutSt W (w.drewN k) g v0 v1 v2 v3 v4 A n c l N := ⟨own_below h.own (bdrewN (Below.refl _ _) k), h.len, h.few, bdrewN h.below k, h.lt, h.ne, h.cells⟩
theorem PutSt.al (h : PutSt W w g v0 v1 v2 v3 v4 A n c l N) (o : Obj) : PutSt W (w.alloc o) g v0 v1 v2 v3 v4 A n c l N := by
  have hb : Below w.heap.size w (w.alloc o) := bal (Below.refl _ _) o
  have k : ∀ i, (w.alloc o).cell? ⟨g, i, none⟩ = w.cell? ⟨g, i, none⟩ := fun i => World.cell?_of_block (a := ⟨g, i, none⟩) (hb.block g h.lt)
  refine ⟨own_below h.own hb, h.len, h.few, bal h.below o, Nat.lt_of_lt_of_le h.lt hb.size, h.ne, ?_⟩
  simp only [k]; exact h.cells
/-- One cell of a block of its own. -/
def Lit (w : World) (A : Option Addr) (n c g : Nat) (u : Value) : Prop := g < w.heap.size ∧ (Value.slice A n c).ownBlock ≠ some g ∧ w.cell? ⟨g, 0, none⟩ = some u
theorem PutSt.lit (h : PutSt W w g v0 v1 v2 v3 v4 A n c l N) (u : Value) (t : TypeId) : Lit (w.alloc (.cells #[u] t)) A n c w.heap.size u :=
  ⟨by simp, fun e => absurd (h.own.lt _ e).2 (by omega), by rw [cell_of_row (w.alloc (.cells #[u] t)) w.heap.size 0 #[u] t _ (heap_alloc_new w _)]; rfl⟩
theorem PutSt.litg (h : PutSt W w g v0 v1 v2 v3 v4 A n c l N) (u : Value) (t : TypeId) (g' : Nat) (hg : w.heap.size = g') : Lit (w.alloc (.cells #[u] t)) A n c g' u := hg ▸ h.lit u t
theorem al_sz (w : World) (o : Obj) : (w.alloc o).drew.heap.size = w.heap.size + 1 := by simp
theorem Lit.dr (h : Lit w A n c g u) : Lit w.drew A n c g u := h
theorem Lit.drN (h : Lit w A n c g u) (k : Nat) : Lit (w.drewN k) A n c g u := h
theorem Lit.sl (h : Lit w A n c g u) : Sl w 1 (some ⟨g, 0, none⟩) 1 [u] := ⟨rfl, fun _ => ⟨_, _, rfl, h.1, fun j x hx => by
  rcases j with _ | j
  · have : u = x := by simpa using hx
    subst this; simpa using h.2.2
  · simp at hx⟩⟩
theorem put_st (h : PutSt W w g v0 v1 v2 v3 v4 A n c l N) (v : Int) (hN : N ≤ 100000) (hv : -32768 ≤ v ∧ v ≤ 32767) :
    Calls Try.prog 23 #[.slice A n c, .int .i64 v] w fun e w' => ∃ (A' : Option Addr) (n' c' : Nat), e = .returned (.slice A' n' c') ∧ PutSt W w' g v0 v1 v2 v3 v4 A' n' c' (l ++ putG v) (N + 3) ∧ ∀ g' u, Lit w A n c g' u → Lit w' A' n' c' g' u := by
  refine (put_any A n c v l W.heap.size w h.own h.below.size (Nat.le_trans h.few hN) hv).mono ?_
  rintro e w' ⟨A', n', c', rfl, hn', hown', hg', hat'⟩
  have hp := (putG_len v).1
  have hne : ∀ g', g' < w.heap.size → (Value.slice A n c).ownBlock ≠ some g' → (Value.slice A' n' c').ownBlock ≠ some g' := by
    intro g' hlt hne e'
    rcases hat' with h1 | ⟨k, h1, h2⟩
    · exact hne (h1 ▸ e')
    · have : k = g' := by rw [h1] at e'; injection e'
      omega
  refine ⟨A', n', c', rfl, ⟨hown', hn', ?_, grown_below h.below hg' h.own, Nat.lt_of_lt_of_le h.lt hg'.size, hne g h.lt h.ne, cells5 hg' h.ne h.lt h.cells⟩, ?_⟩
  · have h1 := h.len; have h2 := h.few
    rw [List.length_append] at hn'; omega
  · rintro g' u ⟨h1, h2, h3⟩
    exact ⟨Nat.lt_of_lt_of_le h1 hg'.size, hne g' h1 h2, (World.cell?_of_block (a := ⟨g', 0, none⟩) (hg'.block g' h1 fun e => h2 e.symm)).trans h3⟩
theorem PutSt.start (hown : w.ownsRow W.heap.size 5 1 (.slice A n c) n (u8s l)) (hl : l.length = n) (hN : n ≤ N) (hb : Below W.heap.size W w) (t : TypeId) (v0 v1 v2 v3 v4 : Value) :
    PutSt W (w.alloc (.cells #[v0, v1, v2, v3, v4] t)) w.heap.size v0 v1 v2 v3 v4 A n c l N := by
  have k : ∀ i, (w.alloc (.cells #[v0, v1, v2, v3, v4] t)).cell? ⟨w.heap.size, i, none⟩ = #[v0, v1, v2, v3, v4][i]? := fun i => cell_of_row _ w.heap.size i _ t _ (heap_alloc_new w _)
  exact ⟨own_below hown (bal (Below.refl _ _) _), hl, hN, bal hb _, by simp, fun e => absurd (hown.lt _ e).2 (by omega), k 0, k 1, k 2, k 3, k 4⟩
end
theorem PutSt.app {v0 v1 v2 v3 v4 : Value} {l : List Nat} {N : Nat} {W w w5 : World} {A A5 : Option Addr} {n c c5 g : Nat} (h : PutSt W w g v0 v1 v2 v3 v4 A n c l N) (b : Nat) (hg : w.grownBy w5 (Value.slice A n c).ownBlock) (hown5 : w5.ownsRow W.heap.size 5 1 (.slice A5 (n + 1) c5) (n + 1) (u8s l ++ [.int .u8 (b : Int)])) :
    Below W.heap.size W w5 ∧ w5.ownsRow W.heap.size 5 1 (.slice A5 (n + 1) c5) (n + 1) (u8s (l ++ [b])) ∧ (l ++ [b]).length = n + 1 ∧ w5.cell? ⟨g, 0, none⟩ = some v0 ∧ w5.cell? ⟨g, 1, none⟩ = some v1 ∧ w5.cell? ⟨g, 2, none⟩ = some v2 ∧ w5.cell? ⟨g, 3, none⟩ = some v3 ∧ w5.cell? ⟨g, 4, none⟩ = some v4 :=
  ⟨grown_below h.below hg h.own, by rw [u8s_app]; exact hown5, by rw [List.length_append, h.len]; rfl, cells5 hg h.ne h.lt h.cells⟩

set_option maxRecDepth 100000 in
set_option maxHeartbeats 2000000 in
theorem Code_may (A : Option Addr) (n c : Nat) (l : List Sg) (wide : Int) (m : Nat) (w : World) (h : Sl w 5 A n (sgs l)) (hm : mayB l = true) (hw : 0 ≤ wide ∧ wide ≤ 8191) (hlen : (codeS l wide).length = m) (hm6 : m ≤ 4000) :
    Calls Try.prog 12 #[.slice A n c, .int .i64 wide] w fun e w' => e = .returned (.tuple #[.string (strOfNums ((codeG l wide).1.map Int.ofNat)), .int .i64 (codeG l wide).2]) ∧ Below w.heap.size w w' := by
  have hl := h.sglen
  have hn3 : n ≤ 300 := by have := (mayB_from hm).2; omega
  have hmem := may_mem (mayB_from hm).1
  have HMEM := Lib.hid hmem
  have HLEN := Lib.hid hlen
  have HL := Lib.hid hl
  have HM := Lib.hid hm
  have g1 : decide (wide < 0) = false := by simp; omega
  have g2 : decide (wide > 8191) = false := by simp; omega
  clear hmem hlen hl hm
  go_enter Try.func12, Try.ntmps12
  go_wp2_with fail
  refine (path_May_any A n c l _ (by omega) h).mono ?_; rintro e w1 ⟨rfl, hb1⟩
  rw [HM.out]
  go_wp2_with fail
  refine (put_any _ _ _ wide [0] w.heap.size _ (own_new (u8s [0]) rfl rfl hb1.size (by omega)) (bal hb1 _).size (by omega) (by omega)).mono ?_; rintro e w2 ⟨A2, n2, c2, rfl, hn2, hown2, hg2, hat2⟩
  go_wp2_with (at_builtin; refine wpList_app rfl _ _ 41 rfl w.heap.size u8T rfl (own_below hown2 (bal (Below.refl _ _) _)) (u8s [1]) rfl (sl_new _ rfl rfl) (oneCell_u8s _) (by simp at hn2; have := putG_len wide; omega) (by have := hg2.size; have := (bal hb1 (.cells (u8s [0]).toArray 5)).size; simp at *; omega) ?_; intro A3 c3 w3 hown3 hg3 hat3)
  have ho1 : (w1.alloc (.cells (u8s [0]).toArray 5)).ownsRow w.heap.size 5 1 (.slice (some ⟨w1.heap.size, 0, none⟩) 1 1) 1 (u8s [0]) := own_new (u8s [0]) rfl rfl hb1.size (by omega)
  have B2 : Below w.heap.size w w2 := grown_below (bal hb1 _) hg2 ho1
  have B3 : Below w.heap.size w w3 := grown_below (bal B2 _) hg3 (own_below hown2 (bal (Below.refl _ _) _))
  have hlb : ([0] ++ putG wide ++ [1]).length = n2 + 1 := by rw [List.length_append, hn2]; rfl
  have hn27 : n2 ≤ 4 := by rw [← hn2]; have := (putG_len wide).1; simp; omega
  rw [← u8s_app] at hown3
  obtain ⟨bs, hbs⟩ : ∃ bs, bs = [0] ++ putG wide ++ [1] := ⟨_, rfl⟩
  rw [← hbs] at hown3 hlb
  have hcode : bs ++ (bodyG 0 0 0 0 (l.drop 0) ++ [10]) = codeS l wide := by rw [hbs]; simp [codeS]
  have HC := Lib.hid hcode
  clear hcode hbs hn2 hown2 hg2 hat2 hg3 hat3 ho1 B2
  go_wp2
  go_loopw [6, 7, 8, 9, 10, 31] (fun s6 s7 s8 s9 s10 s31 wr => ∃ (k q c' : Nat) (A' : Option Addr) (x y bx by_ : Int) (bs : List Nat), k ≤ n ∧ s6 = .slice A' q c' ∧ s7 = .int .i64 x ∧ s8 = .int .i64 y ∧ s9 = .int .i64 bx ∧ s10 = .int .i64 by_ ∧ s31 = .int .i64 (k : Int) ∧ Below w.heap.size w wr ∧
    wr.ownsRow w.heap.size 5 1 (.slice A' q c') q (u8s bs) ∧ bs.length = q ∧ (-8191 ≤ x ∧ x ≤ 8191) ∧ (-8191 ≤ y ∧ y ≤ 8191) ∧ (-8191 ≤ bx ∧ bx ≤ 8191) ∧ (-8191 ≤ by_ ∧ by_ ≤ 8191) ∧ Hid (bs ++ (bodyG x y bx by_ (l.drop k) ++ [10]) = codeS l wide)) (fun _ _ _ _ _ s31 _ => n - (intOf s31).toNat)
  case atStart => exact ⟨0, n2 + 1, c3, A3, 0, 0, 0, 0, bs, by omega, rfl, rfl, rfl, rfl, rfl, rfl, B3, hown3, hlb, by omega, by omega, by omega, by omega, HC⟩
  case round =>
    obtain ⟨wo, rfl⟩ : ∃ wo : World, wo = wr := ⟨_, rfl⟩
    obtain ⟨k, q, c', A', x, y, bx, by_, bs, hk, rfl, rfl, rfl, rfl, rfl, rfl, hbo, hown, hq, hx, hy, hbx, hby, hcode⟩ := hrel
    have hq6 : q + 1 ≤ 4000 := by
      have := congrArg List.length hcode.out
      rw [HLEN.out] at this
      simp only [List.length_append, List.length_cons, List.length_nil] at this; omega
    by_cases hkn : k < n
    · have hkl : k < l.length := by rw [HL.out]; exact hkn
      obtain ⟨b, off, rfl, hb, c0, c1, c2, c3', c4⟩ := (h.below hbo).sg k hkn hkl
      obtain ⟨s, hs⟩ : ∃ s, s = l[k] := ⟨_, rfl⟩
      rw [← hs] at c0 c1 c2 c3' c4
      obtain ⟨⟨b1, b2, b3, b4⟩, hkd⟩ := HMEM.out s (by rw [hs]; exact List.getElem_mem hkl)
      have hdr : l.drop k = s :: l.drop (k + 1) := by rw [hs]; exact List.drop_eq_getElem_cons hkl
      have HDR := Lib.hid hdr
      clear hs hdr
      rcases hkd with e | e | e | e
      · rw [e] at c0
        have hbd : bodyG x y bx by_ (l.drop k) = putG (s.x - x) ++ (putG (s.y - y) ++ 2 :: bodyG s.x s.y s.x s.y (l.drop (k + 1))) := by rw [HDR.out]; simp only [bodyG]; rw [if_neg (by omega), if_pos e]
        have HBD := Lib.hid hbd
        have HE := Lib.hid e
        clear hbd e
        obtain ⟨b1a, b1b⟩ := b1
        obtain ⟨b2a, b2b⟩ := b2
        obtain ⟨b3a, b3b⟩ := b3
        obtain ⟨b4a, b4b⟩ := b4
        obtain ⟨hxa, hxb⟩ := hx
        obtain ⟨hya, hyb⟩ := hy
        have wr1 := wr64 (v := s.x - x) (by omega)
        have wr2 := wr64 (v := s.y - y) (by omega)
        have wr3 := wr64 (v := s.cx - x) (by omega)
        have wr4 := wr64 (v := s.cy - y) (by omega)
        have hst := PutSt.start (N := 4000) hown hq (by omega) hbo 33 (.int .i64 1) (.int .i64 s.x) (.int .i64 s.y) (.int .i64 s.cx) (.int .i64 s.cy)
        have hc5 : ((bs ++ putG (s.x - x)) ++ putG (s.y - y)) ++ [2] ++ (bodyG s.x s.y s.x s.y (l.drop (k + 1)) ++ [10]) = codeS l wide := by rw [← hcode.out, HBD.out]; simp
        have HC5 := Lib.hid hc5
        clear hc5
        go_wp2
        go_region_held3 (fun w' => w'.cell? ⟨wo.heap.size, 0, none⟩ = some (.int .i64 1) ∧ w'.cell? ⟨wo.heap.size, 1, none⟩ = some (.int .i64 s.x) ∧ w'.cell? ⟨wo.heap.size, 2, none⟩ = some (.int .i64 s.y) ∧ w'.cell? ⟨wo.heap.size, 3, none⟩ = some (.int .i64 s.cx) ∧ w'.cell? ⟨wo.heap.size, 4, none⟩ = some (.int .i64 s.cy)) (first | exact hst.cells | exact (PutSt.al hst _).cells | exact hst.dr.cells | exact (hst.drN _).cells | exact (hst.dr.al _).cells | go_keep)
          (first
            | (go_at_call 23; (try simp only [wr1, wr2, wr3, wr4]); (first | with_reducible refine (put_st hst _ (by omega) (by omega)).mono ?_ | with_reducible refine (put_st hst.dr _ (by omega) (by omega)).mono ?_ | with_reducible refine (put_st (hst.al _) _ (by omega) (by omega)).mono ?_ | with_reducible refine (put_st (hst.dr.al _) _ (by omega) (by omega)).mono ?_ | with_reducible refine (put_st ((hst.al _).dr) _ (by omega) (by omega)).mono ?_ | fail); have hsp := hst; rintro e w' ⟨A5, n5, c5, rfl, hst, hli⟩; (first | (have hlit := hli _ _ hlit) | (have hlit := hli _ _ (PutSt.litg hsp.dr (.int .u8 2) 5 (wo.heap.size + 1) (al_sz _ _))) | (have hlit := hli _ _ (PutSt.lit hsp (.int .u8 2) 5)) | (have hlit := hli _ _ (PutSt.lit hsp.dr (.int .u8 2) 5)) | skip))
            | (first
              | (refine step_app (by rfl) _ _ 41 (by rfl) w.heap.size u8T (by rfl) (PutSt.own hst) [.int .u8 2] (by rfl) (by first | exact hlit.sl | exact hlit.dr.sl | exact (PutSt.lit hst _ _).sl | exact (PutSt.lit hst.dr _ _).sl | fail) (oneCell_u8s [2]) (by have := hst.few; omega) (PutSt.below hst).size ?_; intro A6 c6 w6 hown6 hg6 hat6; obtain ⟨B6, hown7, hlb6, j0, j1, j2, j3, j4⟩ := PutSt.app hst 2 hg6 hown6)
              | (refine step_app (by rfl) _ _ 41 (by rfl) w.heap.size u8T (by rfl) (PutSt.own hst.dr) [.int .u8 2] (by rfl) (by first | exact hlit.sl | exact hlit.dr.sl | exact (PutSt.lit hst _ _).sl | exact (PutSt.lit hst.dr _ _).sl | fail) (oneCell_u8s [2]) (by have := hst.few; omega) (PutSt.below hst.dr).size ?_; intro A6 c6 w6 hown6 hg6 hat6; obtain ⟨B6, hown7, hlb6, j0, j1, j2, j3, j4⟩ := PutSt.app hst.dr 2 hg6 hown6)
              | (refine step_app (by rfl) _ _ 41 (by rfl) w.heap.size u8T (by rfl) (PutSt.own (hst.al _)) [.int .u8 2] (by rfl) (by first | exact hlit.sl | exact hlit.dr.sl | exact (PutSt.lit hst _ _).sl | exact (PutSt.lit hst.dr _ _).sl | fail) (oneCell_u8s [2]) (by have := hst.few; omega) (PutSt.below (hst.al _)).size ?_; intro A6 c6 w6 hown6 hg6 hat6; obtain ⟨B6, hown7, hlb6, j0, j1, j2, j3, j4⟩ := PutSt.app (hst.al _) 2 hg6 hown6)
              | (refine step_app (by rfl) _ _ 41 (by rfl) w.heap.size u8T (by rfl) (PutSt.own (hst.dr.al _)) [.int .u8 2] (by rfl) (by first | exact hlit.sl | exact hlit.dr.sl | exact (PutSt.lit hst _ _).sl | exact (PutSt.lit hst.dr _ _).sl | fail) (oneCell_u8s [2]) (by have := hst.few; omega) (PutSt.below (hst.dr.al _)).size ?_; intro A6 c6 w6 hown6 hg6 hat6; obtain ⟨B6, hown7, hlb6, j0, j1, j2, j3, j4⟩ := PutSt.app (hst.dr.al _) 2 hg6 hown6)
              | (refine step_app (by rfl) _ _ 41 (by rfl) w.heap.size u8T (by rfl) (PutSt.own ((hst.al _).dr)) [.int .u8 2] (by rfl) (by first | exact hlit.sl | exact hlit.dr.sl | exact (PutSt.lit hst _ _).sl | exact (PutSt.lit hst.dr _ _).sl | fail) (oneCell_u8s [2]) (by have := hst.few; omega) (PutSt.below ((hst.al _).dr)).size ?_; intro A6 c6 w6 hown6 hg6 hat6; obtain ⟨B6, hown7, hlb6, j0, j1, j2, j3, j4⟩ := PutSt.app ((hst.al _).dr) 2 hg6 hown6)
              | fail)
            | fail)
        all_goals
          clear hst hsp hli hat6 hg6 hown6
          go_wp2
          go_quiet (fail)
          go_wp2
          go_quiet (fail)
          go_wp2
          exact ⟨⟨k + 1, n5 + 1, c6, A6, s.x, s.y, s.x, s.y, ((bs ++ putG (s.x - x)) ++ putG (s.y - y)) ++ [2], by omega, rfl, rfl, rfl, rfl, rfl, by go_num, bdrewN B6 _, own_below hown7 (bdrewN (Below.refl _ _) _), hlb6, ⟨b1a, b1b⟩, ⟨b2a, b2b⟩, ⟨b1a, b1b⟩, ⟨b2a, b2b⟩, HC5⟩, by simp [intOf]; omega⟩
      · rw [e] at c0
        have hbd : bodyG x y bx by_ (l.drop k) = putG (s.x - x) ++ (putG (s.y - y) ++ 3 :: bodyG s.x s.y bx by_ (l.drop (k + 1))) := by rw [HDR.out]; simp only [bodyG]; rw [if_neg (by omega), if_neg (by omega), if_pos e]
        have HBD := Lib.hid hbd
        have HE := Lib.hid e
        clear hbd e
        obtain ⟨b1a, b1b⟩ := b1
        obtain ⟨b2a, b2b⟩ := b2
        obtain ⟨b3a, b3b⟩ := b3
        obtain ⟨b4a, b4b⟩ := b4
        obtain ⟨hxa, hxb⟩ := hx
        obtain ⟨hya, hyb⟩ := hy
        have wr1 := wr64 (v := s.x - x) (by omega)
        have wr2 := wr64 (v := s.y - y) (by omega)
        have wr3 := wr64 (v := s.cx - x) (by omega)
        have wr4 := wr64 (v := s.cy - y) (by omega)
        have hst := PutSt.start (N := 4000) hown hq (by omega) hbo 33 (.int .i64 2) (.int .i64 s.x) (.int .i64 s.y) (.int .i64 s.cx) (.int .i64 s.cy)
        have hc5 : ((bs ++ putG (s.x - x)) ++ putG (s.y - y)) ++ [3] ++ (bodyG s.x s.y bx by_ (l.drop (k + 1)) ++ [10]) = codeS l wide := by rw [← hcode.out, HBD.out]; simp
        have HC5 := Lib.hid hc5
        clear hc5
        go_wp2
        go_region_held3 (fun w' => w'.cell? ⟨wo.heap.size, 0, none⟩ = some (.int .i64 2) ∧ w'.cell? ⟨wo.heap.size, 1, none⟩ = some (.int .i64 s.x) ∧ w'.cell? ⟨wo.heap.size, 2, none⟩ = some (.int .i64 s.y) ∧ w'.cell? ⟨wo.heap.size, 3, none⟩ = some (.int .i64 s.cx) ∧ w'.cell? ⟨wo.heap.size, 4, none⟩ = some (.int .i64 s.cy)) (first | exact hst.cells | exact (PutSt.al hst _).cells | exact hst.dr.cells | exact (hst.drN _).cells | exact (hst.dr.al _).cells | go_keep)
          (first
            | (go_at_call 23; (try simp only [wr1, wr2, wr3, wr4]); (first | with_reducible refine (put_st hst _ (by omega) (by omega)).mono ?_ | with_reducible refine (put_st hst.dr _ (by omega) (by omega)).mono ?_ | with_reducible refine (put_st (hst.al _) _ (by omega) (by omega)).mono ?_ | with_reducible refine (put_st (hst.dr.al _) _ (by omega) (by omega)).mono ?_ | with_reducible refine (put_st ((hst.al _).dr) _ (by omega) (by omega)).mono ?_ | fail); have hsp := hst; rintro e w' ⟨A5, n5, c5, rfl, hst, hli⟩; (first | (have hlit := hli _ _ hlit) | (have hlit := hli _ _ (PutSt.litg hsp.dr (.int .u8 3) 5 (wo.heap.size + 1) (al_sz _ _))) | (have hlit := hli _ _ (PutSt.lit hsp (.int .u8 3) 5)) | (have hlit := hli _ _ (PutSt.lit hsp.dr (.int .u8 3) 5)) | skip))
            | (first
              | (refine step_app (by rfl) _ _ 41 (by rfl) w.heap.size u8T (by rfl) (PutSt.own hst) [.int .u8 3] (by rfl) (by first | exact hlit.sl | exact hlit.dr.sl | exact (PutSt.lit hst _ _).sl | exact (PutSt.lit hst.dr _ _).sl | fail) (oneCell_u8s [3]) (by have := hst.few; omega) (PutSt.below hst).size ?_; intro A6 c6 w6 hown6 hg6 hat6; obtain ⟨B6, hown7, hlb6, j0, j1, j2, j3, j4⟩ := PutSt.app hst 3 hg6 hown6)
              | (refine step_app (by rfl) _ _ 41 (by rfl) w.heap.size u8T (by rfl) (PutSt.own hst.dr) [.int .u8 3] (by rfl) (by first | exact hlit.sl | exact hlit.dr.sl | exact (PutSt.lit hst _ _).sl | exact (PutSt.lit hst.dr _ _).sl | fail) (oneCell_u8s [3]) (by have := hst.few; omega) (PutSt.below hst.dr).size ?_; intro A6 c6 w6 hown6 hg6 hat6; obtain ⟨B6, hown7, hlb6, j0, j1, j2, j3, j4⟩ := PutSt.app hst.dr 3 hg6 hown6)
              | (refine step_app (by rfl) _ _ 41 (by rfl) w.heap.size u8T (by rfl) (PutSt.own (hst.al _)) [.int .u8 3] (by rfl) (by first | exact hlit.sl | exact hlit.dr.sl | exact (PutSt.lit hst _ _).sl | exact (PutSt.lit hst.dr _ _).sl | fail) (oneCell_u8s [3]) (by have := hst.few; omega) (PutSt.below (hst.al _)).size ?_; intro A6 c6 w6 hown6 hg6 hat6; obtain ⟨B6, hown7, hlb6, j0, j1, j2, j3, j4⟩ := PutSt.app (hst.al _) 3 hg6 hown6)
              | (refine step_app (by rfl) _ _ 41 (by rfl) w.heap.size u8T (by rfl) (PutSt.own (hst.dr.al _)) [.int .u8 3] (by rfl) (by first | exact hlit.sl | exact hlit.dr.sl | exact (PutSt.lit hst _ _).sl | exact (PutSt.lit hst.dr _ _).sl | fail) (oneCell_u8s [3]) (by have := hst.few; omega) (PutSt.below (hst.dr.al _)).size ?_; intro A6 c6 w6 hown6 hg6 hat6; obtain ⟨B6, hown7, hlb6, j0, j1, j2, j3, j4⟩ := PutSt.app (hst.dr.al _) 3 hg6 hown6)
              | (refine step_app (by rfl) _ _ 41 (by rfl) w.heap.size u8T (by rfl) (PutSt.own ((hst.al _).dr)) [.int .u8 3] (by rfl) (by first | exact hlit.sl | exact hlit.dr.sl | exact (PutSt.lit hst _ _).sl | exact (PutSt.lit hst.dr _ _).sl | fail) (oneCell_u8s [3]) (by have := hst.few; omega) (PutSt.below ((hst.al _).dr)).size ?_; intro A6 c6 w6 hown6 hg6 hat6; obtain ⟨B6, hown7, hlb6, j0, j1, j2, j3, j4⟩ := PutSt.app ((hst.al _).dr) 3 hg6 hown6)
              | fail)
            | fail)
        all_goals
          clear hst hsp hli hat6 hg6 hown6
          go_wp2
          go_quiet (fail)
          go_wp2
          exact ⟨⟨k + 1, n5 + 1, c6, A6, s.x, s.y, bx, by_, ((bs ++ putG (s.x - x)) ++ putG (s.y - y)) ++ [3], by omega, rfl, rfl, rfl, rfl, rfl, by go_num, bdrewN B6 _, own_below hown7 (bdrewN (Below.refl _ _) _), hlb6, ⟨b1a, b1b⟩, ⟨b2a, b2b⟩, hbx, hby, HC5⟩, by simp [intOf]; omega⟩
      · rw [e] at c0
        have hbd : bodyG x y bx by_ (l.drop k) = putG (s.cx - x) ++ (putG (s.cy - y) ++ (putG (s.x - x) ++ (putG (s.y - y) ++ 4 :: bodyG s.x s.y bx by_ (l.drop (k + 1))))) := by rw [HDR.out]; simp only [bodyG]; rw [if_neg (by omega), if_neg (by omega), if_neg (by omega)]
        have HBD := Lib.hid hbd
        have HE := Lib.hid e
        clear hbd e
        obtain ⟨b1a, b1b⟩ := b1
        obtain ⟨b2a, b2b⟩ := b2
        obtain ⟨b3a, b3b⟩ := b3
        obtain ⟨b4a, b4b⟩ := b4
        obtain ⟨hxa, hxb⟩ := hx
        obtain ⟨hya, hyb⟩ := hy
        have wr1 := wr64 (v := s.x - x) (by omega)
        have wr2 := wr64 (v := s.y - y) (by omega)
        have wr3 := wr64 (v := s.cx - x) (by omega)
        have wr4 := wr64 (v := s.cy - y) (by omega)
        have hst := PutSt.start (N := 4000) hown hq (by omega) hbo 33 (.int .i64 3) (.int .i64 s.x) (.int .i64 s.y) (.int .i64 s.cx) (.int .i64 s.cy)
        have hc5 : ((((bs ++ putG (s.cx - x)) ++ putG (s.cy - y)) ++ putG (s.x - x)) ++ putG (s.y - y)) ++ [4] ++ (bodyG s.x s.y bx by_ (l.drop (k + 1)) ++ [10]) = codeS l wide := by rw [← hcode.out, HBD.out]; simp
        have HC5 := Lib.hid hc5
        clear hc5
        go_wp2
        go_region_held3 (fun w' => w'.cell? ⟨wo.heap.size, 0, none⟩ = some (.int .i64 3) ∧ w'.cell? ⟨wo.heap.size, 1, none⟩ = some (.int .i64 s.x) ∧ w'.cell? ⟨wo.heap.size, 2, none⟩ = some (.int .i64 s.y) ∧ w'.cell? ⟨wo.heap.size, 3, none⟩ = some (.int .i64 s.cx) ∧ w'.cell? ⟨wo.heap.size, 4, none⟩ = some (.int .i64 s.cy)) (first | exact hst.cells | exact (PutSt.al hst _).cells | exact hst.dr.cells | exact (hst.drN _).cells | exact (hst.dr.al _).cells | go_keep)
          (first
            | (go_at_call 23; (try simp only [wr1, wr2, wr3, wr4]); (first | with_reducible refine (put_st hst _ (by omega) (by omega)).mono ?_ | with_reducible refine (put_st hst.dr _ (by omega) (by omega)).mono ?_ | with_reducible refine (put_st (hst.al _) _ (by omega) (by omega)).mono ?_ | with_reducible refine (put_st (hst.dr.al _) _ (by omega) (by omega)).mono ?_ | with_reducible refine (put_st ((hst.al _).dr) _ (by omega) (by omega)).mono ?_ | fail); have hsp := hst; rintro e w' ⟨A5, n5, c5, rfl, hst, hli⟩; (first | (have hlit := hli _ _ hlit) | (have hlit := hli _ _ (PutSt.litg hsp.dr (.int .u8 4) 5 (wo.heap.size + 1) (al_sz _ _))) | (have hlit := hli _ _ (PutSt.lit hsp (.int .u8 4) 5)) | (have hlit := hli _ _ (PutSt.lit hsp.dr (.int .u8 4) 5)) | skip))
            | (first
              | (refine step_app (by rfl) _ _ 41 (by rfl) w.heap.size u8T (by rfl) (PutSt.own hst) [.int .u8 4] (by rfl) (by first | exact hlit.sl | exact hlit.dr.sl | exact (PutSt.lit hst _ _).sl | exact (PutSt.lit hst.dr _ _).sl | fail) (oneCell_u8s [4]) (by have := hst.few; omega) (PutSt.below hst).size ?_; intro A6 c6 w6 hown6 hg6 hat6; obtain ⟨B6, hown7, hlb6, j0, j1, j2, j3, j4⟩ := PutSt.app hst 4 hg6 hown6)
              | (refine step_app (by rfl) _ _ 41 (by rfl) w.heap.size u8T (by rfl) (PutSt.own hst.dr) [.int .u8 4] (by rfl) (by first | exact hlit.sl | exact hlit.dr.sl | exact (PutSt.lit hst _ _).sl | exact (PutSt.lit hst.dr _ _).sl | fail) (oneCell_u8s [4]) (by have := hst.few; omega) (PutSt.below hst.dr).size ?_; intro A6 c6 w6 hown6 hg6 hat6; obtain ⟨B6, hown7, hlb6, j0, j1, j2, j3, j4⟩ := PutSt.app hst.dr 4 hg6 hown6)
              | (refine step_app (by rfl) _ _ 41 (by rfl) w.heap.size u8T (by rfl) (PutSt.own (hst.al _)) [.int .u8 4] (by rfl) (by first | exact hlit.sl | exact hlit.dr.sl | exact (PutSt.lit hst _ _).sl | exact (PutSt.lit hst.dr _ _).sl | fail) (oneCell_u8s [4]) (by have := hst.few; omega) (PutSt.below (hst.al _)).size ?_; intro A6 c6 w6 hown6 hg6 hat6; obtain ⟨B6, hown7, hlb6, j0, j1, j2, j3, j4⟩ := PutSt.app (hst.al _) 4 hg6 hown6)
              | (refine step_app (by rfl) _ _ 41 (by rfl) w.heap.size u8T (by rfl) (PutSt.own (hst.dr.al _)) [.int .u8 4] (by rfl) (by first | exact hlit.sl | exact hlit.dr.sl | exact (PutSt.lit hst _ _).sl | exact (PutSt.lit hst.dr _ _).sl | fail) (oneCell_u8s [4]) (by have := hst.few; omega) (PutSt.below (hst.dr.al _)).size ?_; intro A6 c6 w6 hown6 hg6 hat6; obtain ⟨B6, hown7, hlb6, j0, j1, j2, j3, j4⟩ := PutSt.app (hst.dr.al _) 4 hg6 hown6)
              | (refine step_app (by rfl) _ _ 41 (by rfl) w.heap.size u8T (by rfl) (PutSt.own ((hst.al _).dr)) [.int .u8 4] (by rfl) (by first | exact hlit.sl | exact hlit.dr.sl | exact (PutSt.lit hst _ _).sl | exact (PutSt.lit hst.dr _ _).sl | fail) (oneCell_u8s [4]) (by have := hst.few; omega) (PutSt.below ((hst.al _).dr)).size ?_; intro A6 c6 w6 hown6 hg6 hat6; obtain ⟨B6, hown7, hlb6, j0, j1, j2, j3, j4⟩ := PutSt.app ((hst.al _).dr) 4 hg6 hown6)
              | fail)
            | fail)
        all_goals
          clear hst hsp hli hat6 hg6 hown6
          go_wp2
          go_quiet (fail)
          go_wp2
          exact ⟨⟨k + 1, n5 + 1, c6, A6, s.x, s.y, bx, by_, ((((bs ++ putG (s.cx - x)) ++ putG (s.cy - y)) ++ putG (s.x - x)) ++ putG (s.y - y)) ++ [4], by omega, rfl, rfl, rfl, rfl, rfl, by go_num, bdrewN B6 _, own_below hown7 (bdrewN (Below.refl _ _) _), hlb6, ⟨b1a, b1b⟩, ⟨b2a, b2b⟩, hbx, hby, HC5⟩, by simp [intOf]; omega⟩
      · rw [e] at c0
        have hbd : bodyG x y bx by_ (l.drop k) = 7 :: bodyG bx by_ bx by_ (l.drop (k + 1)) := by rw [HDR.out]; simp only [bodyG]; rw [if_pos e]
        have HBD := Lib.hid hbd
        have HE := Lib.hid e
        clear hbd e
        go_wp2_with (at_builtin; go_loud (have W1 := own_below hown (bal (bal (Below.refl _ _) (.cells #[.int .i64 4, .int .i64 s.x, .int .i64 s.y, .int .i64 s.cx, .int .i64 s.cy] 33)) (.cells #[.int .u8 7] 5)); have W2 := (bal (bal hbo (.cells #[.int .i64 4, .int .i64 s.x, .int .i64 s.y, .int .i64 s.cx, .int .i64 s.cy] 33)) (.cells #[.int .u8 7] 5)).size; have W3 := sl_new (w := wo.alloc (.cells #[.int .i64 4, .int .i64 s.x, .int .i64 s.y, .int .i64 s.cx, .int .i64 s.cy] 33)) (t := 5) (n := 1) (g := wo.heap.size + 1) [.int .u8 7] (by simp) rfl; refine wpList_app rfl _ _ 41 rfl w.heap.size u8T rfl W1 [.int .u8 7] rfl W3 (oneCell_u8s [7]) (by omega) W2 ?_; clear W2 W3; intro A5 c5 w5 hown5 hg5 hat5))
        have hown6 : w5.ownsRow w.heap.size 5 1 (.slice A5 (q + 1) c5) (q + 1) (u8s (bs ++ [7])) := by rw [u8s_app]; exact hown5
        have B5 : Below w.heap.size w w5 := grown_below (bal (bal hbo _) _) hg5 W1
        have hlb5 : (bs ++ [7]).length = q + 1 := by rw [List.length_append, hq]; rfl
        have hc5 : bs ++ [7] ++ (bodyG bx by_ bx by_ (l.drop (k + 1)) ++ [10]) = codeS l wide := by rw [← hcode.out, HBD.out]; simp
        have HC5 := Lib.hid hc5
        clear hc5 hat5 hg5 W1 hown5
        go_wp2
        exact ⟨⟨k + 1, q + 1, c5, A5, bx, by_, bx, by_, bs ++ [7], by omega, rfl, rfl, rfl, rfl, rfl, by go_num, B5, hown6, hlb5, hbx, hby, hbx, hby, HC5⟩, by simp [intOf]; omega⟩
    · obtain rfl : k = n := by omega
      have hdr : l.drop k = [] := by rw [← HL.out]; exact List.drop_length
      have hc6 : bs ++ [10] = codeS l wide := by rw [← hcode.out, hdr]; rfl
      have hq7 : q + 1 = m := by rw [← HLEN.out, ← hc6, List.length_append, hq]; rfl
      have HC6 := Lib.hid hc6
      clear hdr hc6
      by_cases h6 : m ≤ 600
      · have hG : codeG l wide = (codeS l wide, 0) := by unfold codeG; rw [if_neg (by rw [HM.out]; simp; omega), if_neg (by rw [HLEN.out]; omega)]
        have HG := Lib.hid hG
        have gz : decide ((q : Int) + 1 > 600) = false := by simp; omega
        clear hG
        have W1 := own_below hown (bal (Below.refl _ _) (.cells #[.int .u8 10] 5))
        have W2 := (bal hbo (.cells #[.int .u8 10] 5)).size
        have W3 := sl_new (w := wo) (t := 5) (n := 1) [.int .u8 10] rfl rfl
        go_wp2_with (at_builtin; go_loud (refine wpList_app rfl _ _ 41 rfl w.heap.size u8T rfl W1 [.int .u8 10] rfl W3 (oneCell_u8s [10]) (by omega) W2 ?_; clear W2 W3; intro A5 c5 w5 hown5 hg5 hat5))
        have hown6 : w5.ownsRow w.heap.size 5 1 (.slice A5 (q + 1) c5) (q + 1) (u8s (codeS l wide)) := by rw [← HC6.out, u8s_app]; exact hown5
        have B5 : Below w.heap.size w w5 := grown_below (bal hbo _) hg5 W1
        rw [hq7] at hown6
        have HCV := sl_str (c := c5) (own_sl hown6) (by omega)
        clear hat5 hg5 W1 hown5
        go_wp2
        rw [HCV]
        go_wp2
        go_ret2
        rw [HG.out]
        exact ⟨rfl, B5⟩
      · have hG : codeG l wide = ([], 5) := by unfold codeG; rw [if_neg (by rw [HM.out]; simp; omega), if_pos (by rw [HLEN.out]; omega)]
        have HG := Lib.hid hG
        have gz : decide ((q : Int) + 1 > 600) = true := by simp; omega
        clear hG
        have W1 := own_below hown (bal (Below.refl _ _) (.cells #[.int .u8 10] 5))
        have W2 := (bal hbo (.cells #[.int .u8 10] 5)).size
        have W3 := sl_new (w := wo) (t := 5) (n := 1) [.int .u8 10] rfl rfl
        go_wp2_with (at_builtin; go_loud (refine wpList_app rfl _ _ 41 rfl w.heap.size u8T rfl W1 [.int .u8 10] rfl W3 (oneCell_u8s [10]) (by omega) W2 ?_; clear W2 W3; intro A5 c5 w5 hown5 hg5 hat5))
        have hown6 : w5.ownsRow w.heap.size 5 1 (.slice A5 (q + 1) c5) (q + 1) (u8s (codeS l wide)) := by rw [← HC6.out, u8s_app]; exact hown5
        have B5 : Below w.heap.size w w5 := grown_below (bal hbo _) hg5 W1
        rw [hq7] at hown6
        have HCV := sl_str (c := c5) (own_sl hown6) (by omega)
        clear hat5 hg5 W1 hown5
        go_wp2
        go_ret2
        rw [HG.out]
        exact ⟨rfl, B5⟩
theorem bodyG_len13 : ∀ (l : List Sg) (x y bx by_ : Int), (bodyG x y bx by_ l).length ≤ 13 * l.length
  | [], _, _, _, _ => by simp [bodyG]
  | s :: l, x, y, bx, by_ => by
    have d := fun v => (putG_len v).1
    have d1 := d (s.x - x)
    have d2 := d (s.y - y)
    have d3 := d (s.cx - x)
    have d4 := d (s.cy - y)
    unfold bodyG
    split
    · have := bodyG_len13 l bx by_ bx by_
      simp only [List.length_cons]; omega
    · split
      · have := bodyG_len13 l s.x s.y s.x s.y
        simp only [List.length_cons, List.length_append]; omega
      · split
        · have := bodyG_len13 l s.x s.y bx by_
          simp only [List.length_cons, List.length_append]; omega
        · have := bodyG_len13 l s.x s.y bx by_
          simp only [List.length_cons, List.length_append]; omega
theorem codeS_len13 (l : List Sg) (wide : Int) : (codeS l wide).length ≤ 13 * l.length + 6 := by
  have h1 := (putG_len wide).1
  have h2 := bodyG_len13 l 0 0 0 0
  unfold codeS
  simp only [List.length_cons, List.length_append, List.length_nil]; omega
set_option maxRecDepth 100000 in
theorem Code_any (A : Option Addr) (n c : Nat) (l : List Sg) (wide : Int) (w : World) (h : Sl w 5 A n (sgs l)) (hn : n ≤ 100000) :
    Calls Try.prog 12 #[.slice A n c, .int .i64 wide] w fun e w' => e = .returned (.tuple #[.string (strOfNums ((codeG l wide).1.map Int.ofNat)), .int .i64 (codeG l wide).2]) ∧ Below w.heap.size w w' := by
  by_cases hm : mayB l = true
  · by_cases hw : 0 ≤ wide ∧ wide ≤ 8191
    · have := codeS_len13 l wide
      have := (mayB_from hm).2
      exact Code_may A n c l wide _ w h hm hw rfl (by omega)
    · have hG : codeG l wide = ([], 1) := by unfold codeG; rw [if_pos (by omega)]
      have HG := Lib.hid hG
      have HM := Lib.hid hm
      have gz : (decide (wide < 0) = true) ∨ (decide (wide < 0) = false ∧ decide (wide > 8191) = true) := by simp; omega
      clear hG hm hw
      rcases gz with g1 | ⟨g1, g2⟩
      · go_enter Try.func12, Try.ntmps12
        go_wp2_with fail
        refine (path_May_any A n c l _ (by omega) h).mono ?_; rintro e w1 ⟨rfl, hb1⟩
        rw [HM.out]
        go_wp2
        go_ret2
        rw [HG.out]
        exact ⟨rfl, hb1⟩
      · go_enter Try.func12, Try.ntmps12
        go_wp2_with fail
        refine (path_May_any A n c l _ (by omega) h).mono ?_; rintro e w1 ⟨rfl, hb1⟩
        rw [HM.out]
        go_wp2
        go_ret2
        rw [HG.out]
        exact ⟨rfl, hb1⟩
  · have hm' : mayB l = false := by simpa using hm
    have hG : codeG l wide = ([], 1) := by unfold codeG; rw [if_pos (.inl hm')]
    have HG := Lib.hid hG
    have HM := Lib.hid hm'
    clear hG hm hm'
    go_enter Try.func12, Try.ntmps12
    go_wp2_with fail
    refine (path_May_any A n c l _ (by omega) h).mono ?_; rintro e w1 ⟨rfl, hb1⟩
    rw [HM.out]
    go_wp2
    go_ret2
    rw [HG.out]
    exact ⟨rfl, hb1⟩
end Go.Proofs.Ytemnjccgikfddaa
