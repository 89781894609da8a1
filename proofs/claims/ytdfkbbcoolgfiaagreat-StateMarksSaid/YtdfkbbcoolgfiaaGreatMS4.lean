/- A list in new memory: make and copy, the whole of it, elements of any size. -/
import Derived.Test.YtdfkbbcoolgfiaaGreatMAdd
import Derived.Test.YtdfkbbcoolgfiaaGreatMEd
import Derived.Laws.CopyOwn
import Derived.Test.YtdfkbbcoolgfiaaGreatMS2
import Derived.Laws.OwnMore
import Derived.OneCell
import Derived.Test.YtdfkbbcoolgfiaaGreatAllP
namespace Go.Proofs.YtdfkbbcoolgfiaaGreat
open Go.RowKit

theorem run_copy_sized {P : Program} (w : World) (dT sT ty elem : TypeId) (g n dCap : Nat) (a : Addr) (sCap : Nat) (cur : Array Value) (t : TypeId) (cs : List Value) (i : TypeInfo)
    (hu : P.underlying dT = some (.slice elem)) (hi : P.info? elem = some i) (hg : w.heap[g]? = some (.cells cur t (0, 0))) (hn : cs.length = n * i.size) (hsz : cur.size = n * i.size)
    (hsrc : ∀ j v, cs[j]? = some v → w.cell? (a.add j) = some v) (h1 : ∀ v ∈ cs, v.oneCell' = true) :
    (Builtin.copy_ #[dT, sT] ty #[.slice (some ⟨g, 0, none⟩) n dCap, .slice (some a) n sCap]).run P w = .ok (goInt n) (w.setRow g cs.toArray) := by
  have hl := run_loadCells_list (P := P) w a cs hsrc
  have hst := run_storeCells_at (P := P) g 0 t cs 0 cur w hg (by omega) h1
  have e1 : cur.toList.take (0 + 0) ++ cs ++ cur.toList.drop (0 + 0 + cs.length) = cs := by
    rw [List.drop_of_length_le (by rw [Array.length_toList]; omega)]
    simp
  rw [e1] at hst
  simp [Builtin.copy_, run_underlying hu, Builtin.lenOf, Builtin.firstCells, sizeOf, typeInfo, hi, ← hn, hl, hst]
theorem wpList_copy_whole {P : Program} {w : World} {ops : Array Oper} {rest : List Oper} {o : Oper} {a : Act} {Q : Exit → Act → World → Prop} (hgd : o.guard = none) (d s : Operand) (dT sT : TypeId)
    (ho : o.op = .call { callee := .builtin .copy, args := #[d, s], argTypes := #[dT, sT] }) (elem : TypeId) (i : TypeInfo) (hu : P.underlying dT = some (.slice elem)) (hi : P.info? elem = some i)
    (g n dCap : Nat) (ad : Addr) (sCap : Nat) (hd : a.eval d = .slice (some ⟨g, 0, none⟩) n dCap) (hs : a.eval s = .slice (some ad) n sCap)
    (cur : Array Value) (t : TypeId) (hg : w.heap[g]? = some (.cells cur t (0, 0))) (cs : List Value) (hn : cs.length = n * i.size) (hsz : cur.size = n * i.size)
    (hsrc : ∀ j v, cs[j]? = some v → w.cell? (ad.add j) = some v) (h1 : ∀ v ∈ cs, v.oneCell' = true)
    (h : wpList P ops Q rest (a.put o.dst (goInt n)) (w.setRow g cs.toArray)) : wpList P ops Q (o :: rest) a w := by
  refine wpList_plain hgd fun K hK => ?_
  have hrun := run_copy_sized (P := P) w dT sT o.type elem g n dCap ad sCap cur t cs i hu hi hg hn hsz hsrc h1
  unfold Oper.wp
  simp [execOp, ho, resolve, invoke, builtin, hd, hs, hrun, Result.andThen]
  exact hK _ _ h
theorem wpList_make_at {P : Program} (w : World) {ops : Array Oper} {rest : List Oper} {o : Oper} {a : Act} {Q : Exit → Act → World → Prop}
    (hg : o.guard = none) (l c : Operand) (t : TypeId) (hop : o.op = Op.makeSlice t l c)
    (e : TypeId) (i : TypeInfo) (z : Value) (h1 : P.underlying t = some (.slice e)) (h2 : P.info? e = some i) (h3 : i.zero = some z)
    (kl kc : IntKind) (L C : Int) (n : Nat) (hl : a.eval l = .int kl L) (hc : a.eval c = .int kc C) (hL : L = (n : Int)) (hC : C = (n : Int)) (b2 : i.bytes * n ≤ 281474976710656) (b3 : n ≤ 1000000)
    (hK : ∀ cur : Array Value, cur.size = n * i.size → wpList P ops Q rest (a.put o.dst (.slice (some ⟨w.heap.size, 0, none⟩) n n)) (w.alloc (.cells cur e))) :
    wpList P ops Q (o :: rest) a w := by
  refine wpList_plain hg fun K hK' => ?_
  subst hL
  subst hC
  have hb' : (i.bytes : Int) * (n : Int) ≤ 281474976710656 := by
    have h : ((i.bytes * n : Nat) : Int) ≤ 281474976710656 := by omega
    rwa [Int.natCast_mul] at h
  have hrun := run_make (P := P) w t e i z h1 h2 h3 kl kc n n (by omega) (by omega) hb' (by omega)
  simp only [Int.toNat_natCast] at hrun
  unfold Oper.wp
  simp [execOp, hop, hl, hc, hrun, Result.andThen]
  exact hK' _ _ (hK _ (size_madeCells _ _))
theorem alloc_setRow (w : World) (cur cs : Array Value) (t : TypeId) : (w.alloc (.cells cur t)).setRow w.heap.size cs = w.alloc (.cells cs t) := by
  unfold World.setRow World.alloc
  congr 1
  apply Array.ext
  · simp
  · intro k hk1 hk2
    have hk : k < w.heap.size + 1 := by simpa using hk2
    by_cases hkw : w.heap.size = k
    · subst hkw
      simp [Array.getElem_modify, Array.getElem_push]
    · have hlt : k < w.heap.size := by omega
      simp [Array.getElem_modify, Array.getElem_push, hkw, hlt]
theorem Sl.src {w : World} {s n : Nat} {A : Option Addr} {xs : List Value} (h : Sl w s A n xs) (hn : 0 < n) : ∃ ad, A = some ad ∧ ad.block < w.heap.size ∧ ad.spot = none ∧ ∀ j v, xs[j]? = some v → w.cell? (ad.add j) = some v := by
  obtain ⟨b, off, rfl, hb, hc⟩ := h.2 hn
  refine ⟨_, rfl, hb, rfl, fun j v hv => ?_⟩
  have hadd : (⟨b, off, none⟩ : Addr).add j = ⟨b, off + j, none⟩ := by unfold Addr.add; split <;> simp_all
  rw [hadd]
  exact hc j v hv
theorem later_add {W w : World} (hb : Below W.heap.size W w) {ad : Addr} (h : ad.block < W.heap.size) (hs : ad.spot = none) {j : Nat} {v : Value} (hv : W.cell? (ad.add j) = some v) : w.cell? (ad.add j) = some v := by
  obtain ⟨b, o, s⟩ := ad
  simp only at hs h
  subst hs
  have hadd : (⟨b, o, none⟩ : Addr).add j = ⟨b, o + j, none⟩ := by unfold Addr.add; split <;> simp_all
  rw [hadd] at hv ⊢
  exact (later_cell hb h).trans hv
theorem al_heap (w : World) (cs : Array Value) (t : TypeId) : (w.alloc (.cells cs t)).heap[w.heap.size]? = some (.cells cs t) := heap_alloc_new w _
set_option maxRecDepth 100000 in
set_option maxHeartbeats 1000000 in
theorem ownSeg_any (A : Option Addr) (n c : Nat) (xs : List Value) (w : World) (h : Sl w 5 A n xs) (h1 : ∀ u ∈ xs, u.oneCell' = true) (hn : n ≤ 1000000) :
    Calls Tryz.prog 31 #[.slice A n c] w fun e w' => ∃ A' c', e = .returned (.slice A' n c') ∧ w'.ownsRow w.heap.size 63 5 (.slice A' n c') n xs ∧ Below w.heap.size w w' := by
  have hlen := h.1
  rcases Nat.eq_zero_or_pos n with rfl | hpos
  · obtain rfl : xs = [] := List.eq_nil_of_length_eq_zero (by omega)
    go_enter Tryz.func31, Tryz.ntmps31
    go_wp2
    go_ret
    exact ⟨none, 0, rfl, own_nil, Below.refl _ _⟩
  · obtain ⟨ad, rfl, hb, hsp, hsrc⟩ := h.src hpos
    obtain ⟨ht, i, z, hi, hz, hsize, hby, hzs, -, hbb⟩ := sgT
    have hown := own_new (w := w) (t := 63) (n := n) (g := w.heap.size) (s := 5) (base := w.heap.size) xs rfl hlen (Nat.le_refl _) hn
    have HO := Lib.hid hown
    have HC := Lib.hid h1
    have HS := Lib.hid hsrc
    clear h1 hsrc hown h
    go_enter Tryz.func31, Tryz.ntmps31
    go_wp2_with (first
      | (at_make; refine wpList_make_at _ rfl _ _ 24 rfl 63 i z ht hi hz _ _ _ _ n rfl rfl rfl rfl (by rw [hby]; omega) hn ?_; intro cur hcur)
      | fail)
    have hcopy := run_copy_sized (P := Tryz.prog) (w.alloc (.cells cur 63)) 24 24 3 63 w.heap.size n n ad c cur 63 xs i ht hi (al_heap _ _ _) (by rw [hsize]; exact hlen) hcur (fun j v hv => later_add (bal (Below.refl _ _) _) hb hsp (HS.out j v hv)) HC.out
    rw [alloc_setRow] at hcopy
    rw [hcopy]
    go_wp2_with fail
    go_ret
    exact ⟨_, _, rfl, HO.out, bal (Below.refl _ _) _⟩
theorem ownIntT : SlT Tryz.prog 28 3 1 8 := slT_of Tryz.underlying28 (by kernel_rfl) (by omega) (by omega)
theorem ownClipT : SlT Tryz.prog 25 65 2 32 := slT_of Tryz.underlying25 (by kernel_rfl) (by omega) (by omega)
set_option maxRecDepth 100000 in
set_option maxHeartbeats 1000000 in
theorem ownInt_any (A : Option Addr) (n c : Nat) (xs : List Value) (w : World) (h : Sl w 1 A n xs) (h1 : ∀ u ∈ xs, u.oneCell' = true) (hn : n ≤ 1000000) :
    Calls Tryz.prog 61 #[.slice A n c] w fun e w' => ∃ A' c', e = .returned (.slice A' n c') ∧ w'.ownsRow w.heap.size 3 1 (.slice A' n c') n xs ∧ Below w.heap.size w w' := by
  have hlen := h.1
  rcases Nat.eq_zero_or_pos n with rfl | hpos
  · obtain rfl : xs = [] := List.eq_nil_of_length_eq_zero (by omega)
    go_enter Tryz.func61, Tryz.ntmps61
    go_wp2
    go_ret
    exact ⟨none, 0, rfl, own_nil, Below.refl _ _⟩
  · obtain ⟨ad, rfl, hb, hsp, hsrc⟩ := h.src hpos
    obtain ⟨ht, i, z, hi, hz, hsize, hby, hzs, -, hbb⟩ := ownIntT
    have hown := own_new (w := w) (t := 3) (n := n) (g := w.heap.size) (s := 1) (base := w.heap.size) xs rfl hlen (Nat.le_refl _) hn
    have HO := Lib.hid hown
    have HC := Lib.hid h1
    have HS := Lib.hid hsrc
    clear h1 hsrc hown h
    go_enter Tryz.func61, Tryz.ntmps61
    go_wp2_with (first
      | (at_make; refine wpList_make_at _ rfl _ _ 28 rfl 3 i z ht hi hz _ _ _ _ n rfl rfl rfl rfl (by rw [hby]; omega) hn ?_; intro cur hcur)
      | fail)
    have hcopy := run_copy_sized (P := Tryz.prog) (w.alloc (.cells cur 3)) 28 28 3 3 w.heap.size n n ad c cur 3 xs i ht hi (al_heap _ _ _) (by rw [hsize]; exact hlen) hcur (fun j v hv => later_add (bal (Below.refl _ _) _) hb hsp (HS.out j v hv)) HC.out
    rw [alloc_setRow] at hcopy
    rw [hcopy]
    go_wp2_with fail
    go_ret
    exact ⟨_, _, rfl, HO.out, bal (Below.refl _ _) _⟩
set_option maxRecDepth 100000 in
set_option maxHeartbeats 1000000 in
theorem ownClip_any (A : Option Addr) (n c : Nat) (xs : List Value) (w : World) (h : Sl w 2 A n xs) (h1 : ∀ u ∈ xs, u.oneCell' = true) (hn : n ≤ 1000000) :
    Calls Tryz.prog 72 #[.slice A n c] w fun e w' => ∃ A' c', e = .returned (.slice A' n c') ∧ w'.ownsRow w.heap.size 65 2 (.slice A' n c') n xs ∧ Below w.heap.size w w' := by
  have hlen := h.1
  rcases Nat.eq_zero_or_pos n with rfl | hpos
  · obtain rfl : xs = [] := List.eq_nil_of_length_eq_zero (by omega)
    go_enter Tryz.func72, Tryz.ntmps72
    go_wp2
    go_ret
    exact ⟨none, 0, rfl, own_nil, Below.refl _ _⟩
  · obtain ⟨ad, rfl, hb, hsp, hsrc⟩ := h.src hpos
    obtain ⟨ht, i, z, hi, hz, hsize, hby, hzs, -, hbb⟩ := ownClipT
    have hown := own_new (w := w) (t := 65) (n := n) (g := w.heap.size) (s := 2) (base := w.heap.size) xs rfl hlen (Nat.le_refl _) hn
    have HO := Lib.hid hown
    have HC := Lib.hid h1
    have HS := Lib.hid hsrc
    clear h1 hsrc hown h
    go_enter Tryz.func72, Tryz.ntmps72
    go_wp2_with (first
      | (at_make; refine wpList_make_at _ rfl _ _ 25 rfl 65 i z ht hi hz _ _ _ _ n rfl rfl rfl rfl (by rw [hby]; omega) hn ?_; intro cur hcur)
      | fail)
    have hcopy := run_copy_sized (P := Tryz.prog) (w.alloc (.cells cur 65)) 25 25 3 65 w.heap.size n n ad c cur 65 xs i ht hi (al_heap _ _ _) (by rw [hsize]; exact hlen) hcur (fun j v hv => later_add (bal (Below.refl _ _) _) hb hsp (HS.out j v hv)) HC.out
    rw [alloc_setRow] at hcopy
    rw [hcopy]
    go_wp2_with fail
    go_ret
    exact ⟨_, _, rfl, HO.out, bal (Below.refl _ _) _⟩
end Go.Proofs.YtdfkbbcoolgfiaaGreat

namespace Go.Proofs.YtdfkbbcoolgfiaaGreat
open Go.RowKit Go.BigFrame

theorem own_max {w : World} {base : Nat} {e : TypeId} {s n c : Nat} {A : Option Addr} {xs : List Value} (h : w.ownsRow base e s (.slice A n c) n xs) : c ≤ 9223372036854775807 := by
  rcases h.2 with ⟨hv, h0⟩ | ⟨g, cap, cur, hv, _, hg, hn, hm, _, _⟩
  · simp only [Value.slice.injEq] at hv; omega
  · simp only [Value.slice.injEq] at hv
    obtain ⟨_, _, rfl⟩ := hv
    simpa [maxLen] using hm
/-- A value reads as a path that does not lie in block g. -/
def PathX (w : World) (g : Nat) (v : Value) (l : List Sg) : Prop := ∃ A c, v = .slice A l.length c ∧ Sl w 5 A l.length (sgs l) ∧ (0 < l.length → ∀ a, A = some a → a.block ≠ g) ∧ l.length ≤ c ∧ c ≤ 9223372036854775807
theorem PathX.v {w : World} {g : Nat} {v : Value} {l : List Sg} (h : PathX w g v l) : PathV w v l := by
  obtain ⟨A, c, e, hs, _, hc⟩ := h
  exact ⟨A, c, e, hs, hc⟩
theorem PathX.below {w w' : World} {g : Nat} {v : Value} {l : List Sg} (h : PathX w g v l) (hb : Below w.heap.size w w') : PathX w' g v l := by
  obtain ⟨A, c, e, hs, hc⟩ := h
  exact ⟨A, c, e, hs.below hb, hc⟩
theorem PathX.set {w : World} {g : Nat} {v : Value} {l : List Sg} (h : PathX w g v l) (o : Nat) (u : Value) : PathX (w.setCell ⟨g, o, none⟩ u) g v l := by
  obtain ⟨A, c, e, hs, hg, hc⟩ := h
  refine ⟨A, c, e, ⟨hs.1, fun hn => ?_⟩, hg, hc⟩
  obtain ⟨b, off, rfl, hb, hcell⟩ := hs.2 hn
  refine ⟨b, off, rfl, by simpa [World.setCell] using hb, fun j u' hu => ?_⟩
  rw [World.cell?_setCell_other _ _ _ _ (by intro e; injection e with e1; exact hg hn _ rfl e1.symm)]
  exact hcell j u' hu
theorem PathV.x {w : World} {g : Nat} {v : Value} {l : List Sg} (h : PathV w v l) (hg : w.heap.size ≤ g) : PathX w g v l := by
  obtain ⟨A, c, e, hs, hc⟩ := h
  refine ⟨A, c, e, hs, fun hn a ha => ?_, hc⟩
  obtain ⟨b, off, rfl, hb, _⟩ := hs.2 hn
  injection ha with ha
  subst ha
  simp only
  omega
theorem own_x {w : World} {base g : Nat} {l : List Sg} {v : Value} (h : w.ownsRow base 63 5 v l.length (sgs l)) (hg : g < base) : PathX w g v l := by
  obtain ⟨A, c, rfl⟩ := own_form h
  refine ⟨A, c, rfl, own_sl h, fun hn a ha => ?_, own_cap h, own_max h⟩
  obtain ⟨g', rfl, hb, _⟩ := own_addr h hn
  injection ha with ha
  subst ha
  simp only
  omega
theorem own_pathV {w : World} {base : Nat} {l : List Sg} {v : Value} {t : TypeId} (h : w.ownsRow base t 5 v l.length (sgs l)) : PathV w v l := by
  obtain ⟨A, c, rfl⟩ := own_form h
  exact ⟨A, c, rfl, own_sl h, own_cap h, own_max h⟩
theorem own_intsV {w : World} {base : Nat} {l : List Int} {v : Value} {t : TypeId} (h : w.ownsRow base t 1 v l.length (ints l)) : IntsV w v l := by
  obtain ⟨A, c, rfl⟩ := own_form h
  exact ⟨A, c, rfl, own_sl h, own_cap h, own_max h⟩
theorem clcs_set (ps : List (Cl × Value)) (i : Nat) (hi : i < ps.length) (u : Value) : (clcs ps).set (i * 2) u = clcs (ps.set i (ps[i].1, u)) := by
  induction ps generalizing i with
  | nil => simp at hi
  | cons a l ih =>
    cases i with
    | zero => rfl
    | succ i =>
      have hi' : i < l.length := by simpa using hi
      have e : (i + 1) * 2 = i * 2 + 1 + 1 := by omega
      rw [e]
      show (a.2 :: (.int .i64 a.1.rule) :: clcs l).set (i * 2 + 1 + 1) u = _
      rw [List.set_cons_succ, List.set_cons_succ, ih i hi']
      rfl
theorem map_set_fst (ps : List (Cl × Value)) (i : Nat) (hi : i < ps.length) (u : Value) : (ps.set i (ps[i].1, u)).map Prod.fst = ps.map Prod.fst := by
  apply List.ext_getElem
  · simp
  · intro j h1 h2
    simp only [List.getElem_map, List.getElem_set]
    split
    · rename_i h; subst h; rfl
    · rfl
/-- Clips in memory of one's own. -/
def ClOwn (w : World) (B : Nat) (v : Value) (l : List Cl) : Prop := ∃ ps : List (Cl × Value), ps.map Prod.fst = l ∧ w.ownsRow B 65 2 v l.length (clcs ps) ∧ ∀ p ∈ ps, w.ownsRow B 63 5 p.2 p.1.p.length (sgs p.1.p)
theorem ClOwn.v {w : World} {B : Nat} {v : Value} {l : List Cl} (h : ClOwn w B v l) : ClV w v l := by
  obtain ⟨ps, hm, ho, hp⟩ := h
  obtain ⟨A, c, rfl⟩ := own_form ho
  exact ⟨A, c, rfl, own_cap ho, own_max ho, ps, hm, own_sl ho, fun p hpp => own_pathV (hp p hpp)⟩
theorem ClOwn.below {w w' : World} {B : Nat} {v : Value} {l : List Cl} (h : ClOwn w B v l) (hb : Below w.heap.size w w') : ClOwn w' B v l := by
  obtain ⟨ps, hm, ho, hp⟩ := h
  exact ⟨ps, hm, own_below ho hb, fun p hpp => own_below (hp p hpp) hb⟩
theorem ClOwn.mono {w : World} {B B' : Nat} {v : Value} {l : List Cl} (h : ClOwn w B v l) (hb : B' ≤ B) : ClOwn w B' v l := by
  obtain ⟨ps, hm, ho, hp⟩ := h
  exact ⟨ps, hm, own_mono ho hb, fun p hpp => own_mono (hp p hpp) hb⟩
theorem ClOwn.set {w : World} {B g : Nat} {v : Value} {l : List Cl} (h : ClOwn w B v l) (hg : g < B) (o : Nat) (u : Value) : ClOwn (w.setCell ⟨g, o, none⟩ u) B v l := by
  obtain ⟨ps, hm, ho, hp⟩ := h
  exact ⟨ps, hm, own_setCell ho hg o u, fun p hpp => own_setCell (hp p hpp) hg o u⟩
theorem oneCell_clc (p : Cl × Value) (h : p.2.oneCell' = true) : ∀ u ∈ clc p, u.oneCell' = true := by
  intro u hu; simp only [clc, List.mem_cons, List.not_mem_nil, or_false] at hu; rcases hu with rfl | rfl; exact h; rfl
theorem oneCell_clcs (ps : List (Cl × Value)) (h : ∀ p ∈ ps, p.2.oneCell' = true) : ∀ u ∈ clcs ps, u.oneCell' = true := by
  intro u hu
  rw [clcs, List.mem_flatMap] at hu
  obtain ⟨p, hp, hu⟩ := hu
  exact oneCell_clc p (h p hp) u hu
theorem PathV.one {w : World} {v : Value} {l : List Sg} (h : PathV w v l) : v.oneCell' = true := by obtain ⟨_, _, rfl, _⟩ := h; rfl
set_option maxRecDepth 100000 in
set_option maxHeartbeats 4000000 in
theorem clips_any (A : Option Addr) (n c : Nat) (l : List Cl) (w : World) (hl : n = l.length) (hn : n ≤ 1000) (hpl : ∀ c ∈ l, c.p.length ≤ 1000) (h : ClSl w A l) :
    Calls Tryz.prog 32 #[.slice A n c] w fun e w' => ∃ A' c', e = .returned (.slice A' n c') ∧ ClOwn w' w.heap.size (.slice A' n c') l ∧ Below w.heap.size w w' := by
  obtain ⟨ps0, hps0, hs0, hp0⟩ := h
  rw [← hl] at hs0
  have HPL := Lib.hid hpl
  have HL := Lib.hid hl
  clear hpl hl
  go_enter Tryz.func32, Tryz.ntmps32
  go_wp2_with fail
  refine (ownClip_any A n c (clcs ps0) _ hs0 (oneCell_clcs ps0 fun p hp => (hp0 p hp).one) (by omega)).mono ?_; rintro e w1 ⟨A1, c1, rfl, ho1, hb1⟩
  have HX : ∃ g, w.heap.size ≤ g ∧ (0 < n → A1 = some ⟨g, 0, none⟩ ∧ g < w1.heap.size) := by
    rcases Nat.eq_zero_or_pos n with h0 | h0
    · exact ⟨w.heap.size, Nat.le_refl _, fun h => by omega⟩
    · obtain ⟨g, e, h1, h2⟩ := own_addr ho1 h0
      exact ⟨g, h1, fun _ => ⟨e, h2⟩⟩
  obtain ⟨g, hg, hgA⟩ := HX
  have hX1 : ∀ p ∈ ps0, PathX w1 g p.2 p.1.p := fun p hp => ((hp0 p hp).x hg).below hb1
  clear hp0 hs0
  go_wp2_with fail
  go_loopw [9] (fun s9 wr => ∃ (i : Nat) (ps : List (Cl × Value)), i ≤ n ∧ s9 = .int .i64 (i : Int) ∧ ps.map Prod.fst = l ∧ wr.ownsRow w.heap.size 65 2 (.slice A1 n c1) n (clcs ps) ∧ Hid (∀ p ∈ ps, PathX wr g p.2 p.1.p) ∧ Hid (∀ j (hj : j < ps.length), j < i → wr.ownsRow w.heap.size 63 5 ps[j].2 ps[j].1.p.length (sgs ps[j].1.p)) ∧ Below w.heap.size w wr ∧ w1.heap.size ≤ wr.heap.size) (fun s9 _ => n - (intOf s9).toNat)
  case atStart => exact ⟨0, ps0, Nat.zero_le _, rfl, hps0, ho1, Lib.hid hX1, Lib.hid (fun j _ h => absurd h (by omega)), hb1, Nat.le_refl _⟩
  case round =>
    obtain ⟨i, ps, hi, rfl, hps, hor, hx, hxo, hbr, hsz⟩ := hrel
    have hpl : ps.length = n := by rw [HL.out, ← hps, List.length_map]
    by_cases hlt : i < n
    · obtain ⟨rfl, hgw⟩ := hgA (by omega)
      have hi' : i < ps.length := by omega
      obtain ⟨Ae, ce, ev, hse, hgx, hce, hcm⟩ := hx.out ps[i] (List.getElem_mem hi')
      obtain ⟨b, off, e, hbl, c0, c1'⟩ := (own_sl hor).cl i hlt hi'
      obtain ⟨rfl, rfl⟩ : g = b ∧ 0 = off := by simpa using e
      rw [ev, Nat.zero_add] at c0
      have hlen : ps[i].1.p.length ≤ 1000 := by
        refine HPL.out ps[i].1 ?_
        rw [← hps]
        exact List.mem_map_of_mem (List.getElem_mem hi')
      obtain ⟨ne, hne⟩ : ∃ n, n = ps[i].1.p.length := ⟨_, rfl⟩
      obtain ⟨le, hle⟩ : ∃ q, q = ps[i].1.p := ⟨_, rfl⟩
      rw [← hne] at c0 hse hlen
      rw [← hle] at hse hne
      have HLE := Lib.hid hle
      have HO := Lib.hid hor
      have HNE := Lib.hid hne
      clear e hle hor c1' hgx hne
      go_wp2_with fail
      refine (ownSeg_any Ae ne ce (sgs le) _ hse (oneCell_sgs _) (by omega)).mono ?_; rintro e w3 ⟨A3, c3, rfl, ho3, hb3⟩
      have hor3 := own_below HO.out hb3
      have f0 := hor3.frozenAt (i * 2)
      have hg3 : g < wr.heap.size := by omega
      have d0 := (later_cell hb3 hg3 (o := i * 2)).trans c0
      go_wp2_with fail
      go_roundw
      case rel =>
        refine ⟨i + 1, ps.set i (ps[i].1, .slice A3 ne c3), by omega, by go_num, by rw [map_set_fst ps i hi']; exact hps, ?_, ?_, ?_, bset (btr hbr hb3) hg _, ?_⟩
        · rw [← clcs_set ps i hi']; exact (hor3.stored (i * 2) _).1
        · refine Lib.hid fun p hp => ?_
          rcases List.mem_or_eq_of_mem_set hp with hp | rfl
          · exact ((hx.out p hp).below hb3).set _ _
          · simp only
            rw [← HLE.out]
            rw [HNE.out] at ho3 ⊢
            exact (own_x ho3 hg3).set _ _
        · refine Lib.hid fun j hj hji => ?_
          have hnb : ∀ {v : Value} {n : Nat} {xs : List Value} {B : Nat}, w3.ownsRow B 63 5 v n xs → v.ownBlock ≠ some g := fun {v n xs B} ho => by
            rcases own_ne ho hor3 (by decide) with h | h
            · rw [h]; simp
            · simpa [Value.ownBlock] using h
          have hjl : j < ps.length := by simpa using hj
          by_cases hij : i = j
          · subst hij
            have e1 : (ps.set i (ps[i].1, .slice A3 ne c3))[i] = (ps[i].1, .slice A3 ne c3) := by simp
            rw [e1]
            simp only
            rw [← HLE.out, ← HNE.out]
            exact ownsRow_setCell_other (own_mono ho3 (by omega)) (hnb ho3) _
          · have e1 : (ps.set i (ps[i].1, .slice A3 ne c3))[j] = ps[j] := by rw [List.getElem_set_ne hij]
            rw [e1]
            have h4 := own_below (hxo.out j hjl (by omega)) hb3
            exact ownsRow_setCell_other h4 (hnb h4) _
        · have := hb3.size; simp [World.setCell]; omega
      case measure => simp [intOf]; omega
    · go_wp2_with fail
      go_ret
      exact ⟨A1, c1, rfl, ⟨ps, hps, by rw [← HL.out]; exact hor, fun p hp => by
        obtain ⟨j, hj, rfl⟩ := List.getElem_of_mem hp
        exact hxo.out j hj (by omega)⟩, hbr⟩
end Go.Proofs.YtdfkbbcoolgfiaaGreat

namespace Go.Proofs.YtdfkbbcoolgfiaaGreat
open Go.RowKit Go.BigFrame

theorem stateT : RecT Tryz.prog 32 24 := ⟨_, Tryz.underlying32, rfl, by kernel_rfl⟩
theorem matT : RecT Tryz.prog 23 6 := ⟨_, Tryz.underlying23, rfl, by kernel_rfl⟩
def obZero : Ob := ⟨0, false, 0, 0, 0, { data := #[] }⟩
/-- The zero state. -/
def zeroS : St := ⟨zeroM, [], [], 0, 0, 0, 0, 0, 0, 0, [], 0, obZero, 0⟩
/-- A state whose lists are in memory of one's own. -/
structure StOwn (w : World) (B : Nat) (x : St) (P C D : Value) : Prop where
  p : w.ownsRow B 63 5 P x.p.length (sgs x.p)
  c : ClOwn w B C x.cl
  d : w.ownsRow B 3 1 D x.da.length (ints x.da)
theorem StOwn.at {w : World} {B : Nat} {x : St} {P C D : Value} (h : StOwn w B x P C D) : StAt w x P C D := ⟨own_pathV h.p, h.c.v, own_intsV h.d⟩
theorem StOwn.below {w w' : World} {B : Nat} {x : St} {P C D : Value} (h : StOwn w B x P C D) (hb : Below w.heap.size w w') : StOwn w' B x P C D := ⟨own_below h.p hb, h.c.below hb, own_below h.d hb⟩
theorem StOwn.mono {w : World} {B B' : Nat} {x : St} {P C D : Value} (h : StOwn w B x P C D) (hb : B' ≤ B) : StOwn w B' x P C D := ⟨own_mono h.p hb, h.c.mono hb, own_mono h.d hb⟩
theorem ClOwn.setCells {B g : Nat} {v : Value} {l : List Cl} (hg : g < B) : ∀ (vs : List Value) (o : Nat) (w : World), ClOwn w B v l → ClOwn (w.setCells g o vs) B v l
  | [], _, _, h => h
  | u :: r, o, _, h => ClOwn.setCells hg r (o + 1) _ (h.set hg o u)
theorem StOwn.setCells {w : World} {B g : Nat} {x : St} {P C D : Value} (h : StOwn w B x P C D) (hg : g < B) (o : Nat) (vs : List Value) : StOwn (w.setCells g o vs) B x P C D :=
  ⟨own_setCells hg _ _ _ h.p, ClOwn.setCells hg _ _ _ h.c, own_setCells hg _ _ _ h.d⟩
theorem StOwn.setCell {w : World} {B g : Nat} {x : St} {P C D : Value} (h : StOwn w B x P C D) (hg : g < B) (o : Nat) (u : Value) : StOwn (w.setCell ⟨g, o, none⟩ u) B x P C D :=
  ⟨own_setCell h.p hg _ _, h.c.set hg _ _, own_setCell h.d hg _ _⟩
/-- Not too long. -/
def stFew (x : St) : Prop := x.p.length ≤ 1000 ∧ x.cl.length ≤ 1000 ∧ (∀ c ∈ x.cl, c.p.length ≤ 1000) ∧ x.da.length ≤ 1000
theorem mayS_few {x : St} (h : mayS x = true) : stFew x := by
  simp only [mayS, Bool.and_eq_true, clsB, dashB, decide_eq_true_eq, List.all_eq_true] at h
  obtain ⟨⟨⟨⟨⟨_, h1⟩, h2, h3⟩, ⟨h4, _⟩, _⟩, _⟩, _⟩ := h
  refine ⟨?_, by omega, fun c hc => ?_, by omega⟩
  · simp only [mayB, Bool.and_eq_true, decide_eq_true_eq] at h1; omega
  · have := h3 c hc
    simp only [clB, mayB, Bool.and_eq_true, decide_eq_true_eq] at this
    omega
set_option maxRecDepth 100000 in
set_option maxHeartbeats 4000000 in
theorem copied_any (x : St) (P C D : Value) (w : World) (h : StAt w x P C D) (hf : stFew x) : Calls Tryz.prog 25 #[.agg (stC x P C D).toArray] w
    fun e w' => ∃ P' C' D', e = .returned (.agg (stC x P' C' D').toArray) ∧ StOwn w' w.heap.size x P' C' D' ∧ Below w.heap.size w w' := by
  obtain ⟨w0, hw0⟩ : ∃ w0 : World, w0 = (w.alloc (.cells (stC x P C D).toArray 32)).alloc (.cells (stC zeroS (.slice none 0 0) (.slice none 0 0) (.slice none 0 0)).toArray 32) := ⟨_, rfl⟩
  have hB0 : Below w.heap.size w w0 := by rw [hw0]; exact bal (bal (Below.refl _ _) _) _
  have hA : BC w0 w.heap.size (stC x P C D) := by rw [hw0]; exact (BC.new (stC x P C D) 32 rfl).below (bal (Below.refl _ _) _)
  have hR : BC w0 (w.heap.size + 1) (stC zeroS (.slice none 0 0) (.slice none 0 0) (.slice none 0 0)) := by rw [hw0]; exact BC.new (w := w.alloc (.cells (stC x P C D).toArray 32)) _ 32 (by simp)
  have h0 := h.below hB0
  clear h
  obtain ⟨⟨Ap, cp, rfl, hp, hpc, hpm⟩, hcv, ⟨Ad, cd, rfl, hd, hdc, hdm⟩⟩ := h0
  obtain ⟨Ac, cc, rfl, hc, hcc, hcm⟩ := hcv.sl
  clear hcv
  obtain ⟨hf1, hf2, hf3, hf4⟩ := hf
  obtain ⟨np, hnp⟩ : ∃ n, n = x.p.length := ⟨_, rfl⟩
  obtain ⟨nc, hnc⟩ : ∃ n, n = x.cl.length := ⟨_, rfl⟩
  obtain ⟨nd, hnd⟩ : ∃ n, n = x.da.length := ⟨_, rfl⟩
  rw [← hnp] at hA hw0 hp hpc hf1 ⊢
  rw [← hnc] at hA hw0 hcc hf2 ⊢
  rw [← hnd] at hA hw0 hd hdc hf4 ⊢
  have HNP := Lib.hid hnp
  have HNC := Lib.hid hnc
  have HND := Lib.hid hnd
  have HA := Lib.hid hA
  have HR := Lib.hid hR
  have HP := Lib.hid hp
  have HC := Lib.hid hc
  have HD := Lib.hid hd
  have HF3 := Lib.hid hf3
  unfold stC zeroS zeroM obZero at hw0
  unfold stC
  simp only at hw0
  clear hnp hnc hnd hA hp hc hd hR hf3
  go_enter Tryz.func25, Tryz.ntmps25
  go_wp2_with fail
  rw [← hw0]
  clear hw0
  have a6 := fun q : Grown w0 => q.cell (HA.out.c 6 _ rfl) HA.out.lt
  have a7 := fun q : Grown w0 => q.cell (HA.out.c 7 _ rfl) HA.out.lt
  have a15 := fun q : Grown w0 => q.cell (HA.out.c 15 _ rfl) HA.out.lt
  refine wp_region_ord (fun W => ∃ y : Grown w0, W = y.world) [10, 11, 12, 13, 14] 15 (by kernel_rfl) (by kernel_rfl) ⟨⟨_, bdrew (Below.refl _ _)⟩, rfl⟩ ?_
  intro hS
  refine ord_take (v := ?_) 0 rfl rfl (by kernel_rfl) (by kernel_rfl) (fun _ _ _ h => h) (Or.inl ⟨by rfl, ?_⟩) hS ?_
  rotate_left
  · rintro W ⟨y, rfl⟩
    go_simp
    (try with_reducible rfl)
  simp only [Act.put, List.setIfInBounds_toArray, List.set_cons_zero, List.set_cons_succ]
  refine ord_take (v := ?_) 1 rfl rfl (by kernel_rfl) (by kernel_rfl) (fun _ _ _ h => h) (Or.inl ⟨by rfl, ?_⟩) hS ?_
  rotate_left
  · rintro W ⟨y, rfl⟩
    go_simp
    (try with_reducible rfl)
  simp only [Act.put, List.setIfInBounds_toArray, List.set_cons_zero, List.set_cons_succ]
  refine ord_take (v := ?_) 3 rfl rfl (by kernel_rfl) (by kernel_rfl) (fun _ _ _ h => h) (Or.inl ⟨by rfl, ?_⟩) hS ?_
  rotate_left
  · rintro W ⟨y, rfl⟩
    go_simp
    (try with_reducible rfl)
  simp only [Act.put, List.setIfInBounds_toArray, List.set_cons_zero, List.set_cons_succ]
  refine ord_take (v := ?_) 4 rfl rfl (by kernel_rfl) (by kernel_rfl) (fun _ _ _ h => h) (Or.inl ⟨by rfl, ?_⟩) hS ?_
  rotate_left
  · rintro W ⟨y, rfl⟩
    go_simp
    (try with_reducible rfl)
  simp only [Act.put, List.setIfInBounds_toArray, List.set_cons_zero, List.set_cons_succ]
  refine ord_take (v := ?_) 6 rfl rfl (by kernel_rfl) (by kernel_rfl) (fun _ _ _ h => h) (Or.inl ⟨by rfl, ?_⟩) hS ?_
  rotate_left
  · rintro W ⟨y, rfl⟩
    go_simp
    (try with_reducible rfl)
  simp only [Act.put, List.setIfInBounds_toArray, List.set_cons_zero, List.set_cons_succ]
  refine ord_take (v := ?_) 7 rfl rfl (by kernel_rfl) (by kernel_rfl) (fun _ _ _ h => h) (Or.inl ⟨by rfl, ?_⟩) hS ?_
  rotate_left
  · rintro W ⟨y, rfl⟩
    go_simp
    (try with_reducible rfl)
  simp only [Act.put, List.setIfInBounds_toArray, List.set_cons_zero, List.set_cons_succ]
  clear a6 a7 a15
  have HG := Lib.hid (fun (W : World) (hW : Below w0.heap.size w0 W) => (⟨⟨W, hW⟩, rfl⟩ : ∃ y : Grown w0, W = y.world))
  clear hS
  refine ord_one 2 rfl (by kernel_rfl) rfl ?_
  intro K hK
  go_simp
  refine (ownSeg_any Ap np cp (sgs x.p) _ (HP.out.below (bdrew (Below.refl _ _))) (oneCell_sgs _) (by omega)).mono ?_; rintro e w3 ⟨A3, c3, rfl, ho3, hb3⟩
  have B3 := btr (bdrew (Below.refl w0.heap.size w0)) hb3
  refine hK.out _ _ (HG.out _ B3) ?_
  clear hK K
  try simp only
  have hS := HG.out _ B3
  refine ord_take (v := ?_) 9 rfl rfl (by kernel_rfl) (by kernel_rfl) (fun _ _ _ h => h) (Or.inl ⟨by rfl, ?_⟩) hS ?_
  rotate_left
  · rintro W ⟨y, rfl⟩
    go_simp
    (try with_reducible rfl)
  simp only [Act.put, List.setIfInBounds_toArray, List.set_cons_zero, List.set_cons_succ]
  clear hS
  refine ord_one 5 rfl (by kernel_rfl) rfl ?_
  intro K hK
  go_simp
  refine (clips_any Ac nc cc x.cl _ HNC.out (by omega) HF3.out (HC.out.below B3)).mono ?_; rintro e w4 ⟨A4, c4, rfl, ho4, hb4⟩
  have B4 := btr B3 hb4
  refine hK.out _ _ (HG.out _ B4) ?_
  clear hK K
  try simp only
  refine ord_one 8 rfl (by kernel_rfl) rfl ?_
  intro K hK
  go_simp
  refine (ownInt_any Ad nd cd (ints x.da) _ (HD.out.below B4) (oneCell_ints _) (by omega)).mono ?_; rintro e w5 ⟨A5, c5, rfl, ho5, hb5⟩
  have B5 := btr B4 hb5
  refine hK.out _ _ (HG.out _ B5) ?_
  clear hK K HG
  try simp only
  have A5' := HA.out.below B5
  have n0 := A5'.nf 6
  have n1 := A5'.nf 7
  have n2 := A5'.nf 15
  have k0 := A5'.c 6 _ rfl
  have k1 := A5'.c 7 _ rfl
  have k2 := A5'.c 15 _ rfl
  refine ord_cut (by kernel_rfl) ?_
  refine any_one 10 rfl (by kernel_rfl) ?_
  intro K hK
  go_simp
  refine hK.out _ _ ?_
  clear hK K
  try simp only
  refine any_one 11 rfl (by kernel_rfl) ?_
  intro K hK
  go_simp
  refine hK.out _ _ ?_
  clear hK K
  try simp only
  refine any_one 12 rfl (by kernel_rfl) ?_
  intro K hK
  go_simp
  refine hK.out _ _ ?_
  clear hK K
  try simp only
  refine any_one 13 rfl (by kernel_rfl) ?_
  intro K hK
  go_simp
  refine hK.out _ _ ?_
  clear hK K
  try simp only
  refine any_one 14 rfl (by kernel_rfl) ?_
  intro K hK
  go_simp
  refine hK.out _ _ ?_
  clear hK K
  try simp only
  refine any_done (by kernel_rfl) ?_
  refine NoPanic.normal ?_
  have hA6 := ((A5'.set 6 (.slice A3 np c3) (by show 6 < 24; omega)).set 7 (.slice A4 nc c4) (by show 7 < 24; omega)).set 15 (.slice A5 nd c5) (by show 15 < 24; omega)
  have hgl : w.heap.size < w0.heap.size := HA.out.lt
  have hR0 : w.heap.size + 1 < w0.heap.size := HR.out.lt
  have hP5 := own_below (own_below ho3 hb4) hb5
  have hC5 := ho4.below hb5
  have hg3 : w.heap.size < w0.drew.heap.size := hgl
  have hg4 : w.heap.size < w3.heap.size := Nat.lt_of_lt_of_le hgl B3.size
  have hg5 : w.heap.size < w4.heap.size := Nat.lt_of_lt_of_le hgl B4.size
  have hOwn : StOwn (((w5.setCell ⟨w.heap.size, 6, none⟩ (.slice A3 np c3)).setCell ⟨w.heap.size, 7, none⟩ (.slice A4 nc c4)).setCell ⟨w.heap.size, 15, none⟩ (.slice A5 nd c5)) w0.heap.size x (.slice A3 np c3) (.slice A4 nc c4) (.slice A5 nd c5) := by
    refine ⟨?_, ?_, ?_⟩
    · rw [HNP.out] at hP5 ⊢
      exact own_mono (own_setCell (own_setCell (own_setCell hP5 hg3 _ _) hg3 _ _) hg3 _ _) (Nat.le_refl _)
    · exact (((hC5.set hg4 _ _).set hg4 _ _).set hg4 _ _).mono B3.size
    · rw [HND.out] at ho5 ⊢
      exact own_mono (own_setCell (own_setCell (own_setCell ho5 hg5 _ _) hg5 _ _) hg5 _ _) B4.size
  have B6 : Below w.heap.size w (((w5.setCell ⟨w.heap.size, 6, none⟩ (.slice A3 np c3)).setCell ⟨w.heap.size, 7, none⟩ (.slice A4 nc c4)).setCell ⟨w.heap.size, 15, none⟩ (.slice A5 nd c5)) :=
    bset (bset (bset (btr hB0 B5) (p := ⟨w.heap.size, 6, none⟩) (Nat.le_refl _) _) (p := ⟨w.heap.size, 7, none⟩) (Nat.le_refl _) _) (p := ⟨w.heap.size, 15, none⟩) (Nat.le_refl _) _
  have hR6 : BC (((w5.setCell ⟨w.heap.size, 6, none⟩ (.slice A3 np c3)).setCell ⟨w.heap.size, 7, none⟩ (.slice A4 nc c4)).setCell ⟨w.heap.size, 15, none⟩ (.slice A5 nd c5)) (w.heap.size + 1) (stC zeroS (.slice none 0 0) (.slice none 0 0) (.slice none 0 0)) :=
    (((HR.out.below B5).apart1 (by omega) _ _).apart1 (by omega) _ _).apart1 (by omega) _ _
  obtain ⟨w6, hw6⟩ : ∃ w6, w6 = (((w5.setCell ⟨w.heap.size, 6, none⟩ (.slice A3 np c3)).setCell ⟨w.heap.size, 7, none⟩ (.slice A4 nc c4)).setCell ⟨w.heap.size, 15, none⟩ (.slice A5 nd c5)) := ⟨_, rfl⟩
  rw [← hw6] at hA6 hOwn B6 hR6 ⊢
  clear hw6 hP5 hC5 ho3 ho4 ho5 A5' n0 n1 n2 k0 k1 k2 hb3 hb4 hb5 B3 B4 B5 hB0
  have hA6' : BC w6 w.heap.size (stC x (.slice A3 np c3) (.slice A4 nc c4) (.slice A5 nd c5)) := hA6
  have hF := hR6.putAll (stC x (.slice A3 np c3) (.slice A4 nc c4) (.slice A5 nd c5)) rfl
  have hFB := below_setCells (Nat.le_succ w.heap.size) (stC x (.slice A3 np c3) (.slice A4 nc c4) (.slice A5 nd c5)) 0 _ B6
  have hone : ∀ v ∈ stC x (.slice A3 np c3) (.slice A4 nc c4) (.slice A5 nd c5), v.oneCell' = true := stC_one rfl rfl rfl
  go_wp2_with (first
    | (refine wpList_load_rec rfl _ _ rfl w.heap.size rfl _ 24 stateT hA6' rfl ?_)
    | (refine wpList_store_rec rfl _ _ _ rfl (w.heap.size + 1) (stC x (.slice A3 np c3) (.slice A4 nc c4) (.slice A5 nd c5)) _ rfl rfl 24 stateT hR6 rfl rfl hone ?_)
    | fail)
  refine bodyPost_ret (result_rec1 rfl rfl stateT hF rfl) rfl ?_
  exact ⟨_, _, _, rfl, (hOwn.setCells hR0 _ _).mono (Nat.le_of_lt hgl), hFB⟩
end Go.Proofs.YtdfkbbcoolgfiaaGreat

namespace Go.Proofs.YtdfkbbcoolgfiaaGreat
open Go.RowKit Go.BigFrame

def nilV : Value := .slice none 0 0
theorem zero_at (w : World) : StAt w zeroS (.slice none 0 0) (.slice none 0 0) (.slice none 0 0) := ⟨PathV.nil, ClV.nil, IntsV.nil⟩
theorem zero_own (w : World) (B : Nat) : StOwn w B zeroS (.slice none 0 0) (.slice none 0 0) (.slice none 0 0) := ⟨own_nil, ⟨[], rfl, own_nil, by simp⟩, own_nil⟩
theorem zero_one : ∀ v ∈ stC zeroS (.slice none 0 0) (.slice none 0 0) (.slice none 0 0), v.oneCell' = true := stC_one rfl rfl rfl
theorem zero_lit : (stC zeroS (.slice none 0 0) (.slice none 0 0) (.slice none 0 0)).toArray = #[.int .i64 0, .int .i64 0, .int .i64 0, .int .i64 0, .int .i64 0, .int .i64 0, .slice none 0 0, .slice none 0 0, .int .u8 0, .int .u8 0, .int .u8 0, .int .u8 0, .int .i64 0, .int .i64 0, .int .i64 0, .slice none 0 0,
  .int .i64 0, .int .i64 0, .bool false, .int .i64 0, .int .i64 0, .int .i64 0, .string { data := #[] }, .int .i64 0] := rfl
set_option maxRecDepth 100000 in
set_option maxHeartbeats 4000000 in
theorem with_no (x : St) (P C D : Value) (A : Option Addr) (n c : Nat) (e : Int) (w : World) (h : StAt w x P C D) (he : e ≠ 0) : Calls Tryz.prog 109 #[.agg (stC x P C D).toArray, .slice A n c, .int .i64 e] w
    fun r w' => r = .returned (.tuple #[.agg (stC zeroS (.slice none 0 0) (.slice none 0 0) (.slice none 0 0)).toArray, .int .i64 e]) ∧ Below w.heap.size w w' := by
  obtain ⟨w0, hw0⟩ : ∃ w0 : World, w0 = (w.alloc (.cells (stC x P C D).toArray 32)).alloc (.cells (stC zeroS (.slice none 0 0) (.slice none 0 0) (.slice none 0 0)).toArray 32) := ⟨_, rfl⟩
  have hB0 : Below w.heap.size w w0 := by rw [hw0]; exact bal (bal (Below.refl _ _) _) _
  have hR : BC w0 (w.heap.size + 1) (stC zeroS (.slice none 0 0) (.slice none 0 0) (.slice none 0 0)) := by rw [hw0]; exact BC.new (w := w.alloc (.cells (stC x P C D).toArray 32)) _ 32 (by simp)
  obtain ⟨⟨Ap, cp, rfl, -⟩, ⟨Ac, cc, rfl, -⟩, ⟨Ad, cd, rfl, -⟩⟩ := h
  obtain ⟨np, hnp⟩ : ∃ n, n = x.p.length := ⟨_, rfl⟩
  obtain ⟨nc, hnc⟩ : ∃ n, n = x.cl.length := ⟨_, rfl⟩
  obtain ⟨nd, hnd⟩ : ∃ n, n = x.da.length := ⟨_, rfl⟩
  rw [← hnp, ← hnc, ← hnd] at hw0 ⊢
  clear hnp hnc hnd
  have HE := Lib.hid he
  have e0 : (e == 0) = false := by simp [he]
  have e1 : (e != 0) = true := by simp [he]
  have hF := hR.putAll (stC zeroS (.slice none 0 0) (.slice none 0 0) (.slice none 0 0)) rfl
  have hFB := below_setCells (Nat.le_succ w.heap.size) (stC zeroS (.slice none 0 0) (.slice none 0 0) (.slice none 0 0)) 0 _ hB0
  have hw0' := hw0
  unfold stC zeroS zeroM obZero at hw0'
  simp only at hw0'
  unfold stC
  go_enter Tryz.func109, Tryz.ntmps109
  go_upto_region 1 with (fail)
  rw [← hw0']
  clear hw0' hw0
  go_wp2_with (first
    | (refine wpList_store_rec rfl _ _ _ rfl (w.heap.size + 1) (stC zeroS (.slice none 0 0) (.slice none 0 0) (.slice none 0 0)) _ rfl rfl 24 stateT hR rfl rfl zero_one ?_)
    | fail)
  refine bodyPost_ret (result_rec rfl rfl rfl stateT hF rfl) rfl ?_
  exact ⟨rfl, hFB⟩
theorem stC_path (x : St) (P C D P' : Value) (l : List Sg) : (stC x P C D).set 6 P' = stC { x with p := l } P' C D := rfl
set_option maxRecDepth 100000 in
set_option maxHeartbeats 4000000 in
theorem with_ok (x : St) (P C D : Value) (A : Option Addr) (n c : Nat) (l : List Sg) (w : World) (h : StAt w x P C D) (hf : stFew x) (hl : Sl w 5 A n (sgs l)) (hn : n ≤ 1000) : Calls Tryz.prog 109 #[.agg (stC x P C D).toArray, .slice A n c, .int .i64 0] w
    fun r w' => ∃ P' C' D', r = .returned (.tuple #[.agg (stC { x with p := l } P' C' D').toArray, .int .i64 0]) ∧ StOwn w' w.heap.size { x with p := l } P' C' D' ∧ Below w.heap.size w w' := by
  obtain ⟨w0, hw0⟩ : ∃ w0 : World, w0 = (w.alloc (.cells (stC x P C D).toArray 32)).alloc (.cells (stC zeroS (.slice none 0 0) (.slice none 0 0) (.slice none 0 0)).toArray 32) := ⟨_, rfl⟩
  have hB0 : Below w.heap.size w w0 := by rw [hw0]; exact bal (bal (Below.refl _ _) _) _
  have hA : BC w0 w.heap.size (stC x P C D) := by rw [hw0]; exact (BC.new (stC x P C D) 32 rfl).below (bal (Below.refl _ _) _)
  have hR : BC w0 (w.heap.size + 1) (stC zeroS (.slice none 0 0) (.slice none 0 0) (.slice none 0 0)) := by rw [hw0]; exact BC.new (w := w.alloc (.cells (stC x P C D).toArray 32)) _ 32 (by simp)
  have hgA := hA.lt
  have hgR := hR.lt
  have h0 := h.below hB0
  have hone := h0.one
  have H0 := Lib.hid fun W (hb : Below w0.heap.size w0 W) => copied_any x P C D W (h0.below hb) hf
  have hl0 := hl.below hB0
  obtain ⟨⟨Ap, cp, rfl, -⟩, ⟨Ac, cc, rfl, -⟩, ⟨Ad, cd, rfl, -⟩⟩ := h
  obtain ⟨np, hnp⟩ : ∃ n, n = x.p.length := ⟨_, rfl⟩
  obtain ⟨nc, hnc⟩ : ∃ n, n = x.cl.length := ⟨_, rfl⟩
  obtain ⟨nd, hnd⟩ : ∃ n, n = x.da.length := ⟨_, rfl⟩
  rw [← hnp, ← hnc, ← hnd] at hw0 hA hone H0 ⊢
  have HLL : Hid (l.length = n) := Lib.hid (by have := hl.1; rw [sgs_len] at this; omega)
  clear hnp hnc hnd h0
  rw [zero_lit] at hw0
  go_enter Tryz.func109, Tryz.ntmps109
  go_upto_region 1 with (fail)
  rw [← hw0]
  clear hw0
  go_wp2_with (first
    | (refine wpList_load_rec rfl _ _ rfl w.heap.size rfl _ 24 stateT hA rfl ?_)
    | fail)
  refine (H0.out _ (Below.refl _ _)).mono ?_; rintro e w1 ⟨P1, C1, D1, rfl, ho1, hb1⟩
  have hA1 := hA.below hb1
  have hR1 := hR.below hb1
  have hl1 := hl0.below hb1
  have B1 := btr hB0 hb1
  have hA2 := hA1.putAll (stC x P1 C1 D1) rfl
  have hR2 := hR1.apart (show w.heap.size + 1 ≠ w.heap.size by omega) 0 (stC x P1 C1 D1)
  have B2 := below_setCells (Nat.le_refl w.heap.size) (stC x P1 C1 D1) 0 _ B1
  have ho2 := ho1.setCells hgA 0 (stC x P1 C1 D1)
  have hl2 := hl.below B2
  have hone2 : ∀ v ∈ stC x P1 C1 D1, v.oneCell' = true := ho1.at.one
  obtain ⟨w2, hw2⟩ : ∃ w2, w2 = w1.setCells w.heap.size 0 (stC x P1 C1 D1) := ⟨_, rfl⟩
  rw [← hw2] at hA2 hR2 B2 ho2 hl2
  have hb1' := hb1
  have HW2 := Lib.hid hw2
  clear hw2 hR1 hl1 B1 ho1 hb1 hl0 hR
  go_wp2_with (first
    | (refine wpList_store_rec rfl _ _ _ rfl w.heap.size (stC x P1 C1 D1) _ rfl rfl 24 stateT hA1 rfl rfl hone2 ?_; rw [← HW2.out])
    | fail)
  refine (ownSeg_any A n c (sgs l) _ hl2 (oneCell_sgs _) (by omega)).mono ?_; rintro e w3 ⟨A3, c3, rfl, ho3, hb3⟩
  have hA3 := hA2.below hb3
  have f6 := hA3.nf 6
  have k6 := hA3.c 6 _ rfl
  have hR3 := hR2.below hb3
  have B3 := btr B2 hb3
  have hgs : w0.heap.size ≤ w2.heap.size := by rw [HW2.out, setCells_size]; have := hb1'.size; omega
  have hA4 := hA3.set 6 (.slice A3 n c3) (by show 6 < 24; omega)
  rw [stC_path x P1 C1 D1 _ l] at hA4
  have hR4 := hR3.apart1 (show w.heap.size + 1 ≠ w.heap.size by omega) 6 (.slice A3 n c3)
  have B4 := bset B3 (p := ⟨w.heap.size, 6, none⟩) (Nat.le_refl _) (.slice A3 n c3)
  have ho4 : StOwn (w3.setCell ⟨w.heap.size, 6, none⟩ (.slice A3 n c3)) w0.heap.size { x with p := l } (.slice A3 n c3) C1 D1 := by
    have h2 := (ho2.below hb3).setCell hgA 6 (.slice A3 n c3)
    refine ⟨?_, h2.c, h2.d⟩
    show World.ownsRow _ _ _ _ _ l.length _
    rw [HLL.out]
    exact own_mono (own_setCell ho3 (Nat.lt_of_lt_of_le hgA hgs) 6 _) hgs
  obtain ⟨w4, hw4⟩ : ∃ w4, w4 = w3.setCell ⟨w.heap.size, 6, none⟩ (.slice A3 n c3) := ⟨_, rfl⟩
  rw [← hw4] at hA4 hR4 B4 ho4
  have HW4 := Lib.hid hw4
  clear hw4 hR2 hR3 B2 B3 ho2 hl2 hone2 hone
  have hone4 : ∀ v ∈ stC { x with p := l } (.slice A3 n c3) C1 D1, v.oneCell' = true := ho4.at.one
  have hF := hR4.putAll (stC { x with p := l } (.slice A3 n c3) C1 D1) rfl
  have hFB := below_setCells (Nat.le_succ w.heap.size) (stC { x with p := l } (.slice A3 n c3) C1 D1) 0 _ B4
  go_wp2_with (first
    | (rw [← HW4.out]; refine wpList_load_rec rfl _ _ rfl w.heap.size rfl _ 24 stateT hA4 rfl ?_)
    | (refine wpList_store_rec rfl _ _ _ rfl (w.heap.size + 1) (stC { x with p := l } (.slice A3 n c3) C1 D1) _ rfl rfl 24 stateT hR4 rfl rfl hone4 ?_)
    | fail)
  refine bodyPost_ret (result_rec rfl rfl rfl stateT hF rfl) rfl ?_
  exact ⟨_, _, _, rfl, (ho4.setCells hgR _ _).mono (Nat.le_of_lt hgA), hFB⟩
end Go.Proofs.YtdfkbbcoolgfiaaGreat
