/- A list in new memory: make and copy, the whole of it, elements of any size. -/
import Derived.Test.YtaadajadeemndaaAdd2
import Derived.Test.YtaadajadeemndaaEdges
import Derived.Laws.CopyOwn
namespace Go.Proofs.Ytaadajadeemndaa
open Go.RowKit

theorem run_copy_sized {P : Program} (w : World) (dT sT ty elem : TypeId) (g n dCap : Nat) (a : Addr) (sCap : Nat) (cur : Array Value) (t : TypeId) (cs : List Value) (i : TypeInfo)
    (hu : P.underlying dT = some (.slice elem)) (hi : P.info? elem = some i) (hg : w.heap[g]? = some (.cells cur t (0, 0))) (hn : cs.length = n * i.size) (hsz : cur.size = n * i.size)
    (hsrc : ∀ j v, cs[j]? = some v → w.cell? (a.add j) = some v) (h1 : ∀ v ∈ cs, v.oneCell' = true) :
    (Builtin.copy_ #[dT, sT] ty #[.slice (some ⟨g, 0, none⟩) n dCap, .slice (some a) n sCap]).run P w = .ok (goInt n) (w.setRow g cs.toArray) := by
  have hl := run_loadCells_list (P := P) w a cs hsrc
  have hst := run_storeCells_at (P := P) g 0 t cs 0 cur w hg (by omega) h1
  have e1 : cur.toList.take (0 + 0) ++ cs ++ cur.toList.drop (0 + 0 + cs.length) = cs := by
    rw [List.drop_of_length_le (by rw [Array.length_toList]; omega)]
    simp
  rw [e1] at hst
  simp [Builtin.copy_, run_underlying hu, Builtin.lenOf, Builtin.firstCells, sizeOf, typeInfo, hi, ← hn, hl, hst]
theorem wpList_copy_whole {P : Program} {w : World} {ops : Array Oper} {rest : List Oper} {o : Oper} {a : Act} {Q : Exit → Act → World → Prop} (hgd : o.guard = none) (d s : Operand) (dT sT : TypeId)
    (ho : o.op = .call { callee := .builtin .copy, args := #[d, s], argTypes := #[dT, sT] }) (elem : TypeId) (i : TypeInfo) (hu : P.underlying dT = some (.slice elem)) (hi : P.info? elem = some i)
    (g n dCap : Nat) (ad : Addr) (sCap : Nat) (hd : a.eval d = .slice (some ⟨g, 0, none⟩) n dCap) (hs : a.eval s = .slice (some ad) n sCap)
    (cur : Array Value) (t : TypeId) (hg : w.heap[g]? = some (.cells cur t (0, 0))) (cs : List Value) (hn : cs.length = n * i.size) (hsz : cur.size = n * i.size)
    (hsrc : ∀ j v, cs[j]? = some v → w.cell? (ad.add j) = some v) (h1 : ∀ v ∈ cs, v.oneCell' = true)
    (h : wpList P ops Q rest (a.put o.dst (goInt n)) (w.setRow g cs.toArray)) : wpList P ops Q (o :: rest) a w := by
  refine wpList_plain hgd fun K hK => ?_
  have hrun := run_copy_sized (P := P) w dT sT o.type elem g n dCap ad sCap cur t cs i hu hi hg hn hsz hsrc h1
  unfold Oper.wp
  simp [execOp, ho, resolve, invoke, builtin, hd, hs, hrun, Result.andThen]
  exact hK _ _ h
theorem wpList_make_at {P : Program} (w : World) {ops : Array Oper} {rest : List Oper} {o : Oper} {a : Act} {Q : Exit → Act → World → Prop}
    (hg : o.guard = none) (l c : Operand) (t : TypeId) (hop : o.op = Op.makeSlice t l c)
    (e : TypeId) (i : TypeInfo) (z : Value) (h1 : P.underlying t = some (.slice e)) (h2 : P.info? e = some i) (h3 : i.zero = some z)
    (kl kc : IntKind) (L C : Int) (n : Nat) (hl : a.eval l = .int kl L) (hc : a.eval c = .int kc C) (hL : L = (n : Int)) (hC : C = (n : Int)) (b2 : i.bytes * n ≤ 281474976710656) (b3 : n ≤ 1000000)
    (hK : ∀ cur : Array Value, cur.size = n * i.size → wpList P ops Q rest (a.put o.dst (.slice (some ⟨w.heap.size, 0, none⟩) n n)) (w.alloc (.cells cur e))) :
    wpList P ops Q (o :: rest) a w := by
  refine wpList_plain hg fun K hK' => ?_
  subst hL
  subst hC
  have hb' : (i.bytes : Int) * (n : Int) ≤ 281474976710656 := by
    have h : ((i.bytes * n : Nat) : Int) ≤ 281474976710656 := by omega
    rwa [Int.natCast_mul] at h
  have hrun := run_make (P := P) w t e i z h1 h2 h3 kl kc n n (by omega) (by omega) hb' (by omega)
  simp only [Int.toNat_natCast] at hrun
  unfold Oper.wp
  simp [execOp, hop, hl, hc, hrun, Result.andThen]
  exact hK' _ _ (hK _ (size_madeCells _ _))
theorem alloc_setRow (w : World) (cur cs : Array Value) (t : TypeId) : (w.alloc (.cells cur t)).setRow w.heap.size cs = w.alloc (.cells cs t) := by
  unfold World.setRow World.alloc
  congr 1
  apply Array.ext
  · simp
  · intro k hk1 hk2
    have hk : k < w.heap.size + 1 := by simpa using hk2
    by_cases hkw : w.heap.size = k
    · subst hkw
      simp [Array.getElem_modify, Array.getElem_push]
    · have hlt : k < w.heap.size := by omega
      simp [Array.getElem_modify, Array.getElem_push, hkw, hlt]
theorem Sl.src {w : World} {s n : Nat} {A : Option Addr} {xs : List Value} (h : Sl w s A n xs) (hn : 0 < n) : ∃ ad, A = some ad ∧ ad.block < w.heap.size ∧ ad.spot = none ∧ ∀ j v, xs[j]? = some v → w.cell? (ad.add j) = some v := by
  obtain ⟨b, off, rfl, hb, hc⟩ := h.2 hn
  refine ⟨_, rfl, hb, rfl, fun j v hv => ?_⟩
  have hadd : (⟨b, off, none⟩ : Addr).add j = ⟨b, off + j, none⟩ := by unfold Addr.add; split <;> simp_all
  rw [hadd]
  exact hc j v hv
theorem later_add {W w : World} (hb : Below W.heap.size W w) {ad : Addr} (h : ad.block < W.heap.size) (hs : ad.spot = none) {j : Nat} {v : Value} (hv : W.cell? (ad.add j) = some v) : w.cell? (ad.add j) = some v := by
  obtain ⟨b, o, s⟩ := ad
  simp only at hs h
  subst hs
  have hadd : (⟨b, o, none⟩ : Addr).add j = ⟨b, o + j, none⟩ := by unfold Addr.add; split <;> simp_all
  rw [hadd] at hv ⊢
  exact (later_cell hb h).trans hv
theorem al_heap (w : World) (cs : Array Value) (t : TypeId) : (w.alloc (.cells cs t)).heap[w.heap.size]? = some (.cells cs t) := heap_alloc_new w _
set_option maxRecDepth 100000 in
set_option maxHeartbeats 1000000 in
theorem ownSeg_any (A : Option Addr) (n c : Nat) (xs : List Value) (w : World) (h : Sl w 5 A n xs) (h1 : ∀ u ∈ xs, u.oneCell' = true) (hn : n ≤ 1000000) :
    Calls Try.prog 83 #[.slice A n c] w fun e w' => ∃ A' c', e = .returned (.slice A' n c') ∧ w'.ownsRow w.heap.size 42 5 (.slice A' n c') n xs ∧ Below w.heap.size w w' := by
  have hlen := h.1
  rcases Nat.eq_zero_or_pos n with rfl | hpos
  · obtain rfl : xs = [] := List.eq_nil_of_length_eq_zero (by omega)
    go_enter Try.func83, Try.ntmps83
    go_wp2
    go_ret
    exact ⟨none, 0, rfl, own_nil, Below.refl _ _⟩
  · obtain ⟨ad, rfl, hb, hsp, hsrc⟩ := h.src hpos
    obtain ⟨ht, i, z, hi, hz, hsize, hby, hzs, -, hbb⟩ := sgT
    have hown := own_new (w := w) (t := 42) (n := n) (g := w.heap.size) (s := 5) (base := w.heap.size) xs rfl hlen (Nat.le_refl _) hn
    have HO := Lib.hid hown
    have HC := Lib.hid h1
    have HS := Lib.hid hsrc
    clear h1 hsrc hown h
    go_enter Try.func83, Try.ntmps83
    go_wp2_with (first
      | (at_make; refine wpList_make_at _ rfl _ _ 26 rfl 42 i z ht hi hz _ _ _ _ n rfl rfl rfl rfl (by rw [hby]; omega) hn ?_; intro cur hcur)
      | fail)
    have hcopy := run_copy_sized (P := Try.prog) (w.alloc (.cells cur 42)) 26 26 3 42 w.heap.size n n ad c cur 42 xs i ht hi (al_heap _ _ _) (by rw [hsize]; exact hlen) hcur (fun j v hv => later_add (bal (Below.refl _ _) _) hb hsp (HS.out j v hv)) HC.out
    rw [alloc_setRow] at hcopy
    rw [hcopy]
    go_wp2_with fail
    go_ret
    exact ⟨_, _, rfl, HO.out, bal (Below.refl _ _) _⟩
theorem ownIntT : SlT Try.prog 30 3 1 8 := slT_of Try.underlying30 (by kernel_rfl) (by omega) (by omega)
theorem ownClipT : SlT Try.prog 27 57 2 32 := slT_of Try.underlying27 (by kernel_rfl) (by omega) (by omega)
set_option maxRecDepth 100000 in
set_option maxHeartbeats 1000000 in
theorem ownInt_any (A : Option Addr) (n c : Nat) (xs : List Value) (w : World) (h : Sl w 1 A n xs) (h1 : ∀ u ∈ xs, u.oneCell' = true) (hn : n ≤ 1000000) :
    Calls Try.prog 85 #[.slice A n c] w fun e w' => ∃ A' c', e = .returned (.slice A' n c') ∧ w'.ownsRow w.heap.size 3 1 (.slice A' n c') n xs ∧ Below w.heap.size w w' := by
  have hlen := h.1
  rcases Nat.eq_zero_or_pos n with rfl | hpos
  · obtain rfl : xs = [] := List.eq_nil_of_length_eq_zero (by omega)
    go_enter Try.func85, Try.ntmps85
    go_wp2
    go_ret
    exact ⟨none, 0, rfl, own_nil, Below.refl _ _⟩
  · obtain ⟨ad, rfl, hb, hsp, hsrc⟩ := h.src hpos
    obtain ⟨ht, i, z, hi, hz, hsize, hby, hzs, -, hbb⟩ := ownIntT
    have hown := own_new (w := w) (t := 3) (n := n) (g := w.heap.size) (s := 1) (base := w.heap.size) xs rfl hlen (Nat.le_refl _) hn
    have HO := Lib.hid hown
    have HC := Lib.hid h1
    have HS := Lib.hid hsrc
    clear h1 hsrc hown h
    go_enter Try.func85, Try.ntmps85
    go_wp2_with (first
      | (at_make; refine wpList_make_at _ rfl _ _ 30 rfl 3 i z ht hi hz _ _ _ _ n rfl rfl rfl rfl (by rw [hby]; omega) hn ?_; intro cur hcur)
      | fail)
    have hcopy := run_copy_sized (P := Try.prog) (w.alloc (.cells cur 3)) 30 30 3 3 w.heap.size n n ad c cur 3 xs i ht hi (al_heap _ _ _) (by rw [hsize]; exact hlen) hcur (fun j v hv => later_add (bal (Below.refl _ _) _) hb hsp (HS.out j v hv)) HC.out
    rw [alloc_setRow] at hcopy
    rw [hcopy]
    go_wp2_with fail
    go_ret
    exact ⟨_, _, rfl, HO.out, bal (Below.refl _ _) _⟩
set_option maxRecDepth 100000 in
set_option maxHeartbeats 1000000 in
theorem ownClip_any (A : Option Addr) (n c : Nat) (xs : List Value) (w : World) (h : Sl w 2 A n xs) (h1 : ∀ u ∈ xs, u.oneCell' = true) (hn : n ≤ 1000000) :
    Calls Try.prog 115 #[.slice A n c] w fun e w' => ∃ A' c', e = .returned (.slice A' n c') ∧ w'.ownsRow w.heap.size 57 2 (.slice A' n c') n xs ∧ Below w.heap.size w w' := by
  have hlen := h.1
  rcases Nat.eq_zero_or_pos n with rfl | hpos
  · obtain rfl : xs = [] := List.eq_nil_of_length_eq_zero (by omega)
    go_enter Try.func115, Try.ntmps115
    go_wp2
    go_ret
    exact ⟨none, 0, rfl, own_nil, Below.refl _ _⟩
  · obtain ⟨ad, rfl, hb, hsp, hsrc⟩ := h.src hpos
    obtain ⟨ht, i, z, hi, hz, hsize, hby, hzs, -, hbb⟩ := ownClipT
    have hown := own_new (w := w) (t := 57) (n := n) (g := w.heap.size) (s := 2) (base := w.heap.size) xs rfl hlen (Nat.le_refl _) hn
    have HO := Lib.hid hown
    have HC := Lib.hid h1
    have HS := Lib.hid hsrc
    clear h1 hsrc hown h
    go_enter Try.func115, Try.ntmps115
    go_wp2_with (first
      | (at_make; refine wpList_make_at _ rfl _ _ 27 rfl 57 i z ht hi hz _ _ _ _ n rfl rfl rfl rfl (by rw [hby]; omega) hn ?_; intro cur hcur)
      | fail)
    have hcopy := run_copy_sized (P := Try.prog) (w.alloc (.cells cur 57)) 27 27 3 57 w.heap.size n n ad c cur 57 xs i ht hi (al_heap _ _ _) (by rw [hsize]; exact hlen) hcur (fun j v hv => later_add (bal (Below.refl _ _) _) hb hsp (HS.out j v hv)) HC.out
    rw [alloc_setRow] at hcopy
    rw [hcopy]
    go_wp2_with fail
    go_ret
    exact ⟨_, _, rfl, HO.out, bal (Below.refl _ _) _⟩
end Go.Proofs.Ytaadajadeemndaa
