/- A font in memory; a book of letters in memory. -/
import Derived.Test.YtdfkbbcoolgfiaaGreatFontP
import Derived.Test.YtdfkbbcoolgfiaaGreatAllP
import Derived.Test.YtdfkbbcoolgfiaaGreatMCls
import Derived.Maps.OwnSet
namespace Go.Proofs.YtdfkbbcoolgfiaaGreat
open Go.RowKit Go.Maps

def lec (x : Le) : List Value := [.string x.name, .string x.prog]
def lecs (l : List Le) : List Value := l.flatMap lec
def prc (k : Pr) : List Value := [.string k.a, .string k.b, .int .i64 k.mv]
def prcs (l : List Pr) : List Value := l.flatMap prc
/-- A font's nine cells. -/
def foC (m : Mt) (N L K : Value) : List Value := [.int .i64 m.a, .int .i64 m.b, .int .i64 m.c, .int .i64 m.d, .int .i64 m.e, .int .i64 m.f, N, L, K]
def SzOK (s : ByteArray) : Prop := s.size ≤ 9223372036854775807
/-- Sizes that a machine has. -/
structure FoOK (F : Fo) : Prop where
  nl : F.names.length ≤ 100000
  ll : F.lets.length ≤ 100000
  kl : F.kern.length ≤ 100000
  ns : ∀ s ∈ F.names, s.size ≤ 9223372036854775807
  ls : ∀ x ∈ F.lets, SzOK x.name ∧ SzOK x.prog
/-- Nine cells read as a font. -/
structure FoAt (w : World) (F : Fo) (C : List Value) : Prop where
  ok : FoOK F
  at_ : ∃ (A B E : Option Addr) (c d e : Nat), C = foC F.m (.slice A F.names.length c) (.slice B F.lets.length d) (.slice E F.kern.length e) ∧
    Sl w 1 A F.names.length (strs F.names) ∧ Sl w 2 B F.lets.length (lecs F.lets) ∧ Sl w 3 E F.kern.length (prcs F.kern)
theorem FoAt.below {w w' : World} {F : Fo} {C : List Value} (h : FoAt w F C) (hb : Below w.heap.size w w') : FoAt w' F C := by
  obtain ⟨ok, A, B, E, c, d, e, rfl, h1, h2, h3⟩ := h
  exact ⟨ok, A, B, E, c, d, e, rfl, h1.below hb, h2.below hb, h3.below hb⟩
theorem FoAt.len {w : World} {F : Fo} {C : List Value} (h : FoAt w F C) : C.length = 9 := by
  obtain ⟨ok, A, B, E, c, d, e, rfl, h1, h2, h3⟩ := h; rfl
theorem foT : RecT Tryz.prog 56 9 := ⟨_, Tryz.underlying56, rfl, by kernel_rfl⟩
theorem Sl.cells {w : World} {s : Nat} {A : Option Addr} {n : Nat} {xs : List Value} (h : Sl w s A n xs) (hn : 0 < n) : ∃ b off : Nat, A = some ⟨b, off, none⟩ ∧ b < w.heap.size ∧ ∀ j u, xs[j]? = some u → w.cell? ⟨b, off + j, none⟩ = some u := h.2 hn
theorem Sl.str {w : World} {A : Option Addr} {n : Nat} {l : List ByteArray} (h : Sl w 1 A n (strs l)) (k : Nat) (hk : k < n) (hl : k < l.length) :
    ∃ b off : Nat, A = some ⟨b, off, none⟩ ∧ b < w.heap.size ∧ w.cell? ⟨b, off + k, none⟩ = some (.string l[k]) := by
  obtain ⟨b, off, e, hb, hc⟩ := h.2 (by omega)
  exact ⟨b, off, e, hb, hc k _ (by simp [strs, List.getElem?_eq_getElem hl])⟩
theorem Sl.le {w : World} {A : Option Addr} {n : Nat} {l : List Le} (h : Sl w 2 A n (lecs l)) (k : Nat) (hk : k < n) (hl : k < l.length) :
    ∃ b off : Nat, A = some ⟨b, off, none⟩ ∧ b < w.heap.size ∧ w.cell? ⟨b, off + k * 2, none⟩ = some (.string l[k].name) ∧ w.cell? ⟨b, off + k * 2 + 1, none⟩ = some (.string l[k].prog) := by
  obtain ⟨b, off, e, hb, hc⟩ := h.2 (by omega)
  have g : ∀ j u, j < 2 → (lec l[k])[j]? = some u → w.cell? ⟨b, off + k * 2 + j, none⟩ = some u := fun j u hj hu => by
    rw [Nat.add_assoc]; exact hc _ u (by rw [← hu]; exact get_flat lec 2 (fun _ => rfl) l k j hl hj)
  exact ⟨b, off, e, hb, g 0 _ (by omega) rfl, g 1 _ (by omega) rfl⟩
theorem Sl.pr {w : World} {A : Option Addr} {n : Nat} {l : List Pr} (h : Sl w 3 A n (prcs l)) (k : Nat) (hk : k < n) (hl : k < l.length) :
    ∃ b off : Nat, A = some ⟨b, off, none⟩ ∧ b < w.heap.size ∧ w.cell? ⟨b, off + k * 3, none⟩ = some (.string l[k].a) ∧ w.cell? ⟨b, off + k * 3 + 1, none⟩ = some (.string l[k].b) ∧ w.cell? ⟨b, off + k * 3 + 2, none⟩ = some (.int .i64 l[k].mv) := by
  obtain ⟨b, off, e, hb, hc⟩ := h.2 (by omega)
  have g : ∀ j u, j < 3 → (prc l[k])[j]? = some u → w.cell? ⟨b, off + k * 3 + j, none⟩ = some u := fun j u hj hu => by
    rw [Nat.add_assoc]; exact hc _ u (by rw [← hu]; exact get_flat prc 3 (fun _ => rfl) l k j hl hj)
  exact ⟨b, off, e, hb, g 0 _ (by omega) rfl, g 1 _ (by omega) rfl, g 2 _ (by omega) rfl⟩
theorem lecs_len (l : List Le) : (lecs l).length = l.length * 2 := len_flat lec 2 (fun _ => rfl) l
theorem prcs_len (l : List Pr) : (prcs l).length = l.length * 3 := len_flat prc 3 (fun _ => rfl) l

theorem bytes_loop (bs : ByteArray) : ∀ (n i : Nat) (r : List UInt8), bs.size - i = n → ByteArray.toList.loop bs i r = r.reverse ++ bs.data.toList.drop i
  | 0, i, r, h => by
    rw [ByteArray.toList.loop]
    have : ¬ i < bs.size := by omega
    have h2 : bs.data.toList.length ≤ i := by rw [Array.length_toList]; exact Nat.le_of_not_lt this
    rw [if_neg this, List.drop_eq_nil_of_le h2, List.append_nil]
  | n + 1, i, r, h => by
    rw [ByteArray.toList.loop]
    have hi : i < bs.size := by omega
    rw [if_pos hi, bytes_loop bs n (i + 1) _ (by omega)]
    have hi1 : i < bs.data.size := hi
    have hi2 : i < bs.data.toList.length := by rw [Array.length_toList]; exact hi
    rw [List.drop_eq_getElem_cons hi2, List.reverse_cons, List.append_assoc]
    have : bs.get! i = bs.data.toList[i] := by
      show bs.data[i]! = _
      rw [getElem!_pos bs.data i hi1, Array.getElem_toList]
    rw [this]; rfl
theorem bytes_tl (bs : ByteArray) : bs.toList = bs.data.toList := by
  unfold ByteArray.toList
  rw [bytes_loop bs _ 0 [] rfl]; rfl
theorem str_eq (a b : ByteArray) : (a.toList == b.toList) = decide (a = b) := by
  rw [bytes_tl, bytes_tl]
  by_cases h : a = b
  · subst h; simp
  · rw [decide_eq_false h, beq_eq_false_iff_ne]
    intro e
    have := Array.toList_inj.1 e
    cases a; cases b; simp_all
theorem str_em (a : ByteArray) : a.toList.isEmpty = decide (a = ByteArray.empty) := by
  have h : ByteArray.empty.toList = [] := by rw [bytes_tl]; rfl
  rw [← str_eq, h]
  cases a.toList <;> rfl
/-! ### the book -/
def keyL (s : ByteArray) : Lit := .string s.data.toList
def leD (x : Le) : DataW Unit := .agg [.lit (keyL x.name), .lit (keyL x.prog)]
/-- How a letter reads. -/
def leR : Value → Option (DataW Unit × List MemPlace)
  | .agg cs => match cs.toList with
    | [.string a, .string b] => some (leD ⟨a, b⟩, [])
    | _ => none
  | _ => none
theorem leR_mk (x : Le) : leR (.agg (lec x).toArray) = some (leD x, []) := rfl
theorem keyL_inj {a b : ByteArray} (h : keyL a = keyL b) : a = b := by
  unfold keyL at h
  simp only [Lit.string.injEq] at h
  have := Array.toList_inj.1 h
  cases a; cases b; simp_all
theorem leR_inv {v : Value} {x : Le} {ps : List MemPlace} (h : leR v = some (leD x, ps)) : v = .agg (lec x).toArray := by
  unfold leR at h
  split at h
  · rename_i cs
    split at h
    · rename_i a b hc
      simp only [Option.some.injEq, Prod.mk.injEq, leD, DataW.agg.injEq, List.cons.injEq, DataW.lit.injEq] at h
      have h1 := keyL_inj h.1.1
      have h2 := keyL_inj h.1.2.1
      subst h1; subst h2
      have : cs = #[.string x.name, .string x.prog] := by apply Array.toList_inj.1; rw [hc]
      rw [this]; rfl
    · cases h
  · cases h
def bookD (l : List Le) : DataW Unit := l.foldl (fun D x => D.put (keyL x.name) (leD x)) (.map [])
theorem bookD_snoc (l : List Le) (x : Le) : bookD (l ++ [x]) = (bookD l).put (keyL x.name) (leD x) := by simp [bookD]
theorem fold_map (l : List Le) : ∀ D : DataW Unit, IsMap D → IsMap (l.foldl (fun D x => D.put (keyL x.name) (leD x)) D) := by
  induction l with
  | nil => exact fun D h => h
  | cons x l ih => exact fun D h => ih _ (h.put _ _)
theorem bookD_map (l : List Le) : IsMap (bookD l) := fold_map l _ isMap_empty
theorem keyL_is (s : ByteArray) : WideAt.IsKeyLit (keyL s) := trivial
theorem bookD_get (n : ByteArray) : ∀ k (l : List Le), k ≤ l.length → bookTo l k = true →
    Maps.has (bookD (l.take k)) (keyL n) = ((l.take k).find? fun x => decide (x.name = n)).isSome ∧ ∀ z, (bookD (l.take k)).atKey (keyL n) z = (((l.take k).find? fun x => decide (x.name = n)).map leD).getD z
  | 0, l, _, _ => ⟨by simp [bookD, Maps.has], fun z => by simp [bookD, DataW.atKey]⟩
  | k + 1, l, hk, hb => by
    have hkl : k < l.length := by omega
    simp only [bookTo, List.getElem?_eq_getElem hkl, Bool.and_eq_true] at hb
    obtain ⟨h1, h2⟩ := bookD_get n k l (by omega) hb.1
    rw [List.take_succ_eq_append_getElem hkl, bookD_snoc, List.find?_append]
    by_cases he : l[k].name = n
    · subst he
      have hnone : ((l.take k).find? fun x => decide (x.name = l[k].name)) = none := by
        have := hb.2
        simp only [leB, Bool.and_eq_true, Bool.not_eq_true'] at this
        rw [List.find?_eq_none]
        intro x hx hxn
        have h3 := List.any_eq_false.1 this.1.1.1 x hx
        exact h3 hxn
      rw [hnone]
      refine ⟨?_, fun z => ?_⟩
      · rw [has_put_same (bookD_map _) (keyL_is _)]; simp
      · rw [atKey_put_same (bookD_map _) (keyL_is _)]; simp
    · have hk2 : keyL n ≠ keyL l[k].name := fun e => he (keyL_inj e).symm
      refine ⟨?_, fun z => ?_⟩
      · rw [has_put_other hk2, h1]; simp [he]
      · rw [atKey_put_other hk2, h2]; simp [he]
/-- Block b is the book of letters. -/
def BookAt (w : World) (b : Nat) (l : List Le) : Prop := w.ownsMap Tryz.prog 9 leR b 100000 (bookD l)
theorem keyK : Keyed Tryz.prog 9 := string_keyed Tryz.underlying9
theorem zeroLe (w : World) : (zeroValue 145).run Tryz.prog w = .ok (.agg (lec ⟨ByteArray.empty, ByteArray.empty⟩).toArray) w := by kernel_rfl
theorem wpList_book {w : World} {ops : Array Oper} {rest : List Oper} {o : Oper} {a : Act} {Q : Exit → Act → World → Prop} (hg : o.guard = none) (m x : Operand) (hop : o.op = Op.lookup 135 m x true)
    (b n k : Nat) (l : List Le) (hm : a.eval m = .map (some b)) (hown : w.ownsMap Tryz.prog 9 leR b n (bookD (l.take k))) (hk : k ≤ l.length) (hbk : bookTo l k = true) (s : ByteArray) (hx : a.eval x = .string s) (hs : s.size ≤ 9223372036854775807)
    (y : Option Le) (hy : ((l.take k).find? fun x => decide (x.name = s)) = y)
    (hK : wpList Tryz.prog ops Q rest (a.put o.dst (.tuple #[.agg #[.string (y.getD ⟨ByteArray.empty, ByteArray.empty⟩).name, .string (y.getD ⟨ByteArray.empty, ByteArray.empty⟩).prog], .bool y.isSome])) w) : wpList Tryz.prog ops Q (o :: rest) a w := by
  obtain ⟨h1, h2⟩ := bookD_get s k l hk hbk
  refine wpList_lookup_own_ok w hg m x _ hop 9 145 keyK Tryz.underlying135 leR (zeroLe w) (leD ⟨ByteArray.empty, ByteArray.empty⟩) [] (leR_mk _) b n _ hm hown (.string s) (keyL s) hx (WideMaps.keyOf_string_mk Tryz.underlying9 hs) fun v ps hv => ?_
  rw [h1, hy]
  rw [h2, hy] at hv
  have : v = .agg (lec (y.getD ⟨ByteArray.empty, ByteArray.empty⟩)).toArray := by
    cases y with
    | none => exact leR_inv hv
    | some y => exact leR_inv hv
  rw [this]; exact hK
end Go.Proofs.YtdfkbbcoolgfiaaGreat

namespace Go.Proofs.YtdfkbbcoolgfiaaGreat
open Go.RowKit Go.Maps Go.BigFrame

theorem fontFix_any (v : Int) (w : World) : Calls Tryz.prog 93 #[.int .i64 v] w fun e w' => e = .returned (.bool (fixB v)) ∧ w = w' := by
  go_enter Tryz.func93, Tryz.ntmps93
  go_wp2
  all_goals
    go_ret
    refine ⟨ret_bool ?_, rfl⟩
    unfold fixB; simp; omega
set_option maxRecDepth 100000 in
set_option maxHeartbeats 1000000 in
theorem name_any (F : Fo) (C : List Value) (c : Nat) (w : World) (hc8 : c < 256) (h : FoAt w F C) : Calls Tryz.prog 136 #[.agg C.toArray, .int .u8 c] w fun e w' => e = .returned (.string (nameF F c)) ∧ Below w.heap.size w w' := by
  obtain ⟨ok, A, B, E, ca, cb, ce, rfl, h1, h2, h3⟩ := h
  have hl := ok.nl
  obtain ⟨w0, hw0⟩ : ∃ w0 : World, w0 = w.alloc (.cells (foC F.m (.slice A F.names.length ca) (.slice B F.lets.length cb) (.slice E F.kern.length ce)).toArray 56) := ⟨_, rfl⟩
  have hB0 : Below w.heap.size w w0 := by rw [hw0]; exact bal (Below.refl _ _) _
  have hA : BC w0 w.heap.size (foC F.m (.slice A F.names.length ca) (.slice B F.lets.length cb) (.slice E F.kern.length ce)) := by rw [hw0]; exact BC.new _ 56 rfl
  have hs := h1.below hB0
  have c6 := hA.c 6 _ rfl
  go_enter Tryz.func136, Tryz.ntmps136
  go_upto_region 1 with (fail)
  rw [← hw0]
  clear hw0
  by_cases hc : c < F.names.length
  · obtain ⟨b, off, rfl, hb, d0⟩ := hs.str c hc hc
    have hn : nameF F c = F.names[c] := by simp [nameF, List.getElem?_eq_getElem hc]
    go_wp2
    go_ret
    exact ⟨by rw [hn]; rfl, hB0⟩
  · have hn : nameF F c = ByteArray.empty := by simp [nameF, List.getElem?_eq_none (Nat.le_of_not_lt hc)]
    go_wp2
    go_ret
    exact ⟨by rw [hn]; rfl, hB0⟩
theorem bookTo_down {l : List Le} : ∀ {j k : Nat}, k ≤ j → bookTo l k = false → bookTo l j = false
  | 0, k, h, h2 => by obtain rfl : k = 0 := by omega
                      exact h2
  | j + 1, k, h, h2 => by
    by_cases hk : k = j + 1
    · subst hk; exact h2
    · simp only [bookTo, bookTo_down (show k ≤ j by omega) h2, Bool.false_and]
theorem bookTo_prog {l : List Le} : ∀ {k : Nat}, k ≤ l.length → bookTo l k = true → ∀ x ∈ l.take k, x.prog.size ≤ 600
  | 0, _, _, x, hx => by simp at hx
  | k + 1, hk, hb, x, hx => by
    have hkl : k < l.length := by omega
    simp only [bookTo, List.getElem?_eq_getElem hkl, Bool.and_eq_true] at hb
    rw [List.take_succ_eq_append_getElem hkl, List.mem_append, List.mem_singleton] at hx
    rcases hx with hx | rfl
    · exact bookTo_prog (by omega) hb.1 x hx
    · have := hb.2
      simp only [leB, Bool.and_eq_true, decide_eq_true_eq] at this
      exact this.2
theorem book_prog {l : List Le} (h : bookB l = true) {x : Le} (hx : x ∈ l) : x.prog.size ≤ 600 := bookTo_prog (Nat.le_refl _) h x (by rw [List.take_length]; exact hx)
theorem bookTo_no {l : List Le} {k : Nat} (hk : k < l.length) (h : leB (l.take k) l[k] = false) : bookB l = false :=
  bookTo_down (k := k + 1) hk (by simp only [bookTo, List.getElem?_eq_getElem hk, h, Bool.and_false])
theorem bookTo_yes {l : List Le} {k : Nat} (hk : k < l.length) (h0 : bookTo l k = true) (h : leB (l.take k) l[k] = true) : bookTo l (k + 1) = true := by
  simp only [bookTo, List.getElem?_eq_getElem hk, h, h0, Bool.and_self]
set_option maxRecDepth 100000 in
set_option maxHeartbeats 2000000 in
theorem book_any (A : Option Addr) (c : Nat) (l : List Le) (w : World) (hn : l.length ≤ 100000) (hsz : ∀ x ∈ l, SzOK x.name ∧ SzOK x.prog) (h : Sl w 2 A l.length (lecs l)) :
    Calls Tryz.prog 132 #[.slice A l.length c] w fun e w' => Below w.heap.size w w' ∧
      ((bookB l = false ∧ e = .returned (.tuple #[.map none, .bool false])) ∨ (bookB l = true ∧ e = .returned (.tuple #[.map (some w.heap.size), .bool true]) ∧ BookAt w' w.heap.size l)) := by
  obtain ⟨n, hN⟩ : ∃ n, l.length = n := ⟨_, rfl⟩
  have HN := Lib.hid hN
  rw [hN] at h hn ⊢
  clear hN
  have hmm := @run_makeMap Tryz.prog
  go_enter Tryz.func132, Tryz.ntmps132
  go_wp2_with fail
  go_loopw [12] (fun i wr => ∃ k, k ≤ n ∧ i = .int .i64 (k : Int) ∧ Below w.heap.size w wr ∧ Hid (bookTo l k = true) ∧ wr.ownsMap Tryz.prog 9 leR w.heap.size k (bookD (l.take k))) (fun i _ => n - (intOf i).toNat)
  case atStart => exact ⟨0, by omega, rfl, bal (Below.refl _ _) _, Lib.hid rfl, World.ownsMap_made _ _ _ _⟩
  case round =>
    obtain ⟨wo, rfl⟩ : ∃ wo : World, wo = wr := ⟨_, rfl⟩
    obtain ⟨k, hk, rfl, hbr, hbk, hown⟩ := hrel
    by_cases hlt : k < n
    · have hkl : k < l.length := by rw [HN.out]; exact hlt
      obtain ⟨b, off, rfl, hb, d0, d1⟩ := (h.below hbr).le k hlt hkl
      obtain ⟨x, hx⟩ : ∃ x, x = l[k] := ⟨_, rfl⟩
      have hz := hsz l[k] (List.getElem_mem hkl)
      rw [← hx] at d0 d1 hz
      have hno := bookTo_no (l := l) (k := k) hkl
      have hyes := bookTo_yes (l := l) (k := k) hkl hbk.out
      have htk := List.take_succ_eq_append_getElem (l := l) hkl
      rw [← hx] at hno hyes htk
      have HTK := Lib.hid htk
      clear hx htk
      have HNO := Lib.hid hno
      have HYES := Lib.hid hyes
      clear hno hyes
      have hlen : IntKind.i64.wrap (x.name.size : Int) = x.name.size := IntWalk.i64_in _ (by have := hz.1; unfold SzOK at this; omega)
      have hlen2 : IntKind.i64.wrap (x.prog.size : Int) = x.prog.size := IntWalk.i64_in _ (by have := hz.2; unfold SzOK at this; omega)
      obtain ⟨y, hy⟩ : ∃ y, ((l.take k).find? fun z => decide (z.name = x.name)) = y := ⟨_, rfl⟩
      cases y with
      | some y =>
        go_wp2_with (first
          | (at_lookup; refine wpList_book rfl _ _ rfl w.heap.size k k l rfl (hown.alloc _) (by omega) hbk.out x.name rfl (by have := hz.1; unfold SzOK at this; omega) _ hy ?_)
          | fail)
        have HE := Lib.hid (HNO.out (by
          unfold leB
          have h1 := List.find?_some hy
          have h2 := List.mem_of_find?_eq_some hy
          rw [Bool.and_assoc, Bool.and_assoc, Bool.and_eq_false_iff]
          exact .inl (by simp only [Bool.not_eq_false']; exact List.any_eq_true.2 ⟨y, h2, h1⟩)))
        clear HNO HYES hy
        go_wp2_with (first
          | (at_lookup; refine wpList_book rfl _ _ rfl w.heap.size k k l rfl (hown.alloc _) (by omega) hbk.out x.name rfl (by have := hz.1; unfold SzOK at this; omega) _ hy ?_)
          | fail)
        go_ret2
        exact ⟨bal (bal hbr _) _, .inl ⟨HE.out, rfl⟩⟩
      | none =>
        have hany : ((l.take k).any fun z => decide (z.name = x.name)) = false := by
          rw [List.find?_eq_none] at hy
          rw [List.any_eq_false]
          exact hy
        have HANY := Lib.hid hany
        clear hany
        by_cases g1 : x.name.toList.isEmpty = true
        · have HE := Lib.hid (HNO.out (by unfold leB; rw [HANY.out, ← str_em, g1]; rfl))
          clear HNO HYES
          go_wp2_with (first
            | (at_lookup; refine wpList_book rfl _ _ rfl w.heap.size k k l rfl (hown.alloc _) (by omega) hbk.out x.name rfl (by have := hz.1; unfold SzOK at this; omega) _ hy ?_)
            | fail)
          go_ret2
          exact ⟨bal (bal hbr _) _, .inl ⟨HE.out, rfl⟩⟩
        · have g1' : x.name.toList.isEmpty = false := by simpa using g1
          clear g1
          by_cases g2 : 100 < x.name.size
          · have HE := Lib.hid (HNO.out (by unfold leB; rw [HANY.out, ← str_em, g1', decide_eq_false (show ¬ x.name.size ≤ 100 by omega)]; rfl))
            have g2' : decide (100 < (x.name.size : Int)) = true := by simp; omega
            clear g2
            clear HNO HYES
            go_wp2_with (first
              | (at_lookup; refine wpList_book rfl _ _ rfl w.heap.size k k l rfl (hown.alloc _) (by omega) hbk.out x.name rfl (by have := hz.1; unfold SzOK at this; omega) _ hy ?_)
              | fail)
            go_ret2
            exact ⟨bal (bal hbr _) _, .inl ⟨HE.out, rfl⟩⟩
          · have g2' : decide (100 < (x.name.size : Int)) = false := by simp; omega
            by_cases g3 : 600 < x.prog.size
            · have HE := Lib.hid (HNO.out (by unfold leB; rw [HANY.out, ← str_em, g1', decide_eq_true (show x.name.size ≤ 100 by omega), decide_eq_false (show ¬ x.prog.size ≤ 600 by omega)]; rfl))
              have g3' : decide (600 < (x.prog.size : Int)) = true := by simp; omega
              clear g2 g3
              clear HNO HYES
              go_wp2_with (first
                | (at_lookup; refine wpList_book rfl _ _ rfl w.heap.size k k l rfl (hown.alloc _) (by omega) hbk.out x.name rfl (by have := hz.1; unfold SzOK at this; omega) _ hy ?_)
                | fail)
              go_ret2
              exact ⟨bal (bal hbr _) _, .inl ⟨HE.out, rfl⟩⟩
            · have HB := Lib.hid (HYES.out (by unfold leB; rw [HANY.out, ← str_em, g1', decide_eq_true (show x.name.size ≤ 100 by omega), decide_eq_true (show x.prog.size ≤ 600 by omega)]; rfl))
              have g3' : decide (600 < (x.prog.size : Int)) = false := by simp; omega
              have HKE := Lib.hid (WideMaps.keyOf_string_mk Tryz.underlying9 (s := x.name) (by unfold maxLen; omega))
              clear g2 g3 HNO HYES
              go_wp2_with (first
                | (at_lookup; refine wpList_book rfl _ _ rfl w.heap.size k k l rfl (hown.alloc _) (by omega) hbk.out x.name rfl (by have := hz.1; unfold SzOK at this; omega) _ hy ?_)
                | (at_mapUpdate; refine wpList_mapUpdate_own _ rfl _ _ _ 135 rfl 9 145 keyK Tryz.underlying135 leR w.heap.size k _ rfl ((hown.alloc _).alloc _) (by unfold maxLen; omega) _ _ (keyL x.name) rfl rfl HKE.out (leD x) [] (leR_mk x) ?_; intro w1 hown1 hgrow1)
                | fail)
              go_roundw
              case rel => exact ⟨k + 1, by omega, by go_num, (bal (bal hbr _) _).grown hgrow1 (bal (bal hbr _) _).size (fun j hj => by cases hj; exact Nat.le_refl _), HB, by rw [HTK.out, bookD_snoc]; exact hown1⟩
              case measure => simp [intOf]; omega
    · obtain rfl : k = n := by omega
      have hbb : bookB l = true := by unfold bookB; rw [HN.out]; exact hbk.out
      have htk : l.take k = l := List.take_of_length_le (by rw [HN.out]; omega)
      rw [htk] at hown
      go_wp2
      go_ret2
      exact ⟨hbr, .inr ⟨hbb, rfl, hown.mono hn⟩⟩
end Go.Proofs.YtdfkbbcoolgfiaaGreat

namespace Go.Proofs.YtdfkbbcoolgfiaaGreat
open Go.RowKit Go.Maps Go.BigFrame

theorem BookAt.lt {w : World} {b : Nat} {l : List Le} (h : BookAt w b l) : b < w.heap.size := World.ownsMap.lt h
theorem BookAt.below {w w' : World} {b : Nat} {l : List Le} (h : BookAt w b l) (hb : Below w.heap.size w w') : BookAt w' b l := by
  have hlt := h.lt
  obtain ⟨es, clock, h1, r⟩ := h
  exact ⟨es, clock, (hb.block b hlt).trans h1, r⟩
def kernOK (k : Pr) : Bool := decide (-8191 ≤ k.mv) && decide (k.mv ≤ 8191)
theorem openB_eq (F : Fo) : openB F = (mtB F.m && decide (F.names.length ≤ 256) && decide (F.lets.length ≤ 256) && decide (F.kern.length ≤ 256) && F.kern.all kernOK && bookB F.lets) := rfl
theorem all_no {α : Type} {f : α → Bool} {l : List α} {k : Nat} (hk : k < l.length) (h : f l[k] = false) : l.all f = false := by
  rw [List.all_eq_false]; exact ⟨l[k], List.getElem_mem hk, by simp [h]⟩
theorem all_yes {α : Type} {f : α → Bool} {l : List α} {k : Nat} (hk : k < l.length) (h0 : (l.take k).all f = true) (h : f l[k] = true) : (l.take (k + 1)).all f = true := by
  rw [List.take_succ_eq_append_getElem hk, List.all_append, h0]; simp [h]
set_option maxRecDepth 100000 in
set_option maxHeartbeats 2000000 in
theorem open_any (F : Fo) (C : List Value) (w : World) (h : FoAt w F C) : Calls Tryz.prog 90 #[.agg C.toArray] w fun e w' => Below w.heap.size w w' ∧
    ((openB F = false ∧ e = .returned (.tuple #[.map none, .bool false])) ∨ (openB F = true ∧ ∃ b, e = .returned (.tuple #[.map (some b), .bool true]) ∧ w.heap.size ≤ b ∧ BookAt w' b F.lets)) := by
  obtain ⟨ok, A, B, E, ca, cb, ce, rfl, h1, h2, h3⟩ := h
  obtain ⟨w0, hw0⟩ : ∃ w0 : World, w0 = w.alloc (.cells (foC F.m (.slice A F.names.length ca) (.slice B F.lets.length cb) (.slice E F.kern.length ce)).toArray 56) := ⟨_, rfl⟩
  have hB0 : Below w.heap.size w w0 := by rw [hw0]; exact bal (Below.refl _ _) _
  have hA : BC w0 w.heap.size (foC F.m (.slice A F.names.length ca) (.slice B F.lets.length cb) (.slice E F.kern.length ce)) := by rw [hw0]; exact BC.new _ 56 rfl
  have hok := Lib.hid ok
  have HO := Lib.hid (openB_eq F)
  have hnl := ok.nl
  have hll := ok.ll
  have hkl := ok.kl
  clear ok
  have hs2 := h2.below hB0
  have hs3 := h3.below hB0
  have HM := Lib.hid fun W => matMay_any F.m W
  unfold mtv at HM
  obtain ⟨n1, hn1⟩ : ∃ n, F.names.length = n := ⟨_, rfl⟩
  obtain ⟨n2, hn2⟩ : ∃ n, F.lets.length = n := ⟨_, rfl⟩
  obtain ⟨n3, hn3⟩ : ∃ n, F.kern.length = n := ⟨_, rfl⟩
  have HN3 := Lib.hid hn3
  have HN2 := Lib.hid hn2
  rw [hn1, hn2, hn3] at HO
  rw [hn1] at hnl
  rw [hn2] at hll hs2
  rw [hn3] at hkl hs3
  rw [hn1, hn2, hn3] at hw0 hA ⊢
  clear hn1 hn2 hn3 h1 h2 h3
  have a0 := hA.c 0 _ rfl
  have a1 := hA.c 1 _ rfl
  have a2 := hA.c 2 _ rfl
  have a3 := hA.c 3 _ rfl
  have a4 := hA.c 4 _ rfl
  have a5 := hA.c 5 _ rfl
  go_enter Tryz.func90, Tryz.ntmps90
  go_upto_region 1 with (fail)
  rw [← hw0]
  clear hw0
  go_wp2_with fail
  refine (HM.out _).mono ?_; rintro e w1 ⟨rfl, hb1⟩
  have B1 := btr hB0 hb1
  replace hA := hA.below hb1
  replace hs2 := hs2.below hb1
  replace hs3 := hs3.below hb1
  clear a0 a1 a2 a3 a4 a5 hb1 hB0 HM
  have a6 := hA.c 6 _ rfl
  have a7 := hA.c 7 _ rfl
  have a8 := hA.c 8 _ rfl
  cases hm : mtB F.m
  · have HE := Lib.hid (show openB F = false by rw [HO.out, hm]; rfl)
    clear hm HO
    go_wp2
    go_ret2
    exact ⟨B1, .inl ⟨HE.out, rfl⟩⟩
  · by_cases g1 : 256 < n1
    · have HE := Lib.hid (show openB F = false by rw [HO.out, hm, decide_eq_false (show ¬ n1 ≤ 256 by omega)]; rfl)
      have g1' : decide (256 < (n1 : Int)) = true := by simp; omega
      clear hm HO g1
      go_wp2
      go_ret2
      exact ⟨B1, .inl ⟨HE.out, rfl⟩⟩
    · have g1' : decide (256 < (n1 : Int)) = false := by simp; omega
      by_cases g2 : 256 < n2
      · have HE := Lib.hid (show openB F = false by rw [HO.out, hm, decide_eq_false (show ¬ n2 ≤ 256 by omega)]; simp)
        have g2' : decide (256 < (n2 : Int)) = true := by simp; omega
        clear hm HO g1 g2
        go_wp2
        go_ret2
        exact ⟨B1, .inl ⟨HE.out, rfl⟩⟩
      · have g2' : decide (256 < (n2 : Int)) = false := by simp; omega
        by_cases g3 : 256 < n3
        · have HE := Lib.hid (show openB F = false by rw [HO.out, hm, decide_eq_false (show ¬ n3 ≤ 256 by omega)]; simp)
          have g3' : decide (256 < (n3 : Int)) = true := by simp; omega
          clear hm HO g1 g2 g3
          go_wp2
          go_ret2
          exact ⟨B1, .inl ⟨HE.out, rfl⟩⟩
        · have g3' : decide (256 < (n3 : Int)) = false := by simp; omega
          have HQ := Lib.hid (show openB F = (F.kern.all kernOK && bookB F.lets) by rw [HO.out, hm, decide_eq_true (show n1 ≤ 256 by omega), decide_eq_true (show n2 ≤ 256 by omega), decide_eq_true (show n3 ≤ 256 by omega)]; simp)
          clear hm HO g1 g2 g3
          have hsz := hok.out.ls
          clear hok
          go_wp2_with fail
          go_loopw [31] (fun i wr => ∃ k, k ≤ n3 ∧ i = .int .i64 (k : Int) ∧ Below w1.heap.size w1 wr ∧ Hid ((F.kern.take k).all kernOK = true)) (fun i _ => n3 - (intOf i).toNat)
          case atStart => exact ⟨0, by omega, rfl, Below.refl _ _, Lib.hid rfl⟩
          case round =>
            obtain ⟨wo, rfl⟩ : ∃ wo : World, wo = wr := ⟨_, rfl⟩
            obtain ⟨k, hk, rfl, hbr, hal⟩ := hrel
            by_cases hlt : k < n3
            · have hkk : k < F.kern.length := by rw [HN3.out]; exact hlt
              obtain ⟨b, off, rfl, hb, d0, d1, d2⟩ := (hs3.below hbr).pr k hlt hkk
              obtain ⟨x, hx⟩ : ∃ x, x = F.kern[k] := ⟨_, rfl⟩
              have hno := all_no (f := kernOK) hkk
              have hyes := all_yes (f := kernOK) hkk hal.out
              rw [← hx] at d0 d1 d2 hno hyes
              have HNO := Lib.hid hno
              have HYES := Lib.hid hyes
              clear hx hno hyes
              by_cases e1 : x.mv < -8191
              · have HE := Lib.hid (show openB F = false by rw [HQ.out, HNO.out (by unfold kernOK; rw [decide_eq_false (show ¬ -8191 ≤ x.mv by omega)]; rfl)]; rfl)
                have e1' : decide (x.mv < -8191) = true := by simp; omega
                clear HNO HYES HQ e1
                go_wp2
                go_ret2
                exact ⟨btr B1 (bal hbr _), .inl ⟨HE.out, rfl⟩⟩
              · have e1' : decide (x.mv < -8191) = false := by simp; omega
                by_cases e2 : 8191 < x.mv
                · have HE := Lib.hid (show openB F = false by rw [HQ.out, HNO.out (by unfold kernOK; rw [decide_eq_false (show ¬ x.mv ≤ 8191 by omega), Bool.and_false])]; rfl)
                  have e2' : decide (8191 < x.mv) = true := by simp; omega
                  clear HNO HYES HQ e1 e2
                  go_wp2
                  go_ret2
                  exact ⟨btr B1 (bal hbr _), .inl ⟨HE.out, rfl⟩⟩
                · have HA := Lib.hid (HYES.out (by unfold kernOK; rw [decide_eq_true (show -8191 ≤ x.mv by omega), decide_eq_true (show x.mv ≤ 8191 by omega)]; rfl))
                  have e2' : decide (8191 < x.mv) = false := by simp; omega
                  clear HNO HYES HQ e1 e2
                  go_wp2_with fail
                  go_roundw
                  case rel => exact ⟨k + 1, by omega, by go_num, bal hbr _, HA⟩
                  case measure => simp [intOf]; omega
            · obtain rfl : k = n3 := by omega
              have hall := hal.out
              rw [List.take_of_length_le (by rw [HN3.out]; omega)] at hall
              have HF := Lib.hid (show openB F = bookB F.lets by rw [HQ.out, hall]; rfl)
              have hs2' := hs2.below hbr
              have hA' := hA.below hbr
              have a7' := hA'.c 7 _ rfl
              have HBK := Lib.hid fun W (hb : Below wo.heap.size wo W) => book_any B cb F.lets W (by rw [HN2.out]; exact hll) hsz (by rw [HN2.out]; exact hs2'.below hb)
              rw [HN2.out] at HBK
              clear HQ hall hal
              go_wp2_with fail
              refine (HBK.out _ (Below.refl _ _)).mono ?_; rintro e w2 ⟨hb2, hc⟩
              have B2 := btr B1 (btr hbr hb2)
              have hsz2 := (btr B1 hbr).size
              rcases hc with ⟨hcf, rfl⟩ | ⟨hct, rfl, hbk⟩
              · have HE := Lib.hid (HF.out.trans hcf)
                clear hcf HF
                go_wp2
                go_ret2
                exact ⟨B2, .inl ⟨HE.out, rfl⟩⟩
              · have HE := Lib.hid (HF.out.trans hct)
                clear hct HF
                go_wp2
                go_ret2
                exact ⟨B2, .inr ⟨HE.out, _, rfl, hsz2, hbk⟩⟩
set_option maxRecDepth 100000 in
set_option maxHeartbeats 2000000 in
theorem fontMay_any (F : Fo) (C : List Value) (w : World) (h : FoAt w F C) : Calls Tryz.prog 46 #[.agg C.toArray] w fun e w' => e = .returned (.bool (openB F)) ∧ Below w.heap.size w w' := by
  have HO := Lib.hid fun W (hb : Below w.heap.size w W) => open_any F C W (h.below hb)
  obtain ⟨ok, A, B, E, ca, cb, ce, rfl, h1, h2, h3⟩ := h
  obtain ⟨w0, hw0⟩ : ∃ w0 : World, w0 = w.alloc (.cells (foC F.m (.slice A F.names.length ca) (.slice B F.lets.length cb) (.slice E F.kern.length ce)).toArray 56) := ⟨_, rfl⟩
  have hB0 : Below w.heap.size w w0 := by rw [hw0]; exact bal (Below.refl _ _) _
  have hA : BC w0 w.heap.size (foC F.m (.slice A F.names.length ca) (.slice B F.lets.length cb) (.slice E F.kern.length ce)) := by rw [hw0]; exact BC.new _ 56 rfl
  clear h1 h2 h3 ok
  go_enter Tryz.func46, Tryz.ntmps46
  go_upto_region 1 with (fail)
  rw [← hw0]
  clear hw0
  go_wp2_with (first
    | (refine wpList_load_rec rfl _ _ rfl w.heap.size rfl _ 9 foT hA rfl ?_)
    | fail)
  refine (HO.out _ hB0).mono ?_; rintro e w1 ⟨hb1, hc⟩
  rcases hc with ⟨hf, rfl⟩ | ⟨hf, b, rfl, -, -⟩
  · go_wp2
    go_ret
    exact ⟨by rw [hf]; rfl, btr hB0 hb1⟩
  · go_wp2
    go_ret
    exact ⟨by rw [hf]; rfl, btr hB0 hb1⟩
end Go.Proofs.YtdfkbbcoolgfiaaGreat
