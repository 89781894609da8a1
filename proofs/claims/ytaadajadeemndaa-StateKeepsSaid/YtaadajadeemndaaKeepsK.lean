/- What the loops of StateKeeps keep: three answers, the rows that are written, the last clip's path. -/
import Derived.Test.YtaadajadeemndaaRowI
namespace Go.Proofs.Ytaadajadeemndaa
open Go.RowKit Go.BigFrame

theorem own_apart {w : World} {b b' : Nat} {e e' : TypeId} {s s' n n' : Nat} {v v' : Value} {xs xs' : List Value} (h : w.ownsRow b e s v n xs) (h' : w.ownsRow b' e' s' v' n' xs') (he : e ≠ e') {k : Nat} (hk : v.ownBlock = some k) : v'.ownBlock ≠ some k := by
  intro hk'
  rcases h.2 with ⟨hv, _⟩ | ⟨g, cap, cur, hv, _, hg, _⟩
  · rw [hv] at hk; cases hk
  · rw [hv] at hk
    injection hk with hk
    rcases h'.2 with ⟨hv', _⟩ | ⟨g', cap', cur', hv', _, hg', _⟩
    · rw [hv'] at hk'; cases hk'
    · rw [hv'] at hk'
      injection hk' with hk'
      simp only at hk hk'
      rw [hk] at hg
      rw [hk', hg] at hg'
      injection hg' with hg'
      injection hg' with _ h1
      exact he h1
/-- The last clip's path, if there is a clip; not in the row D. -/
def LP (w : World) (B hi : Nat) (C : Value) (n : Nat) (D : Value) : Prop := n = 0 ∨ ∃ gc cc A nl cl, C = .slice (some ⟨gc, 0, none⟩) n cc ∧ B ≤ gc ∧ gc < hi ∧ D.ownBlock ≠ some gc ∧ w.cell? ⟨gc, (n - 1) * 2, none⟩ = some (.slice A nl cl) ∧
  nl ≤ 9223372036854775807 ∧ RowI w B 42 5 (.slice A nl cl) nl ∧ ∀ k, (Value.slice A nl cl).ownBlock = some k → k < hi ∧ D.ownBlock ≠ some k
theorem LP.set {w : World} {B hi n : Nat} {C D : Value} (h : LP w B hi C n D) {g : Nat} (hg : g < B ∨ hi ≤ g ∨ D.ownBlock = some g) (o : Nat) (u : Value) : LP (w.setCell ⟨g, o, none⟩ u) B hi C n D := by
  rcases h with h | ⟨gc, cc, A, nl, cl, h1, h2, h3, h4, h5, h6, h7, h8⟩
  · exact .inl h
  · refine .inr ⟨gc, cc, A, nl, cl, h1, h2, h3, h4, ?_, h6, h7.other ?_ o u, h8⟩
    · rw [World.cell?_setCell_other _ _ _ _ ?_]
      · exact h5
      · intro e
        injection e with e1
        rcases hg with hg | hg | hg
        · omega
        · omega
        · exact h4 (e1 ▸ hg)
    · intro hk
      obtain ⟨h9, h10⟩ := h8 g hk
      have := h7.lt hk
      rcases hg with hg | hg | hg
      · omega
      · omega
      · exact h10 hg
theorem LP.below {w w' : World} {B hi n : Nat} {C D : Value} (h : LP w B hi C n D) (hh : hi ≤ w.heap.size) (hb : Below w.heap.size w w') : LP w' B hi C n D := by
  rcases h with h | ⟨gc, cc, A, nl, cl, h1, h2, h3, h4, h5, h6, h7, h8⟩
  · exact .inl h
  · exact .inr ⟨gc, cc, A, nl, cl, h1, h2, h3, h4, (later_cell hb (by show gc < _; omega)).trans h5, h6, h7.below hb, h8⟩
theorem StOwn.last {w : World} {B : Nat} {x : St} {P C D : Value} (h : StOwn w B x P C D) : LP w B w.heap.size C x.cl.length D := by
  obtain ⟨-, ⟨ps, hm, ho, hp⟩, hd⟩ := h
  rcases Nat.eq_zero_or_pos x.cl.length with h0 | h0
  · exact .inl h0
  · refine .inr ?_
    obtain ⟨Ac, cc, rfl⟩ := own_form ho
    obtain ⟨gc, rfl, hb, hlt⟩ := own_addr ho h0
    have hpl : ps.length = x.cl.length := by rw [← hm, List.length_map]
    have hk : x.cl.length - 1 < ps.length := by omega
    have hq := hp _ (List.getElem_mem hk)
    obtain ⟨A, cl, hA⟩ := own_form hq
    have hcell : w.cell? ⟨gc, (x.cl.length - 1) * 2, none⟩ = some (.slice A (ps[x.cl.length - 1]).1.p.length cl) := by
      have hxl : (x.cl.length - 1) * 2 < x.cl.length * 2 := by omega
      rw [ho.cellAt _ hxl, ← hA]
      have := get_flat clc 2 (fun _ => rfl) ps (x.cl.length - 1) 0 hk (by omega)
      rw [Nat.add_zero] at this
      exact this
    rw [hA] at hq
    refine ⟨gc, cc, A, _, cl, rfl, hb, hlt, own_apart ho hd (by decide) rfl, hcell, ?_, RowI.sg hq, fun k hk => ⟨(hq.lt k hk).2, own_apart hq hd (by decide) hk⟩⟩
    have h1 := own_cap hq
    have h2 := own_max hq
    omega
structure KS (w7 : World) (B9 B11 g8 g10 g12 : Nat) (C8 C10 C12 : List Value) (Pa Db Pc Cb : Value) (na nd nc nb : Nat) (w : World) : Prop where
  b : Below w7.heap.size w7 w
  a8 : BC w g8 C8
  a10 : BC w g10 C10
  a12 : BC w g12 C12
  ra : RowI w w7.heap.size 42 5 Pa na
  rb : RowI w B9 3 1 Db nd
  rc : RowI w B11 42 5 Pc nc
  lp : LP w B9 g10 Cb nb Db
  ua : ∀ k, Pa.ownBlock = some k → k < g8
  ub : ∀ k, Db.ownBlock = some k → k < g10
  uc : ∀ k, Pc.ownBlock = some k → k < g12
  o1 : w7.heap.size ≤ g8
  o2 : g8 < B9
  o3 : B9 ≤ g10
  o4 : g10 < B11
  o5 : B11 ≤ g12
section
variable {w7 : World} {B9 B11 g8 g10 g12 : Nat} {C8 C10 C12 : List Value} {Pa Db Pc Cb : Value} {na nd nc nb : Nat} {w : World}
theorem KS.sa (h : KS w7 B9 B11 g8 g10 g12 C8 C10 C12 Pa Db Pc Cb na nd nc nb w) {g c : Nat} (hp : Pa = .slice (some ⟨g, 0, none⟩) na c) (j : Nat) (hj : j < na * 5) :
    ∃ z, w.cell? ⟨g, j, none⟩ = some (.int .i64 z) ∧ w.frozen? ⟨g, j, none⟩ = false ∧ ∀ z', KS w7 B9 B11 g8 g10 g12 C8 C10 C12 Pa Db Pc Cb na nd nc nb (w.setCell ⟨g, j, none⟩ (.int .i64 z')) := by
  have hob : Pa.ownBlock = some g := by rw [hp]; rfl
  have hr := h.ra
  have h1 := hr.lt hob
  have h2 := h.ua g hob
  have o1 := h.o1; have o2 := h.o2; have o3 := h.o3; have o4 := h.o4; have o5 := h.o5
  rw [hp] at hr
  obtain ⟨z, hz, hf, hw⟩ := hr.at j hj
  refine ⟨z, hz, hf, fun z' => ⟨h.b.setCell (p := ⟨g, j, none⟩) h1.1 _, h.a8.apart1 (by omega) _ _, h.a10.apart1 (by omega) _ _, h.a12.apart1 (by omega) _ _, by rw [hp]; exact hw z', h.rb.other ?_ _ _, h.rc.other ?_ _ _, h.lp.set (.inl (by omega)) _ _, h.ua, h.ub, h.uc, o1, o2, o3, o4, o5⟩⟩
  · intro hk; have := h.rb.lt hk; omega
  · intro hk; have := h.rc.lt hk; omega
theorem KS.sb (h : KS w7 B9 B11 g8 g10 g12 C8 C10 C12 Pa Db Pc Cb na nd nc nb w) {g c : Nat} (hp : Db = .slice (some ⟨g, 0, none⟩) nd c) (j : Nat) (hj : j < nd * 1) :
    ∃ z, w.cell? ⟨g, j, none⟩ = some (.int .i64 z) ∧ w.frozen? ⟨g, j, none⟩ = false ∧ ∀ z', KS w7 B9 B11 g8 g10 g12 C8 C10 C12 Pa Db Pc Cb na nd nc nb (w.setCell ⟨g, j, none⟩ (.int .i64 z')) := by
  have hob : Db.ownBlock = some g := by rw [hp]; rfl
  have hr := h.rb
  have h1 := hr.lt hob
  have h2 := h.ub g hob
  have o1 := h.o1; have o2 := h.o2; have o3 := h.o3; have o4 := h.o4; have o5 := h.o5
  rw [hp] at hr
  obtain ⟨z, hz, hf, hw⟩ := hr.at j hj
  refine ⟨z, hz, hf, fun z' => ⟨h.b.setCell (p := ⟨g, j, none⟩) (by show w7.heap.size ≤ g; omega) _, h.a8.apart1 (by omega) _ _, h.a10.apart1 (by omega) _ _, h.a12.apart1 (by omega) _ _, h.ra.other ?_ _ _, by rw [hp]; exact hw z', h.rc.other ?_ _ _, h.lp.set (.inr (.inr hob)) _ _, h.ua, h.ub, h.uc, o1, o2, o3, o4, o5⟩⟩
  · intro hk; have := h.ua g hk; omega
  · intro hk; have := h.rc.lt hk; omega
theorem KS.sc (h : KS w7 B9 B11 g8 g10 g12 C8 C10 C12 Pa Db Pc Cb na nd nc nb w) {g c : Nat} (hp : Pc = .slice (some ⟨g, 0, none⟩) nc c) (j : Nat) (hj : j < nc * 5) :
    ∃ z, w.cell? ⟨g, j, none⟩ = some (.int .i64 z) ∧ w.frozen? ⟨g, j, none⟩ = false ∧ ∀ z', KS w7 B9 B11 g8 g10 g12 C8 C10 C12 Pa Db Pc Cb na nd nc nb (w.setCell ⟨g, j, none⟩ (.int .i64 z')) := by
  have hob : Pc.ownBlock = some g := by rw [hp]; rfl
  have hr := h.rc
  have h1 := hr.lt hob
  have h2 := h.uc g hob
  have o1 := h.o1; have o2 := h.o2; have o3 := h.o3; have o4 := h.o4; have o5 := h.o5
  rw [hp] at hr
  obtain ⟨z, hz, hf, hw⟩ := hr.at j hj
  refine ⟨z, hz, hf, fun z' => ⟨h.b.setCell (p := ⟨g, j, none⟩) (by show w7.heap.size ≤ g; omega) _, h.a8.apart1 (by omega) _ _, h.a10.apart1 (by omega) _ _, h.a12.apart1 (by omega) _ _, h.ra.other ?_ _ _, h.rb.other ?_ _ _, by rw [hp]; exact hw z', h.lp.set (.inr (.inl (by omega))) _ _, h.ua, h.ub, h.uc, o1, o2, o3, o4, o5⟩⟩
  · intro hk; have := h.ua g hk; omega
  · intro hk; have := h.ub g hk; omega
end
/-- The last clip's path is written: what is kept behind it. -/
structure KL (w7 : World) (A : Option Addr) (nl cl : Nat) (w : World) : Prop where
  b : Below w7.heap.size w7 w
  r : RowI w w7.heap.size 42 5 (.slice A nl cl) nl
theorem KL.s {w7 : World} {nl cl : Nat} {w : World} {A : Option Addr} (h : KL w7 A nl cl w) {g : Nat} (hA : A = some ⟨g, 0, none⟩) (j : Nat) (hj : j < nl * 5) :
    ∃ z, w.cell? ⟨g, j, none⟩ = some (.int .i64 z) ∧ w.frozen? ⟨g, j, none⟩ = false ∧ ∀ z', KL w7 A nl cl (w.setCell ⟨g, j, none⟩ (.int .i64 z')) := by
  subst hA
  obtain ⟨z, hz, hf, hw⟩ := h.r.at j hj
  exact ⟨z, hz, hf, fun z' => ⟨h.b.setCell (p := ⟨g, j, none⟩) (h.r.lt rfl).1 _, hw z'⟩⟩
end Go.Proofs.Ytaadajadeemndaa
