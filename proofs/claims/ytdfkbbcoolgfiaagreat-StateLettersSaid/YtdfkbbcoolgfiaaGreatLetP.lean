/- state.Letters, plainly. -/
import Derived.Test.YtdfkbbcoolgfiaaGreatSizeM
import Derived.Test.YtdfkbbcoolgfiaaGreatMTh
import Derived.Test.YtdfkbbcoolgfiaaGreatMHp
import Derived.Test.YtdfkbbcoolgfiaaGreatMF3
namespace Go.Proofs.YtdfkbbcoolgfiaaGreat

theorem outS_lenL (F : Fo) (m : Mt) : ∀ (s : List Nat) (l : List Sg) (x y : Int), l.length ≤ 300 → (outS F m l x y s).1.1.length ≤ 300
  | [], l, x, y, h => h
  | c :: s, l, x, y, h => by
    rw [outS]
    split
    · exact Nat.zero_le _
    split
    · exact Nat.zero_le _
    split
    · exact Nat.zero_le _
    split
    · exact Nat.zero_le _
    split
    · exact Nat.zero_le _
    · exact outS_lenL F m s _ _ _ (joinL_len _ _)
theorem outF_lenL (F : Fo) (m : Mt) (x y : Int) (s : List Nat) : (outF F m x y s).1.1.length ≤ 300 := by
  unfold outF
  split
  · exact outS_lenL F m s [] x y (Nat.zero_le _)
  · exact Nat.zero_le _
def hemL (x : St) (l : List Sg) : It := ⟨1, l, 0, 0, 0, 0, 0, 0, 0, { data := #[] }, zeroM, x.r, x.g, x.b, x.a, x.cl⟩
def noL (e : Int) : (It × Int × Int) × Int := ((zeroI, 0, 0), e)
def lettersS (x : St) (F : Fo) (s : List Nat) : (It × Int × Int) × Int :=
  if (mayS x && openB F) = false then noL 1
  else if (hereS x).2.2 ≠ 0 then noL (hereS x).2.2
  else if (mulB F.m (sizeM x.sz x.sz)).2 ≠ 0 then noL (mulB F.m (sizeM x.sz x.sz)).2
  else if (outF { F with m := (mulB F.m (sizeM x.sz x.sz)).1 } x.m (hereS x).1 (hereS x).2.1 s).2 ≠ 0 then noL (outF { F with m := (mulB F.m (sizeM x.sz x.sz)).1 } x.m (hereS x).1 (hereS x).2.1 s).2
  else ((hemL x (outF { F with m := (mulB F.m (sizeM x.sz x.sz)).1 } x.m (hereS x).1 (hereS x).2.1 s).1.1, (outF { F with m := (mulB F.m (sizeM x.sz x.sz)).1 } x.m (hereS x).1 (hereS x).2.1 s).1.2.1,
    (outF { F with m := (mulB F.m (sizeM x.sz x.sz)).1 } x.m (hereS x).1 (hereS x).2.1 s).1.2.2), 0)
end Go.Proofs.YtdfkbbcoolgfiaaGreat
