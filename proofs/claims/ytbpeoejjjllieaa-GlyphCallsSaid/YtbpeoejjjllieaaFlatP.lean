/- The plain side of layer 27: into how many lines, which. -/
import Derived.Test.YtbpeoejjjllieaaPlain
namespace Go.Proofs.Ytbpeoejjjllieaa

/-- Any number as one from 0 to n - 1. -/
def placeI (v n : Int) : Int := v % n
def sizeI (v : Int) : Int := max v (-v)
/-- The power of two whose square times 4 is at least so much. -/
def pw (far : Int) : Int :=
  if far ≤ 4 then 1 else if far ≤ 16 then 2 else if far ≤ 64 then 4 else if far ≤ 256 then 8 else if far ≤ 1024 then 16 else if far ≤ 4096 then 32 else if far ≤ 16384 then 64 else 128
def farI (x0 y0 cx cy x1 y1 : Int) : Int := max (sizeI (x0 - 2 * cx + x1)) (sizeI (y0 - 2 * cy + y1))
/-- Into how many straight pieces. -/
def cntI (e : Ed) : Int := if edOK e = false then 0 else if e.bent = false then 1 else pw (farI e.x0 e.y0 e.cx e.cy e.x1 e.y1)
/-- v by m (above 0), to the nearest, of two as near the even one. -/
def rnd (v m : Int) : Int := if m < 2 * (v % m) ∨ (2 * (v % m) = m ∧ (v / m) % 2 = 1) then v / m + 1 else v / m
/-- One coordinate of the k-th place of n. -/
def plc1 (a c b k n : Int) : Int := rnd (a * (n - k) * (n - k) + 2 * c * k * (n - k) + b * k * k) (n * n)
/-- The k-th place of n: the first one is the beginning itself. -/
def plcX (e : Ed) (n : Int) (k : Nat) : Int := if k = 0 then e.x0 else plc1 e.x0 e.cx e.x1 k n
def plcY (e : Ed) (n : Int) (k : Nat) : Int := if k = 0 then e.y0 else plc1 e.y0 e.cy e.y1 k n
/-- The first so many of the n lines. -/
def lnsTo (e : Ed) (n : Int) (k : Nat) : List Ed := (List.range k).map fun i => ⟨plcX e n i, plcY e n i, false, 0, 0, plcX e n (i + 1), plcY e n (i + 1)⟩
/-- The straight ones. -/
def lns (e : Ed) : List Ed := if edOK e = false then [] else if e.bent = false then [e] else lnsTo e (cntI e) (cntI e).toNat

theorem pw_cases (far : Int) : pw far = 1 ∨ pw far = 2 ∨ pw far = 4 ∨ pw far = 8 ∨ pw far = 16 ∨ pw far = 32 ∨ pw far = 64 ∨ pw far = 128 := by
  unfold pw; repeat (first | (split; · simp) | simp)
theorem pw_bd (far : Int) : 1 ≤ pw far ∧ pw far ≤ 128 := by rcases pw_cases far with h | h | h | h | h | h | h | h <;> omega

theorem edOK_iff {e : Ed} : edOK e = true ↔ (-8191 ≤ e.x0 ∧ e.x0 ≤ 8191) ∧ (-8191 ≤ e.y0 ∧ e.y0 ≤ 8191) ∧ (-8191 ≤ e.cx ∧ e.cx ≤ 8191) ∧ (-8191 ≤ e.cy ∧ e.cy ≤ 8191) ∧ (-8191 ≤ e.x1 ∧ e.x1 ≤ 8191) ∧ (-8191 ≤ e.y1 ∧ e.y1 ≤ 8191) ∧ (e.bent = true ∨ (e.cx = 0 ∧ e.cy = 0)) := by
  simp [edOK, nearB, co, and_assoc]

theorem edOK_mk {x0 y0 cx cy x1 y1 : Int} {bent : Bool} (h0 : -8191 ≤ x0 ∧ x0 ≤ 8191) (h1 : -8191 ≤ y0 ∧ y0 ≤ 8191) (h2 : -8191 ≤ cx ∧ cx ≤ 8191) (h3 : -8191 ≤ cy ∧ cy ≤ 8191) (h4 : -8191 ≤ x1 ∧ x1 ≤ 8191) (h5 : -8191 ≤ y1 ∧ y1 ≤ 8191)
    (h6 : bent = true ∨ (cx = 0 ∧ cy = 0)) : edOK ⟨x0, y0, bent, cx, cy, x1, y1⟩ = true := by
  rw [edOK_iff]; exact ⟨h0, h1, h2, h3, h4, h5, h6⟩

theorem farI_le {x0 y0 cx cy x1 y1 : Int} (h : edOK ⟨x0, y0, true, cx, cy, x1, y1⟩ = true) : 0 ≤ farI x0 y0 cx cy x1 y1 ∧ farI x0 y0 cx cy x1 y1 ≤ 32764 := by
  rw [edOK_iff] at h; simp only at h
  unfold farI sizeI
  omega

/-- How a doubling number comes to the power. -/
theorem pw_step {far n : Int} (hn : n = 1 ∨ n = 2 ∨ n = 4 ∨ n = 8 ∨ n = 16 ∨ n = 32 ∨ n = 64 ∨ n = 128) (hf : far ≤ 32764) (hle : n ≤ pw far) :
    (4 * n * n < far → (n * 2 = 1 ∨ n * 2 = 2 ∨ n * 2 = 4 ∨ n * 2 = 8 ∨ n * 2 = 16 ∨ n * 2 = 32 ∨ n * 2 = 64 ∨ n * 2 = 128) ∧ n * 2 ≤ pw far) ∧ (¬ 4 * n * n < far → n = pw far) := by
  unfold pw at *
  rcases hn with rfl | rfl | rfl | rfl | rfl | rfl | rfl | rfl <;> (constructor <;> intro h <;> (repeat' split) <;> omega)

theorem mul_bd {a b A B : Int} (ha : -A ≤ a ∧ a ≤ A) (hb : 0 ≤ b ∧ b ≤ B) : -(A * B) ≤ a * b ∧ a * b ≤ A * B := by
  have h0 : 0 ≤ A := by omega
  have h1 : A * b ≤ A * B := Int.mul_le_mul_of_nonneg_left hb.2 h0
  have h2 : a * b ≤ A * b := Int.mul_le_mul_of_nonneg_right ha.2 hb.1
  have h3 : (-A) * b ≤ a * b := Int.mul_le_mul_of_nonneg_right ha.1 hb.1
  rw [Int.neg_mul] at h3
  omega
theorem bd3 (a j k : Int) (ha : -8191 ≤ a ∧ a ≤ 8191) (hj : 0 ≤ j ∧ j ≤ 128) (hk : 0 ≤ k ∧ k ≤ 128) :
    (-1048448 ≤ a * j ∧ a * j ≤ 1048448) ∧ (-134201344 ≤ a * j * k ∧ a * j * k ≤ 134201344) := by
  have h1 := mul_bd (A := 8191) (B := 128) ha hj
  have h2 := mul_bd (A := 1048448) (B := 128) (a := a * j) (by omega) hk
  omega

theorem rnd_bd (v m : Int) (hm : 0 < m) : 2 * (m * rnd v m) ≤ 2 * v + m ∧ 2 * v - m ≤ 2 * (m * rnd v m) := by
  have h1 := Int.mul_ediv_add_emod v m
  have h2 := Int.emod_nonneg v (by omega : m ≠ 0)
  have h3 := Int.emod_lt_of_pos v hm
  unfold rnd
  split
  · rename_i h
    rw [Int.mul_add, Int.mul_one]
    rcases h with h | ⟨h, _⟩ <;> omega
  · rename_i h
    have : ¬ m < 2 * (v % m) := fun hh => h (.inl hh)
    omega
/-- What is between two whole numbers is so when rounded. -/
theorem rnd_between (v m a b : Int) (hm : 0 < m) (ha : a * m ≤ v) (hb : v ≤ b * m) : a ≤ rnd v m ∧ rnd v m ≤ b := by
  have h1 := rnd_bd v m hm
  constructor
  · apply Decidable.byContradiction; intro h
    have : m * rnd v m ≤ m * (a - 1) := Int.mul_le_mul_of_nonneg_left (by omega) (by omega)
    rw [Int.mul_sub, Int.mul_one, Int.mul_comm m a] at this; omega
  · apply Decidable.byContradiction; intro h
    have : m * (b + 1) ≤ m * rnd v m := Int.mul_le_mul_of_nonneg_left (by omega) (by omega)
    rw [Int.mul_add, Int.mul_one, Int.mul_comm m b] at this; omega
theorem rnd_exact (a m : Int) (hm : 0 < m) : rnd (a * m) m = a := by
  have := rnd_between (a * m) m a a hm (Int.le_refl _) (Int.le_refl _); omega

theorem cntI_yes {e : Ed} (h : edOK e = true) (hb : e.bent = true) : cntI e = pw (farI e.x0 e.y0 e.cx e.cy e.x1 e.y1) := by simp [cntI, h, hb]
theorem cntI_flat {e : Ed} (h : edOK e = true) (hb : e.bent = false) : cntI e = 1 := by simp [cntI, h, hb]
theorem cntI_no {e : Ed} (h : edOK e = false) : cntI e = 0 := by simp [cntI, h]
theorem cntI_bd {e : Ed} (h : edOK e = true) (hb : e.bent = true) : 1 ≤ cntI e ∧ cntI e ≤ 128 := by rw [cntI_yes h hb]; exact pw_bd _
theorem lns_yes {e : Ed} (h : edOK e = true) (hb : e.bent = true) : lns e = lnsTo e (cntI e) (cntI e).toNat := by simp [lns, h, hb]
theorem lns_flat {e : Ed} (h : edOK e = true) (hb : e.bent = false) : lns e = [e] := by simp [lns, h, hb]
theorem lns_no {e : Ed} (h : edOK e = false) : lns e = [] := by simp [lns, h]
theorem lns_len {e : Ed} : (lns e).length = (cntI e).toNat := by
  cases h : edOK e
  · rw [lns_no h, cntI_no h]; rfl
  · cases hb : e.bent
    · rw [lns_flat h hb, cntI_flat h hb]; rfl
    · rw [lns_yes h hb]; simp [lnsTo]
theorem lnsTo_snoc (e : Ed) (n : Int) (k : Nat) : lnsTo e n (k + 1) = lnsTo e n k ++ [⟨plcX e n k, plcY e n k, false, 0, 0, plcX e n (k + 1), plcY e n (k + 1)⟩] := by
  simp [lnsTo, List.range_succ]
theorem lnsTo_len (e : Ed) (n : Int) (k : Nat) : (lnsTo e n k).length = k := by simp [lnsTo]

end Go.Proofs.Ytbpeoejjjllieaa
