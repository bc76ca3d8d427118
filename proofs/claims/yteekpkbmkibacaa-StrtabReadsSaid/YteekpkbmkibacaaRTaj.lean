import Derived.Test.YteekpkbmkibacaaRTai
import Derived.Laws.BitsAllLaws
/-! Readers: what they come to. -/
namespace Go.Proofs.Try
set_option linter.unusedSimpArgs false
set_option linter.unusedVariables false
open Go Go.Proofs.Ev
structure Rd where
  b : List UInt8
  e : Int
def Rd.fail (r : Rd) (c : Int) : Rd := if r.e = 0 then ⟨[], c⟩ else r
/-- How many bytes of 128 or more stand first, f at the most. -/
def cnt : Nat → List UInt8 → Nat
  | 0, _ => 0
  | _, [] => 0
  | f + 1, x :: l => if x.toNat ≥ 128 then cnt f l + 1 else 0
def vl : List UInt8 → Nat
  | [] => 0
  | x :: l => x.toNat % 128 + 128 * vl l
/-- A number by sevens, n bytes of which are read already and are worth v; f more of 128 or more may be. -/
def varAt (f n v : Nat) (b : List UInt8) (most : Nat) : Nat × Rd :=
  if cnt f b < f ∧ b.length ≤ cnt f b then (0, ⟨[], 1⟩)
  else if cnt f b = f ∨ (cnt f b + 1 = f ∧ (b.getD (cnt f b) 0).toNat > 1) ∨ (n + cnt f b > 0 ∧ (b.getD (cnt f b) 0).toNat = 0) then (0, ⟨[], 2⟩)
  else if v + vl (b.take (cnt f b + 1)) * 2 ^ (7 * n) > most then (0, ⟨[], 4⟩)
  else (v + vl (b.take (cnt f b + 1)) * 2 ^ (7 * n), ⟨b.drop (cnt f b + 1), 0⟩)
def Rd.var (r : Rd) (most : Nat) : Nat × Rd := if r.e ≠ 0 then (0, r) else varAt 10 0 0 r.b most
def Rd.raw (r : Rd) (n : Nat) : List UInt8 × Rd := if r.e ≠ 0 then ([], r) else if r.b.length < n then ([], ⟨[], 1⟩) else (r.b.take n, ⟨r.b.drop n, 0⟩)
def Rd.text (r : Rd) (most : Nat) : ByteArray × Rd := (bs ((r.var most).2.raw (r.var most).1).1, ((r.var most).2.raw (r.var most).1).2)
/-! The program's way through a number. -/
def pvV (n : Nat) (x : UInt8) (v : Nat) : Nat := v ||| (x.toNat % 128 * 2 ^ (7 * n) % 18446744073709551616)
def pvGo : Nat → Nat → UInt8 → Nat → Rd → Nat × UInt8 × Nat × Rd
  | 0, n, x, v, r => (n, x, v, r)
  | f + 1, n, x, v, r => if x.toNat ≥ 128 ∧ n < 10 ∧ r.e = 0 then pvGo f (n + 1) ((r.raw 1).1.headD 0) (pvV n ((r.raw 1).1.headD 0) v) (r.raw 1).2 else (n, x, v, r)
def pvEnd (z : Nat × UInt8 × Nat × Rd) (most : Nat) : Nat × Rd :=
  if z.2.2.2.e ≠ 0 then (0, z.2.2.2) else if z.2.1.toNat ≥ 128 ∨ (z.1 = 10 ∧ z.2.1.toNat > 1) ∨ (z.1 > 1 ∧ z.2.1.toNat = 0) then (0, ⟨[], 2⟩)
  else if z.2.2.1 > most then (0, ⟨[], 4⟩) else (z.2.2.1, z.2.2.2)
theorem pvV_add {n : Nat} {x : UInt8} {v : Nat} (hv : v < 2 ^ (7 * n)) (h : x.toNat % 128 * 2 ^ (7 * n) < 18446744073709551616) : pvV n x v = v + x.toNat % 128 * 2 ^ (7 * n) := by
  rw [pvV, Nat.mod_eq_of_lt h, Nat.or_comm, Nat.mul_comm, ← Nat.two_pow_add_eq_or_of_lt hv, Nat.add_comm]
theorem pow_small {n : Nat} (h : n ≤ 8) (a : Nat) (ha : a < 128) : a * 2 ^ (7 * n) < 2 ^ (7 * (n + 1)) ∧ 2 ^ (7 * (n + 1)) ≤ 9223372036854775808 := by
  have h2 : 2 ^ (7 * (n + 1)) ≤ 2 ^ 63 := Nat.pow_le_pow_right (by decide) (by omega)
  refine ⟨?_, h2⟩
  rw [show 7 * (n + 1) = 7 + 7 * n by omega, Nat.pow_add]
  exact Nat.mul_lt_mul_of_pos_right ha (Nat.pow_pos (by decide))
theorem varAt_big (f n v : Nat) (y : UInt8) (b : List UInt8) (most : Nat) (hy : y.toNat ≥ 128) : varAt (f + 1) n v (y :: b) most = varAt f (n + 1) (v + y.toNat % 128 * 2 ^ (7 * n)) b most := by
  have hc : cnt (f + 1) (y :: b) = cnt f b + 1 := by rw [cnt, if_pos hy]
  have hp : 2 ^ (7 * (n + 1)) = 128 * 2 ^ (7 * n) := by rw [show 7 * (n + 1) = 7 + 7 * n by omega, Nat.pow_add]
  have hw : v + vl ((y :: b).take (cnt f b + 1 + 1)) * 2 ^ (7 * n) = v + y.toNat % 128 * 2 ^ (7 * n) + vl (b.take (cnt f b + 1)) * 2 ^ (7 * (n + 1)) := by
    rw [List.take_succ_cons, vl, hp, Nat.add_mul, Nat.mul_comm 128 (vl _), Nat.mul_assoc, Nat.add_assoc]
  unfold varAt
  rw [hc, hw]
  simp only [List.getD_cons_succ, List.length_cons, List.drop_succ_cons]
  have e4 : n + (cnt f b + 1) = n + 1 + cnt f b := by omega
  simp only [Nat.add_lt_add_iff_right, Nat.add_le_add_iff_right, Nat.add_right_cancel_iff, e4]
theorem varAt_small (f n v : Nat) (y : UInt8) (b : List UInt8) (most : Nat) (hy : ¬ y.toNat ≥ 128) : varAt (f + 1) n v (y :: b) most =
    if (f = 0 ∧ y.toNat > 1) ∨ (n > 0 ∧ y.toNat = 0) then (0, ⟨[], 2⟩) else if v + y.toNat % 128 * 2 ^ (7 * n) > most then (0, ⟨[], 4⟩) else (v + y.toNat % 128 * 2 ^ (7 * n), ⟨b, 0⟩) := by
  have hc : cnt (f + 1) (y :: b) = 0 := by rw [cnt, if_neg hy]
  have hv : vl ((y :: b).take (0 + 1)) = y.toNat % 128 := by simp [vl]
  unfold varAt
  rw [hc, hv]
  have h1 : ¬ (0 < f + 1 ∧ (y :: b).length ≤ 0) := by simp
  have h2 : (0 = f + 1 ∨ 0 + 1 = f + 1 ∧ ((y :: b).getD 0 0).toNat > 1 ∨ n + 0 > 0 ∧ ((y :: b).getD 0 0).toNat = 0) ↔ ((f = 0 ∧ y.toNat > 1) ∨ (n > 0 ∧ y.toNat = 0)) := by
    simp only [List.getD_cons_zero, Nat.add_zero]
    constructor
    · rintro (h | ⟨h3, h4⟩ | h)
      · omega
      · exact .inl ⟨by omega, h4⟩
      · exact .inr h
    · rintro (⟨h3, h4⟩ | h)
      · exact .inr (.inl ⟨by omega, h4⟩)
      · exact .inr (.inr h)
  rw [if_neg h1]
  by_cases h : (f = 0 ∧ y.toNat > 1) ∨ (n > 0 ∧ y.toNat = 0)
  · rw [if_pos (h2.2 h), if_pos h]
  · rw [if_neg (fun g => h (h2.1 g)), if_neg h]
    rfl
theorem pvEnd_small (n w : Nat) (y : UInt8) (b : List UInt8) (most : Nat) (hy : ¬ y.toNat ≥ 128) : pvEnd (n, y, w, ⟨b, 0⟩) most = if (n = 10 ∧ y.toNat > 1) ∨ (n > 1 ∧ y.toNat = 0) then (0, ⟨[], 2⟩) else if w > most then (0, ⟨[], 4⟩) else (w, ⟨b, 0⟩) := by
  unfold pvEnd
  simp only [ne_eq, not_true_eq_false, if_false, hy, false_or]
theorem pv_eq (most : Nat) : ∀ (f n : Nat) (b : List UInt8) (x : UInt8) (v : Nat), f + n = 10 → x.toNat ≥ 128 → (f = 0 ∨ v < 2 ^ (7 * n)) → pvEnd (pvGo (f + 1) n x v ⟨b, 0⟩) most = varAt f n v b most
  | 0, n, b, x, v, hf, hx, _ => by
    have hn : ¬ n < 10 := by omega
    rw [pvGo, if_neg (by simp [hn])]
    simp [pvEnd, varAt, cnt, hx]
  | f + 1, n, [], x, v, hf, hx, _ => by
    have hn : n < 10 := by omega
    rw [pvGo, if_pos ⟨hx, hn, rfl⟩]
    have hr : (Rd.mk [] 0).raw 1 = ([], ⟨[], 1⟩) := by simp [Rd.raw]
    rw [hr]
    cases f <;> simp [pvGo, pvEnd, varAt, cnt]
  | f + 1, n, y :: b, x, v, hf, hx, hv0 => by
    have hn : n < 10 := by omega
    have hv : v < 2 ^ (7 * n) := by
      rcases hv0 with h | h
      · omega
      · exact h
    rw [pvGo, if_pos ⟨hx, hn, rfl⟩]
    have hr : (Rd.mk (y :: b) 0).raw 1 = ([y], ⟨b, 0⟩) := by simp [Rd.raw]
    rw [hr]
    simp only [List.headD_cons]
    have hm : y.toNat % 128 < 128 := Nat.mod_lt _ (by decide)
    by_cases hy : y.toNat ≥ 128
    · rw [varAt_big f n v y b most hy]
      cases f with
      | zero =>
        rw [pv_eq most 0 (n + 1) b y _ (by omega) hy (.inl rfl)]
        simp [varAt, cnt]
      | succ f =>
        obtain ⟨h1, h2⟩ := pow_small (show n ≤ 8 by omega) _ hm
        rw [pvV_add hv (by omega)]
        refine pv_eq most (f + 1) (n + 1) b y _ (by omega) hy (.inr ?_)
        have h3 : 2 ^ (7 * (n + 1)) = 128 * 2 ^ (7 * n) := by rw [show 7 * (n + 1) = 7 + 7 * n by omega, Nat.pow_add]
        have h4 : (y.toNat % 128 + 1) * 2 ^ (7 * n) ≤ 128 * 2 ^ (7 * n) := Nat.mul_le_mul_right _ (by omega)
        rw [Nat.add_mul, Nat.one_mul] at h4
        omega
    · have hstop : pvGo (f + 1) (n + 1) y (pvV n y v) ⟨b, 0⟩ = (n + 1, y, pvV n y v, ⟨b, 0⟩) := by rw [pvGo, if_neg (by simp [hy])]
      rw [hstop]
      rw [pvEnd_small _ _ _ _ _ hy, varAt_small f n v y b most hy]
      have hmod : y.toNat % 128 = y.toNat := Nat.mod_eq_of_lt (by omega)
      by_cases hbad : (f = 0 ∧ y.toNat > 1) ∨ (n > 0 ∧ y.toNat = 0)
      · rw [if_pos hbad, if_pos]
        rcases hbad with ⟨h1, h2⟩ | ⟨h1, h2⟩
        · exact .inl ⟨by omega, h2⟩
        · exact .inr ⟨by omega, h2⟩
      · rw [if_neg hbad, if_neg]
        · have hval : pvV n y v = v + y.toNat % 128 * 2 ^ (7 * n) := by
            refine pvV_add hv ?_
            by_cases h9 : n ≤ 8
            · obtain ⟨h1, h2⟩ := pow_small h9 _ hm
              omega
            · have e9 : n = 9 := by omega
              have e0 : f = 0 := by omega
              have : y.toNat ≤ 1 := by
                rcases Nat.lt_or_ge 1 y.toNat with h | h
                · exact absurd (Or.inl ⟨e0, h⟩) hbad
                · exact h
              rw [hmod, e9]
              have h5 : y.toNat * 2 ^ (7 * 9) ≤ 1 * 2 ^ (7 * 9) := Nat.mul_le_mul_right _ this
              have h6 : (2 : Nat) ^ (7 * 9) = 9223372036854775808 := by decide
              omega
          rw [hval]
        · rintro (⟨h1, h2⟩ | ⟨h1, h2⟩)
          · exact hbad (.inl ⟨by omega, h2⟩)
          · exact hbad (.inr ⟨by omega, h2⟩)
theorem var_pv (r : Rd) (most : Nat) : pvEnd (pvGo 11 0 128 0 r) most = r.var most := by
  obtain ⟨b, e⟩ := r
  unfold Rd.var
  by_cases he : e = 0
  · subst he
    rw [if_neg (by simp)]
    exact pv_eq most 10 0 b 128 0 rfl (by decide) (.inr (by decide))
  · rw [if_pos he, pvGo, if_neg (by simp [he])]
    simp [pvEnd, he]
end Go.Proofs.Try

