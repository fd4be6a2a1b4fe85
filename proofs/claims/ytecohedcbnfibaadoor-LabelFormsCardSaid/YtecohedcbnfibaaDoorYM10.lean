/- Plain laws: the document's sum, bit by bit, is the program's, four bits at a time; sealed sectors are the same. -/
import Derived.Test.YtecohedcbnfibaaDoorYM1
namespace Go.Iw
open Go.Iv
set_option linter.unusedVariables false
set_option linter.unusedSimpArgs false
set_option maxRecDepth 100000

theorem sb_nat32 (a : Nat) (h : a < 4294967296) : (BitVec.ofInt 32 (a : Int)).toNat = a := by
  rw [BitVec.ofInt_natCast, BitVec.toNat_ofNat]; exact Nat.mod_eq_of_lt (by omega)
theorem wrap_u32_nat (a : Nat) (h : a < 4294967296) : IntKind.wrap .u32 (a : Int) = (a : Int) := by rw [IntKind.wrap_u32]; omega
theorem sbits_xor32 (a b : Nat) (ha : a < 4294967296) (hb : b < 4294967296) : sbits .xor .u32 (a : Int) (b : Int) = ((a ^^^ b : Nat) : Int) := by
  have e : sbits .xor .u32 (a : Int) (b : Int) = IntKind.wrap .u32 ((BitVec.ofInt 32 (a : Int) ^^^ BitVec.ofInt 32 (b : Int)).toNat : Int) := rfl
  rw [e, BitVec.toNat_xor, sb_nat32 a ha, sb_nat32 b hb, wrap_u32_nat _ (Nat.xor_lt_two_pow (n := 32) ha hb)]
theorem sbits_and32 (a b : Nat) (ha : a < 4294967296) (hb : b < 4294967296) : sbits .and .u32 (a : Int) (b : Int) = ((a &&& b : Nat) : Int) := by
  have e : sbits .and .u32 (a : Int) (b : Int) = IntKind.wrap .u32 ((BitVec.ofInt 32 (a : Int) &&& BitVec.ofInt 32 (b : Int)).toNat : Int) := rfl
  rw [e, BitVec.toNat_and, sb_nat32 a ha, sb_nat32 b hb, wrap_u32_nat _ (Nat.and_lt_two_pow (n := 32) _ hb)]

def stB (r b : Nat) : Nat := if r % 2 ≠ b then (r / 2) ^^^ 2197175160 else r / 2
theorem stB_lt {r b : Nat} (h : r < 4294967296) : stB r b < 4294967296 := by
  unfold stB
  split
  · exact Nat.xor_lt_two_pow (n := 32) (by omega) (by decide)
  · omega
theorem xor_even (a c : Nat) : (a * 2 ^^^ c) % 2 = c % 2 := by
  have h := Nat.testBit_xor (a * 2) c 0
  rw [Nat.testBit_zero, Nat.testBit_zero, Nat.testBit_zero] at h
  have e : a * 2 % 2 = 0 := by omega
  rw [e] at h
  have h1 := Nat.mod_two_eq_zero_or_one (a * 2 ^^^ c)
  have h2 := Nat.mod_two_eq_zero_or_one c
  rcases h1 with h1 | h1 <;> rcases h2 with h2 | h2 <;> rw [h1, h2] at h ⊢ <;> simp at h
theorem stB_shift (q k c b : Nat) : stB ((q * 2 ^ (k + 1)) ^^^ c) b = (q * 2 ^ k) ^^^ stB c b := by
  have h2 : q * 2 ^ (k + 1) = (q * 2 ^ k) * 2 := by rw [Nat.pow_succ, Nat.mul_assoc]
  have hd : (q * 2 ^ (k + 1) ^^^ c) / 2 = (q * 2 ^ k) ^^^ (c / 2) := by
    rw [Nat.xor_div_two, h2, Nat.mul_div_cancel _ (by decide)]
  have hm : (q * 2 ^ (k + 1) ^^^ c) % 2 = c % 2 := by
    rw [h2]; exact xor_even _ _
  unfold stB
  rw [hd, hm]
  split
  · rw [Nat.xor_assoc]
  · rfl
def linesN : List Nat := [0, 274646895, 549293790, 820201905, 1098587580, 1361435347, 1640403810, 1905808397, 2197175160, 2460548119, 2722870694, 2987750089, 3280807620, 3553878443, 3811616794, 4084100981]
theorem lines_nat : lines = linesN.map fun n => ((n : Nat) : Int) := rfl
def st4 (r x : Nat) : Nat := stB (stB (stB (stB r (x % 2)) (x / 2 % 2)) (x / 4 % 2)) (x / 8 % 2)
theorem st4_small : ∀ n, n < 16 → ∀ x, x < 16 → st4 n x = linesN.getD (n ^^^ x) 0 := by decide +kernel
theorem split16 (r : Nat) : r = (r / 16 * 2 ^ 4) ^^^ (r % 16) := by
  have h : r % 16 < 2 ^ 4 := Nat.mod_lt _ (by decide)
  have := Nat.two_pow_add_eq_or_of_lt h (r / 16)
  have hx : (r / 16 * 2 ^ 4) ^^^ (r % 16) = (2 ^ 4 * (r / 16)) ||| (r % 16) := by
    rw [Nat.mul_comm]
    apply Nat.eq_of_testBit_eq
    intro i
    rw [Nat.testBit_xor, Nat.testBit_or, Nat.testBit_two_pow_mul]
    by_cases hi : i < 4
    · have : ¬ i ≥ 4 := by omega
      simp [this]
    · have h2 : (r % 16).testBit i = false := Nat.testBit_lt_two_pow (Nat.lt_of_lt_of_le h (Nat.pow_le_pow_right (by decide) (by omega)))
      rw [h2]; simp
  rw [hx, ← this]
  omega
theorem st4_nib (r x : Nat) : st4 r x = (r / 16) ^^^ linesN.getD ((r % 16) ^^^ (x % 16)) 0 := by
  have e : st4 r x = st4 r (x % 16) := by
    unfold st4
    have a1 : x % 16 % 2 = x % 2 := by omega
    have a2 : x % 16 / 2 % 2 = x / 2 % 2 := by omega
    have a3 : x % 16 / 4 % 2 = x / 4 % 2 := by omega
    have a4 : x % 16 / 8 % 2 = x / 8 % 2 := by omega
    rw [a1, a2, a3, a4]
  rw [e, ← st4_small (r % 16) (Nat.mod_lt _ (by decide)) (x % 16) (Nat.mod_lt _ (by decide))]
  generalize x % 16 = y
  unfold st4
  conv => lhs; rw [split16 r]
  rw [stB_shift, stB_shift, stB_shift, stB_shift, Nat.pow_zero, Nat.mul_one]
theorem linesN_lt (i : Nat) (h : i < 16) : linesN.getD i 0 < 4294967296 := by
  have : ∀ i, i < 16 → linesN.getD i 0 < 4294967296 := by decide
  exact this i h
theorem xor16 (a b : Nat) (ha : a < 16) (hb : b < 16) : a ^^^ b < 16 := Nat.xor_lt_two_pow (n := 4) ha hb
theorem crcN_nat (r x : Nat) (hr : r < 4294967296) (hx : x < 4294967296) : crcN (r : Int) (x : Int) = ((st4 r x : Nat) : Int) := by
  have hf : Int.fdiv (r : Int) (HPow.hPow (2 : Int) (Int.toNat (4 : Int))) = ((r / 16 : Nat) : Int) := by
    rw [show (HPow.hPow (2 : Int) (Int.toNat (4 : Int))) = ((16 : Nat) : Int) from rfl, Int.fdiv_eq_ediv_of_nonneg _ (by omega)]; rfl
  have hand : (r ^^^ x) &&& 15 = (r % 16) ^^^ (x % 16) := by
    rw [Nat.and_xor_distrib_right]
    have a (n : Nat) : n &&& 15 = n % 16 := Nat.and_two_pow_sub_one_eq_mod n 4
    rw [a, a]
  have hi := xor16 (r % 16) (x % 16) (Nat.mod_lt _ (by decide)) (Nat.mod_lt _ (by decide))
  unfold crcN
  rw [sbits_xor32 r x hr hx, show (15 : Int) = ((15 : Nat) : Int) from rfl, sbits_and32 _ 15 (Nat.xor_lt_two_pow (n := 32) hr hx) (by decide), hand, Int.toNat_natCast, hf]
  have hl : ixN (0 : Int) lines ((r % 16) ^^^ (x % 16)) = ((linesN.getD ((r % 16) ^^^ (x % 16)) 0 : Nat) : Int) := by
    unfold ixN
    rw [lines_nat, List.getD_eq_getElem?_getD, List.getElem?_map, List.getD_eq_getElem?_getD, List.getElem?_eq_getElem (show (r % 16) ^^^ (x % 16) < linesN.length from hi)]
    rfl
  rw [hl, sbits_xor32 _ _ (linesN_lt _ hi) (by omega), st4_nib, Nat.xor_comm]
theorem st4_lt {r x : Nat} (h : r < 4294967296) : st4 r x < 4294967296 := stB_lt (stB_lt (stB_lt (stB_lt h)))
def st8 (r b : Nat) : Nat := st4 (st4 r b) (b / 16)
theorem st8_lt {r x : Nat} (h : r < 4294967296) : st8 r x < 4294967296 := st4_lt (st4_lt h)
theorem crcStep_nat (r b : Nat) (hr : r < 4294967296) (hb : b ≤ 255) : crcStep (r : Int) (b : Int) = ((st8 r b : Nat) : Int) := by
  have hf : Int.fdiv (b : Int) (HPow.hPow (2 : Int) (Int.toNat (4 : Int))) = ((b / 16 : Nat) : Int) := by
    rw [show (HPow.hPow (2 : Int) (Int.toNat (4 : Int))) = ((16 : Nat) : Int) from rfl, Int.fdiv_eq_ediv_of_nonneg _ (by omega)]; rfl
  unfold crcStep
  rw [hf, wrap_u32_nat b (by omega), wrap_u32_nat (b / 16) (by omega), crcN_nat r b hr (by omega), crcN_nat _ _ (st4_lt hr) (by omega)]
  rfl
def crcF (p : List Int) : Nat := p.foldl (fun r b => st8 r b.toNat) 4294967295
theorem foldl_nat : ∀ (p : List Int) (r : Nat), Byt p → r < 4294967296 → p.foldl crcStep (r : Int) = ((p.foldl (fun r b => st8 r b.toNat) r : Nat) : Int) ∧ p.foldl (fun r b => st8 r b.toNat) r < 4294967296
  | [], r, _, h => ⟨rfl, h⟩
  | b :: t, r, hb, h => by
    obtain ⟨n, rfl, hn⟩ := byt_nat (hb b (by simp))
    show t.foldl crcStep (crcStep (r : Int) (n : Int)) = ((t.foldl _ (st8 r n) : Nat) : Int) ∧ t.foldl _ (st8 r n) < 4294967296
    rw [crcStep_nat r n h hn]
    exact foldl_nat t _ (fun x hx => hb x (List.mem_cons_of_mem _ hx)) (st8_lt h)
theorem not32 (r : Nat) (h : r < 4294967296) : 4294967295 ^^^ r = 4294967295 - r := by
  have e : 4294967295 - r = 2 ^ 32 - (r + 1) := by omega
  rw [e]
  apply Nat.eq_of_testBit_eq
  intro i
  rw [Nat.testBit_two_pow_sub_succ (by omega), Nat.testBit_xor]
  have : (4294967295 : Nat) = 2 ^ 32 - 1 := rfl
  rw [this, Nat.testBit_two_pow_sub_one]
  by_cases hi : i < 32
  · simp [hi]
  · have : r.testBit i = false := Nat.testBit_lt_two_pow (Nat.lt_of_lt_of_le h (by rw [show (4294967296 : Nat) = 2 ^ 32 from rfl]; exact Nat.pow_le_pow_right (by decide) (by omega)))
    simp [hi, this]
theorem crcOf_nat {p : List Int} (h : Byt p) : crcOf p = ((4294967295 - crcF p : Nat) : Int) ∧ crcF p < 4294967296 := by
  obtain ⟨a, b⟩ := foldl_nat p 4294967295 h (by decide)
  refine ⟨?_, b⟩
  unfold crcOf
  rw [show (4294967295 : Int) = ((4294967295 : Nat) : Int) from rfl, a]
  show sbits .xor .u32 (4294967295 : Int) _ = _
  rw [show (4294967295 : Int) = ((4294967295 : Nat) : Int) from rfl, sbits_xor32 _ _ (by decide) b, not32 _ b]
  rfl

/-! The document's. -/
def bitR (p : List Int) : Nat → Nat
  | 0 => 4294967295
  | i + 1 => stB (bitR p i) ((p.getD (i / 8) 0).toNat / 2 ^ (i % 8) % 2)
theorem bitR_lt (p : List Int) : ∀ i, bitR p i < 4294967296
  | 0 => by show (4294967295 : Nat) < 4294967296; decide
  | i + 1 => stB_lt (bitR_lt p i)
theorem bitR_8 (p : List Int) (k : Nat) : bitR p (8 * k + 8) = st8 (bitR p (8 * k)) (p.getD k 0).toNat := by
  have a (t : Nat) (h : t < 8) : (8 * k + t) / 8 = k := by omega
  have b (t : Nat) (h : t < 8) : (8 * k + t) % 8 = t := by omega
  generalize hx : (p.getD k 0).toNat = x
  have s (t : Nat) (h : t < 8) : bitR p (8 * k + t + 1) = stB (bitR p (8 * k + t)) (x / 2 ^ t % 2) := by
    show stB (bitR p (8 * k + t)) ((p.getD ((8 * k + t) / 8) 0).toNat / 2 ^ ((8 * k + t) % 8) % 2) = _
    rw [a t h, b t h, hx]
  rw [show 8 * k + 8 = 8 * k + 7 + 1 from rfl, s 7 (by decide), s 6 (by decide), s 5 (by decide), s 4 (by decide), s 3 (by decide), s 2 (by decide), s 1 (by decide)]
  rw [show 8 * k + 0 + 1 = 8 * k + 1 from rfl] at *
  rw [show bitR p (8 * k + 1) = stB (bitR p (8 * k)) (x / 2 ^ 0 % 2) from s 0 (by decide)]
  unfold st8 st4
  have c4 : x / 16 % 2 = x / 2 ^ 4 % 2 := rfl
  have c5 : x / 16 / 2 % 2 = x / 2 ^ 5 % 2 := by rw [Nat.div_div_eq_div_mul]
  have c6 : x / 16 / 4 % 2 = x / 2 ^ 6 % 2 := by rw [Nat.div_div_eq_div_mul]
  have c7 : x / 16 / 8 % 2 = x / 2 ^ 7 % 2 := by rw [Nat.div_div_eq_div_mul]
  rw [c4, c5, c6, c7, Nat.pow_zero, Nat.div_one]
theorem bitR_all (p : List Int) : ∀ k, k ≤ p.length → bitR p (8 * k) = crcF (p.take k)
  | 0, _ => rfl
  | k + 1, h => by
    have hk : k < p.length := by omega
    rw [show 8 * (k + 1) = 8 * k + 8 from by omega, bitR_8, bitR_all p k (by omega), List.take_succ_eq_append_getElem hk]
    unfold crcF
    rw [List.foldl_append, List.getD_eq_getElem?_getD, List.getElem?_eq_getElem hk]
    rfl
theorem Sum_loop (p : List Int) (hp : Byt p) (hl : p.length < 1000000) (K : Int → Prop) (h : K ((bitR p (8 * p.length) : Nat) : Int)) : ∀ (m i : Nat), i + m = 8 * p.length → r01.Sum.l3 K (m + 1) p ((bitR p i : Nat) : Int) (i : Int) := by
  intro m
  have e8 : IntKind.wrap .i64 ((8 : Int) * (((List.length p) : Nat) : Int)) = ((8 * p.length : Nat) : Int) := by
    rw [wrap_small (by omega) (by omega)]; omega
  induction m with
  | zero =>
    intro i hi
    have : i = 8 * p.length := by omega
    subst this
    rw [r01.Sum.l3, e8]
    rw [lt_false (Nat.le_refl _), br_false]
    exact h
  | succ m ih =>
    intro i hi
    rw [r01.Sum.l3, e8]
    rw [lt_true (show i < 8 * p.length by omega), br_true]
    have ed : IntKind.wrap .i64 (Int.tdiv (i : Int) (8 : Int)) = ((i / 8 : Nat) : Int) := by
      rw [show Int.tdiv (i : Int) (8 : Int) = ((i / 8 : Nat) : Int) from rfl, wrap_small (by omega) (by omega)]
    have em : Int.tmod (i : Int) (8 : Int) = ((i % 8 : Nat) : Int) := rfl
    have hi8 : i / 8 < p.length := by omega
    rw [ed, em, ix_nat _ _ _ hi8, Int.toNat_natCast]
    obtain ⟨b, hb, hb2⟩ := byt_nat (hp p[i / 8] (List.getElem_mem hi8))
    have hbit : Int.tmod (IntKind.wrap .u32 (Int.fdiv p[i / 8] (HPow.hPow (2 : Int) (i % 8)))) (2 : Int) = ((b / 2 ^ (i % 8) % 2 : Nat) : Int) := by
      have : (HPow.hPow (2 : Int) (i % 8)) = ((2 ^ (i % 8) : Nat) : Int) := by rw [Int.natCast_pow]; rfl
      rw [hb, this, Int.fdiv_eq_ediv_of_nonneg _ (Int.natCast_nonneg _)]
      have e1 : (b : Int) / ((2 ^ (i % 8) : Nat) : Int) = ((b / 2 ^ (i % 8) : Nat) : Int) := rfl
      have hle : b / 2 ^ (i % 8) ≤ b := Nat.div_le_self _ _
      rw [e1, wrap_u32_nat _ (by omega)]
      rfl
    have hr := bitR_lt p i
    have hpar : Int.tmod ((bitR p i : Nat) : Int) (2 : Int) = ((bitR p i % 2 : Nat) : Int) := rfl
    have hhalf : IntKind.wrap .u32 (Int.tdiv ((bitR p i : Nat) : Int) (2 : Int)) = ((bitR p i / 2 : Nat) : Int) := by
      rw [show Int.tdiv ((bitR p i : Nat) : Int) (2 : Int) = ((bitR p i / 2 : Nat) : Int) from rfl, wrap_u32_nat _ (by omega)]
    have hg : p.getD (i / 8) 0 = p[i / 8] := by rw [List.getD_eq_getElem?_getD, List.getElem?_eq_getElem hi8]; rfl
    have hs : bitR p (i + 1) = stB (bitR p i) (b / 2 ^ (i % 8) % 2) := by
      show stB (bitR p i) ((p.getD (i / 8) 0).toNat / 2 ^ (i % 8) % 2) = _
      rw [hg, hb]; rfl
    rw [hbit, hpar, hhalf]
    refine ⟨by decide, ⟨by omega, by omega⟩, by decide, ⟨by omega, by show ((i % 8 : Nat) : Int) ≤ ((8 : Nat) : Int); omega⟩, by decide, by decide, ?_⟩
    unfold r01.Sum.j67
    rw [wrap_succ i (by omega)]
    have ih' := ih (i + 1) (by omega)
    rw [hs] at ih'
    unfold stB at ih'
    by_cases hc : bitR p i % 2 ≠ b / 2 ^ (i % 8) % 2
    · have : (((bitR p i % 2 : Nat) : Int) != ((b / 2 ^ (i % 8) % 2 : Nat) : Int)) = true := by rw [bne_iff_ne]; omega
      rw [this, br_true]
      rw [if_pos hc] at ih'
      refine ⟨by decide, ?_⟩
      rw [show (2197175160 : Int) = ((2197175160 : Nat) : Int) from rfl, sbits_xor32 _ _ (by omega) (by decide)]
      exact ih'
    · have : (((bitR p i % 2 : Nat) : Int) != ((b / 2 ^ (i % 8) % 2 : Nat) : Int)) = false := by
        rw [Bool.eq_false_iff]; intro e; rw [bne_iff_ne] at e; omega
      rw [this, br_false]
      rw [if_neg hc] at ih'
      exact ⟨by decide, ih'⟩
theorem r01_Sum {p : List Int} (hp : Byt p) (hl : p.length < 1000000) {K : Int → Prop} (h : K (crcOf p)) : r01.Sum p K := by
  unfold r01.Sum
  obtain ⟨a, b⟩ := crcOf_nat hp
  refine ⟨8 * p.length + 1, Sum_loop p hp hl _ ?_ (8 * p.length) 0 (by omega)⟩
  rw [bitR_all p p.length (Nat.le_refl _), List.take_length]
  have : IntKind.wrap .u32 ((4294967295 : Int) - ((crcF p : Nat) : Int)) = crcOf p := by
    rw [a, IntKind.wrap_u32]; omega
  rw [this]
  exact h
theorem r01_Four {n : Nat} (hn : n < 4294967296) {K : List Int → Prop} (h : K (fourS (n : Int))) : r01.Four (n : Int) K := by
  unfold r01.Four
  refine ⟨by decide, by decide, by decide, ?_⟩
  rw [fourS_nat] at h
  have g (m : Nat) : IntKind.wrap .u8 (m : Int) = ((m % 256 : Nat) : Int) := by rw [IntKind.wrap_u8]; omega
  have f (k : Nat) : Int.tdiv (n : Int) (k : Int) = ((n / k : Nat) : Int) := rfl
  rw [show (256 : Int) = ((256 : Nat) : Int) from rfl, show (65536 : Int) = ((65536 : Nat) : Int) from rfl, show (16777216 : Int) = ((16777216 : Nat) : Int) from rfl, f, f, f]
  rw [wrap_u32_nat _ (by have := Nat.div_le_self n 256; omega), wrap_u32_nat _ (by have := Nat.div_le_self n 65536; omega), wrap_u32_nat _ (by have := Nat.div_le_self n 16777216; omega), g, g, g, g]
  exact h
theorem Seal_loop (p : List Int) (hl : p.length < 1000000) (K : List Int → Prop) (h : K (cpy p (List.replicate 60 0))) : ∀ (m i : Nat), i + m = 60 → r01.Seal.l3 K (m + 1) p (i : Int) ((cpy p (List.replicate 60 0)).take i) := by
  intro m
  have hc : (cpy p (List.replicate 60 (0 : Int))).length = 60 := by rw [cpy_len, List.length_replicate]
  induction m with
  | zero =>
    intro i hi
    have : i = 60 := by omega
    subst this
    rw [r01.Seal.l3]
    have e : decide (((60 : Nat) : Int) < (60 : Int)) = false := by decide
    rw [e, br_false, List.take_of_length_le (by omega)]
    exact h
  | succ m ih =>
    intro i hi
    rw [r01.Seal.l3]
    have e : decide ((i : Int) < (60 : Int)) = true := by simp; omega
    rw [e, br_true]
    have hlt : i < (cpy p (List.replicate 60 (0 : Int))).length := by omega
    have hnext : (cpy p (List.replicate 60 (0 : Int))).take i ++ [(cpy p (List.replicate 60 (0 : Int)))[i]] = (cpy p (List.replicate 60 (0 : Int))).take (i + 1) := by rw [List.take_succ_eq_append_getElem hlt]
    unfold r01.Seal.j59
    rw [wrap_succ i (by omega)]
    have ih' := ih (i + 1) (by omega)
    rw [← hnext] at ih'
    by_cases hp : i < p.length
    · have e2 : (cpy p (List.replicate 60 (0 : Int)))[i] = p[i] := by
        have : (cpy p (List.replicate 60 (0 : Int)))[i]? = p[i]? := by
          unfold cpy
          rw [List.getElem?_append_left (by rw [List.length_take, List.length_replicate]; omega), List.getElem?_take, if_pos (by rw [List.length_replicate]; omega)]
        rw [List.getElem?_eq_getElem hlt, List.getElem?_eq_getElem hp] at this
        exact Option.some.inj this
      rw [e2] at ih'
      rw [lt_true hp, br_true, ix_nat _ _ _ hp]
      refine ⟨⟨by omega, by omega⟩, ⟨?_, ?_⟩, ih'⟩
      · rw [List.length_take, List.length_singleton]; omega
      · rw [List.length_take, List.length_singleton]; omega
    · have e2 : (cpy p (List.replicate 60 (0 : Int)))[i] = 0 := by
        have : (cpy p (List.replicate 60 (0 : Int)))[i]? = some 0 := by
          unfold cpy
          rw [List.length_replicate, List.take_of_length_le (by omega), List.getElem?_append_right (by omega), List.getElem?_drop, List.getElem?_replicate, if_pos (by omega)]
        rw [List.getElem?_eq_getElem hlt] at this
        exact Option.some.inj this
      rw [e2] at ih'
      rw [lt_false (by omega), br_false]
      refine ⟨⟨?_, ?_⟩, ih'⟩
      · rw [List.length_take, List.length_singleton]; omega
      · rw [List.length_take, List.length_singleton]; omega
theorem r01_Seal {p : List Int} (hp : Byt p) (hl : p.length < 1000000) {K : List Int → Prop} (h : K (sealS p)) : r01.Seal p K := by
  unfold r01.Seal
  have hc : (cpy p (List.replicate 60 (0 : Int))).length = 60 := by rw [cpy_len, List.length_replicate]
  have hb : Byt (cpy p (List.replicate 60 0)) := cpy_byt hp (Byt.zeros 60)
  refine ⟨61, Seal_loop p hl _ ?_ 60 0 rfl⟩
  refine r01_Sum hb (by omega) ?_
  obtain ⟨a, b⟩ := crcOf_nat hb
  rw [a]
  refine r01_Four (by omega) ⟨⟨by rw [hc, fourS_len]; decide, by rw [hc, fourS_len]; decide⟩, ?_⟩
  rw [← a]
  exact h
end Go.Iw
