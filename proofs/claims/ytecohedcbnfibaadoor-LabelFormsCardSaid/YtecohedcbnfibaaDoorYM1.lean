/- Plain specifications: bytes, sums, sealed sectors. -/
import Derived.Test.YtecohedcbnfibaaDoorYQs
namespace Go.Iw
open Go.Iv
set_option linter.unusedVariables false
set_option linter.unusedSimpArgs false
set_option maxRecDepth 100000

def Byt (p : List Int) : Prop := ∀ x ∈ p, 0 ≤ x ∧ x ≤ 255
theorem Byt.nil : Byt [] := fun _ h => by cases h
theorem Byt.append {p q : List Int} (h : Byt p) (k : Byt q) : Byt (p ++ q) := fun x hx => (List.mem_append.1 hx).elim (h x) (k x)
theorem Byt.cons {b : Int} {q : List Int} (h : 0 ≤ b ∧ b ≤ 255) (k : Byt q) : Byt (b :: q) := fun x hx => by
  rcases List.mem_cons.1 hx with rfl | hx
  · exact h
  · exact k x hx
theorem Byt.take {p : List Int} (h : Byt p) (n : Nat) : Byt (p.take n) := fun x hx => h x (List.mem_of_mem_take hx)
theorem Byt.drop {p : List Int} (h : Byt p) (n : Nat) : Byt (p.drop n) := fun x hx => h x (List.mem_of_mem_drop hx)
theorem Byt.zeros (n : Nat) : Byt (List.replicate n 0) := fun x hx => by
  have := (List.mem_replicate.1 hx).2
  omega
theorem wrap_u8_byt (n : Int) : 0 ≤ IntKind.wrap .u8 n ∧ IntKind.wrap .u8 n ≤ 255 := by
  rw [IntKind.wrap_u8]; omega

theorem ix_nat {α : Type} (z : α) (xs : List α) (i : Nat) (h : i < xs.length) : ix z xs (i : Int) = xs[i] := by
  unfold ix
  rw [Int.toNat_natCast, List.getD_eq_getElem?_getD, List.getElem?_eq_getElem h]; rfl
theorem ixN_nat {α : Type} (z : α) (xs : List α) (i : Nat) (h : i < xs.length) : ixN z xs i = xs[i] := by
  unfold ixN
  rw [List.getD_eq_getElem?_getD, List.getElem?_eq_getElem h]; rfl
theorem ixN_toNat {α : Type} (z : α) (xs : List α) (i : Nat) (h : i < xs.length) : ixN z xs (Int.toNat (i : Int)) = xs[i] := by
  rw [Int.toNat_natCast]; exact ixN_nat z xs i h
theorem cpy_len {α : Type} (ys xs : List α) : (cpy ys xs).length = xs.length := by
  unfold cpy
  rw [List.length_append, List.length_take, List.length_drop]; omega
theorem cpy_byt {ys xs : List Int} (h : Byt ys) (k : Byt xs) : Byt (cpy ys xs) := (h.take _).append (k.drop _)
theorem cpy_full {α : Type} {ys xs : List α} (h : ys.length = xs.length) : cpy ys xs = ys := by
  unfold cpy
  rw [h, List.drop_length, List.append_nil, ← h, List.take_length]
theorem cpy_pad (ys : List Int) (n : Nat) (h : ys.length ≤ n) : cpy ys (List.replicate n 0) = ys ++ List.replicate (n - ys.length) 0 := by
  unfold cpy
  rw [List.length_replicate, List.take_of_length_le h, List.drop_replicate]

theorem bytesOf_list {p : List Int} : (bytesOf p).data.toList = p.map fun n => UInt8.ofNat n.toNat := by unfold bytesOf; simp
theorem byt_map {p : List Int} (h : Byt p) : p.map (fun n => (((UInt8.ofNat n.toNat).toNat : Nat) : Int)) = p := by
  induction p with
  | nil => rfl
  | cons b r ih =>
    have hb := h b (List.mem_cons_self ..)
    rw [List.map_cons, ih fun x hx => h x (List.mem_cons_of_mem _ hx)]
    congr 1
    rw [UInt8.toNat_ofNat']
    have : b.toNat % 256 = b.toNat := Nat.mod_eq_of_lt (by omega)
    omega
theorem strL_bytesOf {p : List Int} (h : Byt p) : strL (bytesOf p) = p := by
  unfold strL
  rw [bytesOf_list, List.map_map]
  exact byt_map h
theorem bytesOf_strL (s : ByteArray) : bytesOf (strL s) = s := by
  have : (bytesOf (strL s)).data.toList = s.data.toList := by
    rw [bytesOf_list]; unfold strL
    rw [List.map_map]
    conv => rhs; rw [← List.map_id s.data.toList]
    apply List.map_congr_left
    intro b _
    simp
  have h2 : (bytesOf (strL s)).data = s.data := Array.toList_inj.1 this
  cases s
  cases hb : bytesOf (strL _)
  rw [hb] at h2
  simp at h2
  rw [h2]
theorem byt_strL (s : ByteArray) : Byt (strL s) := fun x hx => by
  unfold strL at hx
  obtain ⟨b, _, rfl⟩ := List.mem_map.1 hx
  have := b.toNat_lt
  omega
theorem strL_len (s : ByteArray) : (strL s).length = s.size := by unfold strL; rw [List.length_map]; exact Array.length_toList
theorem bytesOf_size (p : List Int) : (bytesOf p).size = p.length := by
  show (bytesOf p).data.size = _
  rw [← Array.length_toList, bytesOf_list, List.length_map]
theorem bytesOf_inj {p q : List Int} (h : Byt p) (k : Byt q) (e : bytesOf p = bytesOf q) : p = q := by
  rw [← strL_bytesOf h, ← strL_bytesOf k, e]
theorem beq_bytes {p q : List Int} (h : Byt p) (k : Byt q) : (ByteArray.toList (bytesOf p) == ByteArray.toList (bytesOf q)) = decide (p = q) := by
  rw [ByteArray.toList_eq, ByteArray.toList_eq, Bool.eq_iff_iff, beq_iff_eq, decide_eq_true_iff]
  constructor
  · intro e
    rw [bytesOf_list, bytesOf_list] at e
    rw [← byt_map h, ← byt_map k]
    have e2 := congrArg (List.map fun b : UInt8 => ((b.toNat : Nat) : Int)) e
    rw [List.map_map, List.map_map] at e2
    exact e2
  · rintro rfl; rfl
theorem beq_str (s t : ByteArray) : (ByteArray.toList s == ByteArray.toList t) = decide (s = t) := by
  rw [← bytesOf_strL s, ← bytesOf_strL t, beq_bytes (byt_strL s) (byt_strL t), Bool.eq_iff_iff, decide_eq_true_iff, decide_eq_true_iff]
  exact ⟨fun e => by rw [e], fun e => bytesOf_inj (byt_strL s) (byt_strL t) e⟩

/-! Sums. -/
def crcN (r x : Int) : Int := sbits .xor .u32 (ixN (0 : Int) lines (Int.toNat (sbits .and .u32 (sbits .xor .u32 r x) (15 : Int)))) (Int.fdiv r (HPow.hPow (2 : Int) (Int.toNat (4 : Int))))
def crcStep (r b : Int) : Int := crcN (crcN r (IntKind.wrap .u32 b)) (IntKind.wrap .u32 (Int.fdiv b (HPow.hPow (2 : Int) (Int.toNat (4 : Int)))))
def crcOf (p : List Int) : Int := sbits .xor .u32 (ite (((Go.IntKind.signed .u32) : Bool) = true) (-(1 : Int)) (Go.IntKind.max .u32)) (p.foldl crcStep 4294967295)
theorem and15 (x : Int) : (0 : Int) ≤ sbits .and .u32 x (15 : Int) ∧ sbits .and .u32 x (15 : Int) < ((16 : Nat) : Int) := by
  have h : (BitVec.ofInt 32 x &&& BitVec.ofInt 32 15).toNat ≤ 15 := by
    rw [BitVec.toNat_and]
    exact Nat.le_trans Nat.and_le_right (by decide)
  show (0 : Int) ≤ IntKind.wrap .u32 ((BitVec.ofInt 32 x &&& BitVec.ofInt 32 15).toNat : Int) ∧ _ < _
  have e : sbits .and .u32 x (15 : Int) = IntKind.wrap .u32 ((BitVec.ofInt 32 x &&& BitVec.ofInt 32 15).toNat : Int) := rfl
  rw [e, IntKind.wrap_u32]
  omega
theorem lines_len : lines.length = 16 := rfl
theorem check_Of_loop (p : List Int) (K : Int → Prop) (hs : p.length < 9223372036854775807) : ∀ (m i : Nat) (r : Int), i + m = p.length → K ((p.drop i).foldl crcStep r) → check.Of.l3 K (m + 1) r p ((p.length : Nat) : Int) (i : Int) := by
  intro m
  induction m with
  | zero =>
    intro i r hi h
    rw [List.drop_eq_nil_of_le (by omega)] at h
    unfold check.Of.l3
    rw [lt_false (by omega), br_false]
    exact h
  | succ m ih =>
    intro i r hi h
    have hlt : i < p.length := by omega
    rw [List.drop_eq_getElem_cons hlt] at h
    have ih' := ih (i + 1) (crcStep r p[i]) (by omega) h
    rw [check.Of.l3]
    rw [lt_true hlt, br_true, ix_nat _ _ _ hlt]
    refine ⟨⟨by omega, by omega⟩, and15 _, ?_, ⟨by decide, by decide⟩, ⟨by decide, by decide⟩, and15 _, ?_, ⟨by decide, by decide⟩, ?_⟩
    · have := and15 (sbits .xor .u32 r (IntKind.wrap .u32 p[i]))
      rw [lines_len]; omega
    · have := and15 (sbits .xor .u32 (sbits .xor .u32 (ixN (0 : Int) lines (Int.toNat (sbits .and .u32 (sbits .xor .u32 r (IntKind.wrap .u32 p[i])) (15 : Int)))) (Int.fdiv r (HPow.hPow (2 : Int) (Int.toNat (4 : Int))))) (IntKind.wrap .u32 (Int.fdiv p[i] (HPow.hPow (2 : Int) (Int.toNat (4 : Int))))))
      rw [lines_len]; omega
    · rw [wrap_succ i (by omega)]
      exact ih'
theorem check_Of {p : List Int} {K : Int → Prop} (hs : p.length < 9223372036854775807) (h : K (crcOf p)) : check.Of p K := by
  unfold check.Of
  exact ⟨p.length + 1, check_Of_loop p _ hs p.length 0 4294967295 (by omega) h⟩

def fourS (n : Int) : List Int := [(IntKind.wrap .u8 n), (IntKind.wrap .u8 (Int.fdiv n (HPow.hPow (2 : Int) (Int.toNat (8 : Int))))), (IntKind.wrap .u8 (Int.fdiv n (HPow.hPow (2 : Int) (Int.toNat (16 : Int))))), (IntKind.wrap .u8 (Int.fdiv n (HPow.hPow (2 : Int) (Int.toNat (24 : Int)))))]
theorem fourS_len (n : Int) : (fourS n).length = 4 := rfl
theorem fourS_byt (n : Int) : Byt (fourS n) := Byt.cons (wrap_u8_byt _) (Byt.cons (wrap_u8_byt _) (Byt.cons (wrap_u8_byt _) (Byt.cons (wrap_u8_byt _) Byt.nil)))
theorem check_Four {n : Int} {K : List Int → Prop} (h : K (fourS n)) : check.Four n K := by
  unfold check.Four
  exact ⟨⟨by decide, by decide⟩, ⟨by decide, by decide⟩, ⟨by decide, by decide⟩, h⟩

def sealS (p : List Int) : List Int := cpy p (List.replicate 60 0) ++ fourS (crcOf (cpy p (List.replicate 60 0)))
theorem sealS_len (p : List Int) : (sealS p).length = 64 := by unfold sealS; rw [List.length_append, cpy_len, fourS_len, List.length_replicate]
theorem sealS_byt {p : List Int} (h : Byt p) : Byt (sealS p) := (cpy_byt h (Byt.zeros _)).append (fourS_byt _)
theorem check_Seal {p : List Int} {K : List Int → Prop} (h : K (sealS p)) : check.Seal p K := by
  unfold check.Seal
  have e : (cpy p (List.replicate (Int.toNat (60 : Int)) (0 : Int))).length = 60 := by rw [cpy_len]; rfl
  refine ⟨⟨by decide, by decide, by decide, by decide⟩, check_Of (by rw [e]; decide) ?_⟩
  refine ⟨⟨by decide, by decide⟩, ⟨by decide, by decide⟩, ⟨by decide, by decide⟩, ⟨?_, ?_⟩, h⟩
  · rw [e]; show 60 + 4 ≤ 9223372036854775807; decide
  · rw [e]; show (60 + 4) * 1 ≤ 140737488355328; decide

def openS (s : List Int) : List Int × Bool := if s.length = 64 ∧ sealS (s.take 60) = s then (s.take 60, true) else ([], false)
theorem check_Open {s : List Int} {K : List Int → Bool → Prop} (hs : Byt s) (h : K (openS s).1 (openS s).2) : check.Open s K := by
  unfold check.Open
  unfold openS at h
  by_cases hl : s.length = 64
  · have e1 : (((s.length : Nat) : Int) != (64 : Int)) = false := by rw [hl]; rfl
    have e2 : List.drop (Int.toNat (0 : Int)) (List.take (Int.toNat (60 : Int)) s) = s.take 60 := rfl
    have e3 : (s.take 60).length = 60 := by rw [List.length_take]; omega
    rw [e1, br_false, e2]
    refine ⟨⟨by decide, by rw [hl]; decide⟩, ⟨by decide, by decide⟩, ⟨by rw [e3]; decide, by rw [e3]; decide⟩, check_Seal ?_⟩
    rw [beq_bytes (sealS_byt (hs.take 60)) hs]
    by_cases he : sealS (s.take 60) = s
    · rw [if_pos ⟨hl, he⟩] at h
      rw [decide_eq_true he, Bool.not_true, br_false]; exact h
    · rw [if_neg (fun e => he e.2)] at h
      rw [decide_eq_false he, Bool.not_false, br_true]; exact h
  · rw [if_neg (fun e => hl e.1)] at h
    have e1 : (((s.length : Nat) : Int) != (64 : Int)) = true := by
      rw [bne_iff_ne]; omega
    rw [e1, br_true]; exact h
theorem openS_seal {p : List Int} (h : p.length ≤ 60) : openS (sealS p) = (cpy p (List.replicate 60 0), true) := by
  have e : (sealS p).take 60 = cpy p (List.replicate 60 0) := by
    unfold sealS
    have hc : (cpy p (List.replicate 60 (0 : Int))).length = 60 := by rw [cpy_len]; rfl
    rw [List.take_append_of_le_length (by omega), List.take_of_length_le (by omega)]
  have h2 : sealS (cpy p (List.replicate 60 0)) = sealS p := by
    unfold sealS
    rw [cpy_full (ys := cpy p (List.replicate 60 (0 : Int))) (by rw [cpy_len])]
  unfold openS
  rw [e, h2, if_pos ⟨sealS_len p, rfl⟩]

/-! Numbers. -/
theorem wrap_i64_nat (n : Nat) (h : n < 9223372036854775808) : IntKind.wrap .i64 (n : Int) = (n : Int) := wrap_small (by omega) (by omega)
theorem sbits_or_nat (a b : Nat) (ha : a < 9223372036854775808) (hb : b < 9223372036854775808) : sbits .or .i64 (a : Int) (b : Int) = ((a ||| b : Nat) : Int) := by
  have e : sbits .or .i64 (a : Int) (b : Int) = IntKind.wrap .i64 ((BitVec.ofInt 64 (a : Int) ||| BitVec.ofInt 64 (b : Int)).toNat : Int) := rfl
  have ea : (BitVec.ofInt 64 (a : Int)).toNat = a := by rw [BitVec.ofInt_natCast, BitVec.toNat_ofNat]; exact Nat.mod_eq_of_lt (by omega)
  have eb : (BitVec.ofInt 64 (b : Int)).toNat = b := by rw [BitVec.ofInt_natCast, BitVec.toNat_ofNat]; exact Nat.mod_eq_of_lt (by omega)
  rw [e, BitVec.toNat_or, ea, eb, wrap_i64_nat]
  exact Nat.or_lt_two_pow (n := 63) ha hb
def numG : Nat → Int → List Int → Int
  | _, acc, [] => acc
  | i, acc, b :: r => numG (i + 1) (if i < 4 then sbits .or .i64 acc (IntKind.wrap .i64 (IntKind.wrap .i64 b * (HPow.hPow (2 : Int) (Int.toNat (IntKind.wrap .i64 ((8 : Int) * ((i : Nat) : Int))))))) else acc) r
def numS (p : List Int) : Int := numG 0 0 p
theorem check_Number_loop (p : List Int) (K : Int → Prop) (hs : p.length < 9223372036854775807) : ∀ (m i : Nat) (acc : Int), i + m = p.length → K (numG i acc (p.drop i)) → check.Number.l3 K (m + 1) acc p ((p.length : Nat) : Int) (i : Int) := by
  intro m
  induction m with
  | zero =>
    intro i r hi h
    rw [List.drop_eq_nil_of_le (by omega)] at h
    unfold check.Number.l3
    rw [lt_false (by omega), br_false]
    exact h
  | succ m ih =>
    intro i acc hi h
    have hlt : i < p.length := by omega
    rw [List.drop_eq_getElem_cons hlt] at h
    rw [check.Number.l3]
    rw [lt_true hlt, br_true, ix_nat _ _ _ hlt]
    refine ⟨⟨by omega, by omega⟩, ?_⟩
    have h' := ih (i + 1) _ (by omega) h
    by_cases h4 : i < 4
    · have e : decide ((i : Int) < (4 : Int)) = true := by simp; omega
      rw [if_pos h4] at h'
      rw [e, br_true]
      have e8 : IntKind.wrap .i64 ((8 : Int) * ((i : Nat) : Int)) = ((8 * i : Nat) : Int) := by
        have : (8 : Int) * ((i : Nat) : Int) = ((8 * i : Nat) : Int) := by omega
        rw [this, wrap_i64_nat _ (by omega)]
      refine ⟨⟨by rw [e8]; omega, by rw [e8]; show _ ≤ ((64 : Nat) : Int); omega⟩, ?_⟩
      unfold check.Number.j59
      rw [wrap_succ i (by omega)]
      exact h'
    · have e : decide ((i : Int) < (4 : Int)) = false := by simp; omega
      rw [if_neg h4] at h'
      rw [e, br_false]
      unfold check.Number.j59
      rw [wrap_succ i (by omega)]
      exact h'
theorem check_Number {p : List Int} {K : Int → Prop} (hs : p.length < 9223372036854775807) (h : K (numS p)) : check.Number p K := by
  unfold check.Number
  exact ⟨p.length + 1, check_Number_loop p K hs p.length 0 0 (by omega) h⟩
theorem numG_rest : ∀ (r : List Int) (i : Nat) (acc : Int), 4 ≤ i → numG i acc r = acc
  | [], _, _, _ => rfl
  | b :: r, i, acc, h => by
    unfold numG
    rw [if_neg (by omega)]
    exact numG_rest r (i + 1) acc (by omega)
theorem numG_step (i : Nat) (hi : i < 4) (a : Nat) (ha : a < 2 ^ (8 * i)) (b : Nat) (hb : b ≤ 255) (r : List Int) : numG i (a : Int) ((b : Int) :: r) = numG (i + 1) ((a + b * 2 ^ (8 * i) : Nat) : Int) r := by
  have e8 : IntKind.wrap .i64 ((8 : Int) * ((i : Nat) : Int)) = ((8 * i : Nat) : Int) := by
    have : (8 : Int) * ((i : Nat) : Int) = ((8 * i : Nat) : Int) := by omega
    rw [this, wrap_i64_nat _ (by omega)]
  have hp : (2 : Nat) ^ (8 * i) ≤ 2 ^ 24 := Nat.pow_le_pow_right (by decide) (by omega)
  have hbp : b * 2 ^ (8 * i) ≤ 255 * 2 ^ 24 := Nat.mul_le_mul hb hp
  show numG (i + 1) (if i < 4 then _ else _) r = _
  rw [if_pos hi, e8, wrap_i64_nat b (by omega), Int.toNat_natCast]
  have e2 : (b : Int) * (HPow.hPow (2 : Int) (8 * i)) = ((b * 2 ^ (8 * i) : Nat) : Int) := by
    rw [Int.natCast_mul, Int.natCast_pow]; rfl
  rw [e2, wrap_i64_nat _ (by omega), sbits_or_nat a _ (by omega) (by omega)]
  have e3 : a ||| b * 2 ^ (8 * i) = a + b * 2 ^ (8 * i) := by
    rw [Nat.or_comm, Nat.mul_comm, ← Nat.two_pow_add_eq_or_of_lt ha, Nat.add_comm]
  rw [e3]
theorem numS4 (a b c d : Nat) (ha : a ≤ 255) (hb : b ≤ 255) (hc : c ≤ 255) (hd : d ≤ 255) (r : List Int) : numS ((a : Int) :: (b : Int) :: (c : Int) :: (d : Int) :: r) = ((a + b * 256 + c * 65536 + d * 16777216 : Nat) : Int) := by
  unfold numS
  rw [show (0 : Int) = ((0 : Nat) : Int) from rfl, numG_step 0 (by decide) 0 (by decide) a ha, numG_step 1 (by decide) _ (by simp; omega) b hb, numG_step 2 (by decide) _ (by simp; omega) c hc, numG_step 3 (by decide) _ (by simp; omega) d hd, numG_rest _ _ _ (by decide)]
  simp
theorem byt_nat {b : Int} (h : 0 ≤ b ∧ b ≤ 255) : ∃ n : Nat, b = n ∧ n ≤ 255 := ⟨b.toNat, by omega, by omega⟩
theorem numS_range {p : List Int} (h : Byt p) (hl : 4 ≤ p.length) : 0 ≤ numS p ∧ numS p < 4294967296 := by
  match p, hl with
  | a :: b :: c :: d :: r, _ =>
    obtain ⟨a, rfl, ha⟩ := byt_nat (h a (by simp))
    obtain ⟨b, rfl, hb⟩ := byt_nat (h b (by simp))
    obtain ⟨c, rfl, hc⟩ := byt_nat (h c (by simp))
    obtain ⟨d, rfl, hd⟩ := byt_nat (h d (by simp))
    rw [numS4 a b c d ha hb hc hd]
    omega
theorem fourS_nat (n : Nat) : fourS (n : Int) = [((n % 256 : Nat) : Int), ((n / 256 % 256 : Nat) : Int), ((n / 65536 % 256 : Nat) : Int), ((n / 16777216 % 256 : Nat) : Int)] := by
  have f (k : Nat) : Int.fdiv (n : Int) (k : Int) = ((n / k : Nat) : Int) := by
    rw [Int.fdiv_eq_ediv_of_nonneg _ (Int.natCast_nonneg k)]; rfl
  have g (m : Nat) : IntKind.wrap .u8 (m : Int) = ((m % 256 : Nat) : Int) := by rw [IntKind.wrap_u8]; omega
  unfold fourS
  rw [show (HPow.hPow (2 : Int) (Int.toNat (8 : Int))) = ((256 : Nat) : Int) from rfl, show (HPow.hPow (2 : Int) (Int.toNat (16 : Int))) = ((65536 : Nat) : Int) from rfl, show (HPow.hPow (2 : Int) (Int.toNat (24 : Int))) = ((16777216 : Nat) : Int) from rfl]
  rw [f, f, f, g, g, g, g]
theorem numS_four (n : Nat) (h : n < 4294967296) (r : List Int) : numS (fourS (n : Int) ++ r) = (n : Int) := by
  rw [fourS_nat]
  show numS (_ :: _ :: _ :: _ :: r) = _
  rw [numS4 _ _ _ _ (by omega) (by omega) (by omega) (by omega)]
  omega
end Go.Iw
