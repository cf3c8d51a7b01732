/- The law LogRecovers of package magnetolaw17 returns true for every input, and its arguments read as before. -/
import Derived.Test.YtgolbdijmmeebaaLogRecovers1
set_option linter.unusedVariables false
set_option linter.unusedSimpArgs false
open Go Go.AM
namespace Go.AM.R1

/-! ### What the sum sees -/
theorem xor_mod2 (x y : BitVec 32) : (x ^^^ y).toNat % 2 = (x.toNat % 2 + y.toNat % 2) % 2 := by
  rw [BitVec.toNat_xor]
  have h := Nat.xor_mod_two_pow (a := x.toNat) (b := y.toNat) (n := 1)
  simp only [Nat.pow_one] at h
  rw [h]
  rcases Nat.mod_two_eq_zero_or_one x.toNat with h1 | h1 <;> rcases Nat.mod_two_eq_zero_or_one y.toNat with h2 | h2 <;> rw [h1, h2] <;> rfl
theorem step_xor (x y : BitVec 32) : stepB (x ^^^ y) = stepB x ^^^ stepB y := by
  have h := xor_mod2 x y
  have hs : (x ^^^ y) >>> 1 = (x >>> 1) ^^^ (y >>> 1) := by
    apply BitVec.eq_of_getLsbD_eq
    intro i hi
    simp
  unfold stepB
  rw [hs]
  rcases Nat.mod_two_eq_zero_or_one x.toNat with h1 | h1 <;> rcases Nat.mod_two_eq_zero_or_one y.toNat with h2 | h2 <;> rw [h1, h2] at h
  · rw [if_neg (by omega), if_neg (by omega), if_neg (by omega)]; simp
  · rw [if_pos (by omega), if_neg (by omega), if_pos (by omega)]; simp [BitVec.xor_assoc]
  · rw [if_pos (by omega), if_pos (by omega), if_neg (by omega)]
    simp only [BitVec.xor_zero]
    rw [BitVec.xor_assoc, BitVec.xor_comm (y >>> 1), ← BitVec.xor_assoc]
  · rw [if_neg (by omega), if_pos (by omega), if_pos (by omega)]
    simp only [BitVec.xor_zero]
    rw [BitVec.xor_assoc, BitVec.xor_comm 3988292384#32 (_ ^^^ _), BitVec.xor_assoc, BitVec.xor_self, BitVec.xor_zero]
theorem step_zero {x : BitVec 32} (h : stepB x = 0#32) : x = 0#32 := by
  unfold stepB at h
  rcases Nat.mod_two_eq_zero_or_one x.toNat with h1 | h1
  · rw [if_neg (by omega), BitVec.xor_zero] at h
    have h2 := congrArg BitVec.toNat h
    rw [BitVec.toNat_ushiftRight, Nat.shiftRight_eq_div_pow] at h2
    apply BitVec.eq_of_toNat_eq
    simp at h2 ⊢
    omega
  · rw [if_pos h1] at h
    exfalso
    have h2 : x >>> 1 = 3988292384#32 := by
      have := congrArg (· ^^^ 3988292384#32) h
      simpa [BitVec.xor_assoc] using this
    have h3 := congrArg BitVec.toNat h2
    rw [BitVec.toNat_ushiftRight, Nat.shiftRight_eq_div_pow] at h3
    have := x.isLt
    simp at h3
    omega
theorem step_inj {x y : BitVec 32} (h : stepB x = stepB y) : x = y := by
  have h2 : stepB (x ^^^ y) = 0#32 := by rw [step_xor, h, BitVec.xor_self]
  have h3 := step_zero h2
  have := congrArg (· ^^^ y) h3
  simpa [BitVec.xor_assoc] using this
theorem steps_inj : ∀ (n : Nat) {x y : BitVec 32}, steps n x = steps n y → x = y
  | 0, _, _, h => h
  | n + 1, _, _, h => step_inj (steps_inj n h)
def bitV (b : Bool) : BitVec 32 := if b then 1#32 else 0#32
def crcBits (x : BitVec 32) (l : List Bool) : BitVec 32 := l.foldl (fun x b => stepB (x ^^^ bitV b)) x
def ofBits : List Bool → Nat
  | [] => 0
  | b :: l => b.toNat + 2 * ofBits l
theorem ofBits_lt : ∀ l : List Bool, ofBits l < 2 ^ l.length
  | [] => by simp [ofBits]
  | b :: l => by
    have := ofBits_lt l
    have hb : b.toNat ≤ 1 := Bool.toNat_le b
    rw [ofBits, List.length_cons, Nat.pow_succ]; omega
theorem ofBits_inj : ∀ {l m : List Bool}, l.length = m.length → ofBits l = ofBits m → l = m
  | [], [], _, _ => rfl
  | [], _ :: _, h, _ => by simp at h
  | _ :: _, [], h, _ => by simp at h
  | a :: l, b :: m, h, e => by
    rw [ofBits, ofBits] at e
    have ha : a.toNat ≤ 1 := Bool.toNat_le a
    have hb : b.toNat ≤ 1 := Bool.toNat_le b
    have hab : a.toNat = b.toNat := by omega
    have : a = b := by cases a <;> cases b <;> simp_all
    have h2 : ofBits l = ofBits m := by omega
    rw [this, ofBits_inj (l := l) (m := m) (by simpa using h) h2]
theorem step_shift (y : Nat) (hy : y < 2147483648) : stepB (BitVec.ofNat 32 (2 * y)) = BitVec.ofNat 32 y := by
  unfold stepB
  have h1 : (BitVec.ofNat 32 (2 * y)).toNat = 2 * y := by rw [BitVec.toNat_ofNat, Nat.mod_eq_of_lt (by omega)]
  rw [h1, if_neg (by omega), BitVec.xor_zero]
  apply BitVec.eq_of_toNat_eq
  rw [BitVec.toNat_ushiftRight, h1, Nat.shiftRight_eq_div_pow, BitVec.toNat_ofNat, Nat.mod_eq_of_lt (by omega)]
  omega
theorem ofNat_split (b : Bool) (y : Nat) (hy : y < 2147483648) : BitVec.ofNat 32 (b.toNat + 2 * y) = bitV b ^^^ BitVec.ofNat 32 (2 * y) := by
  cases b with
  | false => simp [bitV]
  | true =>
    apply BitVec.eq_of_getLsbD_eq
    intro i hi
    simp only [bitV, if_true, BitVec.getLsbD_xor, BitVec.getLsbD_ofNat, hi, decide_true, Bool.true_and]
    rw [show Bool.toNat true + 2 * y = 2 * y + 1 from by simp; omega]
    cases i with
    | zero => simp [Nat.testBit_zero]
    | succ i =>
      rw [Nat.testBit_succ, Nat.testBit_succ, Nat.testBit_succ]
      rw [show (2 * y + 1) / 2 = y from by omega, show 2 * y / 2 = y from by omega, show 1 / 2 = 0 from rfl]
      simp
theorem crcBits_steps : ∀ (l : List Bool) (x : BitVec 32), l.length ≤ 32 → crcBits x l = steps l.length (x ^^^ BitVec.ofNat 32 (ofBits l))
  | [], x, _ => by simp [crcBits, steps, ofBits]
  | b :: l, x, h => by
    simp at h
    have hlt := ofBits_lt l
    have hp : 2 ^ l.length ≤ 2 ^ 31 := Nat.pow_le_pow_right (by omega) (by omega)
    rw [show crcBits x (b :: l) = crcBits (stepB (x ^^^ bitV b)) l from rfl, crcBits_steps l _ (by omega), List.length_cons, ofBits, steps]
    congr 1
    rw [ofNat_split b _ (by omega), ← BitVec.xor_assoc, step_xor (x ^^^ bitV b), step_shift _ (by omega)]
theorem crcBits_append (x : BitVec 32) (l m : List Bool) : crcBits x (l ++ m) = crcBits (crcBits x l) m := by simp [crcBits]
theorem crcBits_inj : ∀ (l : List Bool) {x y : BitVec 32}, crcBits x l = crcBits y l → x = y
  | [], _, _, h => h
  | b :: l, x, y, h => by
    have h2 := step_inj (crcBits_inj l (x := stepB (x ^^^ bitV b)) (y := stepB (y ^^^ bitV b)) h)
    have := congrArg (· ^^^ bitV b) h2
    simpa [BitVec.xor_assoc] using this
/-- Up to 32 bits side by side, that are turned, are seen. -/
theorem crc_burst {A B B' C : List Bool} (hl : B.length = B'.length) (h32 : B.length ≤ 32) (hne : B ≠ B') (x : BitVec 32) : crcBits x (A ++ B ++ C) ≠ crcBits x (A ++ B' ++ C) := by
  intro h
  rw [crcBits_append, crcBits_append, crcBits_append, crcBits_append] at h
  have h2 := crcBits_inj C h
  rw [crcBits_steps B _ h32, crcBits_steps B' _ (by omega), hl] at h2
  have h3 := steps_inj _ h2
  have h4 : BitVec.ofNat 32 (ofBits B) = BitVec.ofNat 32 (ofBits B') := by
    have := congrArg (crcBits x A ^^^ ·) h3
    simpa [← BitVec.xor_assoc] using this
  have b1 := ofBits_lt B
  have b2 := ofBits_lt B'
  have hp : 2 ^ B.length ≤ 2 ^ 32 := Nat.pow_le_pow_right (by omega) h32
  have hp' : 2 ^ B'.length ≤ 2 ^ 32 := Nat.pow_le_pow_right (by omega) (by omega)
  have h5 := congrArg BitVec.toNat h4
  rw [BitVec.toNat_ofNat, BitVec.toNat_ofNat, Nat.mod_eq_of_lt (by omega), Nat.mod_eq_of_lt (by omega)] at h5
  exact hne (ofBits_inj hl h5)
/-- The bits of bytes, the lowest first. -/
def bits8 (c : Nat) : List Bool := (List.range 8).map c.testBit
def bitsL (l : List Nat) : List Bool := l.flatMap bits8
theorem ofBits_range : ∀ (n c : Nat), ofBits ((List.range n).map c.testBit) = c % 2 ^ n
  | 0, c => by simp [ofBits, Nat.mod_one]
  | n + 1, c => by
    rw [List.range_succ_eq_map, List.map_cons, List.map_map, ofBits]
    have h : (List.range n).map (c.testBit ∘ Nat.succ) = (List.range n).map (c / 2).testBit := by
      apply List.map_congr_left
      intro i _
      simp [Nat.testBit_succ]
    rw [h, ofBits_range n (c / 2), Nat.pow_succ, Nat.mul_comm (2 ^ n) 2, Nat.mod_mul, Nat.testBit_zero]
    have : (decide (c % 2 = 1)).toNat = c % 2 := by
      rcases Nat.mod_two_eq_zero_or_one c with h | h <;> rw [h] <;> rfl
    rw [this]
theorem on_bits (x : BitVec 32) (c : Nat) (hc : c < 256) : onB x c = crcBits x (bits8 c) := by
  rw [crcBits_steps _ _ (by simp [bits8]), bits8, ofBits_range, Nat.mod_eq_of_lt (by omega)]
  simp [onB]
theorem crcGo_bits : ∀ (l : List Nat) (x : BitVec 32), (∀ c ∈ l, c < 256) → crcGo x l = crcBits x (bitsL l)
  | [], _, _ => rfl
  | c :: l, x, h => by
    rw [show crcGo x (c :: l) = crcGo (onB x c) l from rfl, show bitsL (c :: l) = bits8 c ++ bitsL l from rfl, crcBits_append, on_bits x c (h c (by simp)), crcGo_bits l _ fun d hd => h d (by simp [hd])]

/-! ### Sealed bytes -/
theorem bits_tail (s : Nat) (hs : s < 4294967296) : ofBits (bitsL (tailN s)) = s := by
  have h : bitsL (tailN s) = (List.range 32).map s.testBit := by
    simp only [bitsL, tailN, List.flatMap_cons, List.flatMap_nil, List.append_nil, bits8]
    have e : List.range 32 = List.range 8 ++ ((List.range 8).map (· + 8) ++ ((List.range 8).map (· + 16) ++ (List.range 8).map (· + 24))) := by decide
    rw [e, List.map_append, List.map_append, List.map_append, List.map_map, List.map_map, List.map_map]
    congr 1
    · apply List.map_congr_left
      intro i hi
      simp only [List.mem_range] at hi
      rw [show (256 : Nat) = 2 ^ 8 from rfl, Nat.testBit_mod_two_pow]
      simp [hi]
    · congr 1
      · apply List.map_congr_left
        intro i hi
        simp only [List.mem_range] at hi
        rw [show (256 : Nat) = 2 ^ 8 from rfl, Nat.testBit_mod_two_pow, Nat.testBit_div_two_pow]
        simp [hi, Nat.add_comm]
      · congr 1
        · apply List.map_congr_left
          intro i hi
          simp only [List.mem_range] at hi
          rw [show (65536 : Nat) = 2 ^ 16 from rfl, show (256 : Nat) = 2 ^ 8 from rfl, Nat.testBit_mod_two_pow, Nat.testBit_div_two_pow]
          simp [hi, Nat.add_comm]
        · apply List.map_congr_left
          intro i hi
          simp only [List.mem_range] at hi
          rw [show (16777216 : Nat) = 2 ^ 24 from rfl, show (256 : Nat) = 2 ^ 8 from rfl, Nat.testBit_mod_two_pow, Nat.testBit_div_two_pow]
          simp [hi, Nat.add_comm]
  rw [h, ofBits_range, Nat.mod_eq_of_lt (by omega)]
theorem bitsL_append (l m : List Nat) : bitsL (l ++ m) = bitsL l ++ bitsL m := by simp [bitsL]
/-- What the register has behind bytes and their sum. -/
theorem crc_sealed (l : List Nat) (hl : ∀ c ∈ l, c < 256) : crcBits 4294967295#32 (bitsL (sealB l)) = steps 32 4294967295#32 := by
  rw [sealB, bitsL_append, crcBits_append, ← crcGo_bits l _ hl]
  have hlt := (crc l).isLt
  rw [crcBits_steps _ _ (by simp [bitsL, bits8, tailN]), bits_tail _ hlt, BitVec.ofNat_toNat, BitVec.setWidth_eq]
  rw [show (bitsL (tailN (crc l).toNat)).length = 32 from by simp [bitsL, bits8, tailN]]
  unfold crc
  rw [← BitVec.xor_assoc, BitVec.xor_self, BitVec.zero_xor]
/-- Two rows of bytes, both with right sums, that differ in up to 32 bits side by side, are one. -/
theorem sealed_burst {P w : List Nat} (hP : ∀ c ∈ P, c < 256) (hw : ∀ c ∈ w, c < 256) (hP4 : ¬ P.length < 4) (hw4 : ¬ w.length < 4) (hoP : openE P = 0) (how : openE w = 0)
    {A B B' C : List Bool} (eP : bitsL P = A ++ B ++ C) (ew : bitsL w = A ++ B' ++ C) (hl : B.length = B'.length) (h32 : B.length ≤ 32) : B = B' := by
  apply Classical.byContradiction
  intro hne
  have sP := (seal_take P hP4).1 hoP
  have sw := (seal_take w hw4).1 how
  have cP := crc_sealed (P.take (P.length - 4)) fun c hc => hP c (List.mem_of_mem_take hc)
  have cw := crc_sealed (w.take (w.length - 4)) fun c hc => hw c (List.mem_of_mem_take hc)
  rw [sP, eP] at cP
  rw [sw, ew] at cw
  exact crc_burst hl h32 hne 4294967295#32 (cP.trans cw.symm)
end Go.AM.R1
open Go Go.AM
namespace Go.AM.R1

/-! ### Bits, turned one by one -/
theorem bits8_length (c : Nat) : (bits8 c).length = 8 := by simp [bits8]
theorem bitsL_length : ∀ l : List Nat, (bitsL l).length = 8 * l.length
  | [] => rfl
  | c :: l => by rw [show bitsL (c :: l) = bits8 c ++ bitsL l from rfl, List.length_append, bits8_length, bitsL_length l, List.length_cons]; omega
theorem bits8_flip (c b : Nat) (hb : b < 8) : bits8 (c ^^^ 2 ^ b) = (bits8 c).set b (!c.testBit b) := by
  apply List.ext_getElem?
  intro i
  rw [List.getElem?_set]
  simp only [bits8, List.getElem?_map, List.length_map, List.length_range]
  by_cases h : b = i
  · subst h
    rw [if_pos rfl, if_pos hb, List.getElem?_range hb]
    simp [Nat.testBit_xor, Nat.testBit_two_pow_self]
  · rw [if_neg h]
    by_cases hi : i < 8
    · rw [List.getElem?_range hi]
      simp [Nat.testBit_xor, Nat.testBit_two_pow_of_ne h]
    · rw [List.getElem?_eq_none (by simp; omega)]; rfl
theorem split_at (w : List Nat) (q : Nat) (h : q < w.length) : w = w.take q ++ (w[q] :: w.drop (q + 1)) := by
  rw [← List.drop_eq_getElem_cons h, List.take_append_drop]
theorem bitsL_flip (w : List Nat) (q b : Nat) (h : q < w.length) (hb : b < 8) (v : Bool) (hv : v = !w[q].testBit b) : bitsL (w.set q (w[q] ^^^ 2 ^ b)) = (bitsL w).set (8 * q + b) v := by
  have e1 : w.set q (w[q] ^^^ 2 ^ b) = w.take q ++ ((w[q] ^^^ 2 ^ b) :: w.drop (q + 1)) := by rw [List.set_eq_take_append_cons_drop, if_pos h]
  have e2 : bitsL w = bitsL (w.take q) ++ (bits8 w[q] ++ bitsL (w.drop (q + 1))) := by
    conv => lhs; rw [split_at w q h]
    rw [bitsL_append]; rfl
  have hl : (bitsL (w.take q)).length = 8 * q := by rw [bitsL_length, List.length_take, Nat.min_eq_left (by omega)]
  rw [e1, bitsL_append, e2, List.set_append_right _ _ (by omega), hl, show 8 * q + b - 8 * q = b from by omega, List.set_append_left _ _ (by rw [bits8_length]; exact hb), hv, ← bits8_flip _ _ hb]
  rfl
theorem bitsL_get (w : List Nat) (q b : Nat) (h : q < w.length) (hb : b < 8) : (bitsL w)[8 * q + b]? = some (w[q].testBit b) := by
  have e2 : bitsL w = bitsL (w.take q) ++ (bits8 w[q] ++ bitsL (w.drop (q + 1))) := by
    conv => lhs; rw [split_at w q h]
    rw [bitsL_append]; rfl
  have hl : (bitsL (w.take q)).length = 8 * q := by rw [bitsL_length, List.length_take, Nat.min_eq_left (by omega)]
  rw [e2, List.getElem?_append_right (by omega), hl, show 8 * q + b - 8 * q = b from by omega, List.getElem?_append_left (by rw [bits8_length]; exact hb)]
  simp [bits8, List.getElem?_range hb]
/-- Bytes of which some bits were turned, of those from a place on. -/
structure Inv (P : List Nat) (head fr t i : Nat) (w : List Nat) (turned : Bool) : Prop where
  len : w.length = P.length
  byte : ∀ c ∈ w, c < 256
  front : w.take head = P.take head
  win : ∃ B, bitsL w = (bitsL P).take (8 * head + fr) ++ B ++ (bitsL P).drop (8 * head + fr + t) ∧ B.length = t ∧
    (turned = true → ∃ j, j < i ∧ B[j]? ≠ (((bitsL P).drop (8 * head + fr)).take t)[j]?) ∧ ∀ j, i ≤ j → B[j]? = (((bitsL P).drop (8 * head + fr)).take t)[j]?
  same : turned = false → w = P
theorem inv_start (P : List Nat) (hP : ∀ c ∈ P, c < 256) (head fr t : Nat) (h : 8 * head + fr + t ≤ 8 * P.length) : Inv P head fr t 0 P false := by
  refine ⟨rfl, hP, rfl, ⟨((bitsL P).drop (8 * head + fr)).take t, ?_, ?_, by simp, fun _ _ => rfl⟩, fun _ => rfl⟩
  · generalize 8 * head + fr = g
    rw [List.append_assoc, show (bitsL P).drop (g + t) = ((bitsL P).drop g).drop t from by rw [List.drop_drop], List.take_append_drop, List.take_append_drop]
  · rw [List.length_take, List.length_drop, bitsL_length]; omega
theorem inv_skip {P : List Nat} {head fr t i : Nat} {w : List Nat} {turned : Bool} (h : Inv P head fr t i w turned) : Inv P head fr t (i + 1) w turned := by
  obtain ⟨h1, h2, h3, ⟨B, e1, e2, e3, e4⟩, h5⟩ := h
  exact ⟨h1, h2, h3, ⟨B, e1, e2, fun ht => by obtain ⟨j, hj, hn⟩ := e3 ht; exact ⟨j, by omega, hn⟩, fun j hj => e4 j (by omega)⟩, h5⟩
theorem inv_flip {P : List Nat} {head fr t i : Nat} {w : List Nat} {turned : Bool} (h : Inv P head fr t i w turned) (hi : i < t) (hle : 8 * head + fr + t ≤ 8 * P.length) (hq : head + (fr + i) / 8 < w.length) :
    Inv P head fr t (i + 1) (w.set (head + (fr + i) / 8) (w[head + (fr + i) / 8] ^^^ 2 ^ ((fr + i) % 8))) true := by
  obtain ⟨h1, h2, h3, ⟨B, e1, e2, e3, e4⟩, h5⟩ := h
  have hb : (fr + i) % 8 < 8 := by omega
  have hg : 8 * (head + (fr + i) / 8) + (fr + i) % 8 = 8 * head + fr + i := by omega
  have hsl : ((bitsL P).take (8 * head + fr)).length = 8 * head + fr := by rw [List.length_take, bitsL_length]; omega
  have hget := bitsL_get w _ _ hq hb
  rw [hg, e1, List.append_assoc, List.getElem?_append_right (by omega), hsl, show 8 * head + fr + i - (8 * head + fr) = i from by omega, List.getElem?_append_left (by omega)] at hget
  have hset := bitsL_flip w _ _ hq hb _ rfl
  rw [hg, e1, List.append_assoc, List.set_append_right _ _ (by omega), hsl, show 8 * head + fr + i - (8 * head + fr) = i from by omega, List.set_append_left _ _ (by omega)] at hset
  generalize hv : w[head + (fr + i) / 8].testBit ((fr + i) % 8) = v at hget hset
  refine ⟨by simp [h1], ?_, ?_, ⟨B.set i (!v), ?_, by simp [e2], fun _ => ?_, fun j hj => ?_⟩, by simp⟩
  · intro c hc
    rcases List.mem_or_eq_of_mem_set hc with hc | rfl
    · exact h2 c hc
    · have := h2 _ (List.getElem_mem hq)
      have h8 : 2 ^ ((fr + i) % 8) < 2 ^ 8 := Nat.pow_lt_pow_right (by omega) hb
      exact Nat.xor_lt_two_pow (n := 8) (by omega) (by omega)
  · rw [List.take_set_of_le (by omega), h3]
  · rw [hset, List.append_assoc]
  · by_cases hj : ∃ j, j < i ∧ B[j]? ≠ (((bitsL P).drop (8 * head + fr)).take t)[j]?
    · obtain ⟨j, hj1, hj2⟩ := hj
      refine ⟨j, by omega, ?_⟩
      rw [List.getElem?_set_ne (by omega)]; exact hj2
    · refine ⟨i, by omega, ?_⟩
      rw [← e4 i (by omega), hget, List.getElem?_set_self (by omega)]
      cases v <;> simp
  · rw [List.getElem?_set_ne (by omega)]; exact e4 j (by omega)
end Go.AM.R1
open Go Go.AM
namespace Go.AM.R1

/-! ### log.Scan: the walk -/
abbrev Bk := Int × List Run
def encBk (x : Bk) : List AVal := [.lit (.int .i64 x.1), .imm false false true (x.2.map encRun)]
/-- The blocks from a place, and a tick, on; and where they end. -/
def scanGo : Nat → List Nat → Nat → Int → List Bk → List Bk × Nat × Int
  | 0, _, p, t, acc => (acc, p, t)
  | d + 1, b, p, t, acc =>
    if (getB (b.drop p)).2.2 = 0 ∧ (getB (b.drop p)).1.1 = t then
      scanGo d b (p + (getB (b.drop p)).2.1.toNat) (t + sumN (getB (b.drop p)).1.2) (acc ++ [(getB (b.drop p)).1])
    else (acc, p, t)
def scanB (b : List Nat) : List Bk × Nat × Int := scanGo (b.length + 1) b 0 0 []

def scH (acc : List Bk) (n : Nat) : Heap :=
  if acc = [] then [.loop 0 none [(4, .ptr 1 0), (5, .ptr 2 0)] [10, 11] A63_0 B63_0, .box [nilS], .box [.lit (.int .i64 n)]]
  else [.loop 0 none [(4, .ptr 1 0), (5, .ptr 3 0)] [10, 11] A63_0 B63_0, .box [.own 2 acc.length 2 0 acc.length], .arr true false false 2 (acc.map encBk), .box [.lit (.int .i64 n)]]
theorem scY0 (n : Nat) (x : Bk) (p : Nat) (t : Int) :
    call E (.yld 0) [.agg (encBk x), .agg [.lit (.int .i64 p), .lit (.int .i64 t)]] (scH [] n)
      = some (.lit (.bool true), [.loop 0 none [(4, .ptr 1 0), (5, .ptr 2 0)] [10, 11] A63_0 B63_0, .box [.own 3 1 2 0 1], .box [.lit (.int .i64 p)], .arr true false false 2 [encBk x]]) := by
  simp [go_sem, scH, encBk, run_codeL E A63_0.eq_1, run_codeL E B63_0.eq_1, purse_eq, List.range_succ]
theorem scY1 (acc : List Bk) (ha : acc.length ≤ 1099511627) (h : acc ≠ []) (n : Nat) (x : Bk) (p : Nat) (t : Int) :
    call E (.yld 0) [.agg (encBk x), .agg [.lit (.int .i64 p), .lit (.int .i64 t)]] (scH acc n)
      = some (.lit (.bool true), scH (acc ++ [x]) p) := by
  have hb : ¬ (70368744177664 < (acc.length + 1) * 32) := by omega
  simp [go_sem, scH, h, encBk, run_codeL E A63_0.eq_1, run_codeL E B63_0.eq_1, purse_eq, List.range_succ, hb]

theorem get_good {b : List Nat} (hb : ∀ c ∈ b, c < 256) (h : (getB b).2.2 = 0) :
    chkB (getB b).1.1 (getB b).1.2 = 0 ∧ (∀ r ∈ (getB b).1.2, 0 ≤ r.Drive ∧ r.Drive ≤ 4294967295) ∧ 1 ≤ (getB b).2.1 ∧ (getB b).2.1 ≤ b.length ∧ b.take (getB b).2.1.toNat = wholeB (numsN (getB b).1.1 (getB b).1.2) := by
  obtain ⟨f, R, n, e, h1, h2, h3, h4, h5⟩ := put_of_get hb h
  rw [e]
  exact ⟨h1, h2, by simp; omega, by simp; omega, by simpa using h3⟩

/-- The heap at the head of the loop of blocks. -/
def scB (nl fu : Bool) (b : List Nat) (acc : List Bk) (p : Nat) (t : Int) (n : Nat) : Heap :=
  if acc = [] then [.box [.imm nl fu true (b.map encB)], .loop 0 none [(4, .ptr 2 0), (5, .ptr 3 0)] [10, 11] A63_0 B63_0, .box [nilS], .box [.lit (.int .i64 n)], .box [.lit (.int .i64 p), .lit (.int .i64 t)]]
  else [.box [.imm nl fu true (b.map encB)], .loop 0 none [(4, .ptr 2 0), (5, .ptr 3 0)] [10, 11] A63_0 B63_0, .box [.own 4 acc.length 2 0 acc.length], .box [.lit (.int .i64 n)], .arr true false false 2 (acc.map encBk), .box [.lit (.int .i64 p), .lit (.int .i64 t)]]
/-- Where the place is. -/
def atI (acc : List Bk) : Nat := if acc = [] then 4 else 5
def scF (nl fu : Bool) (b : List Nat) (acc : List Bk) (n : Nat) : Heap :=
  if acc = [] then [.box [.imm nl fu true (b.map encB)], .loop 0 none [(4, .ptr 2 0), (5, .ptr 3 0)] [10, 11] A63_0 B63_0, .box [nilS], .box [.lit (.int .i64 n)]]
  else [.box [.imm nl fu true (b.map encB)], .loop 0 none [(4, .ptr 2 0), (5, .ptr 3 0)] [10, 11] A63_0 B63_0, .box [.own 4 acc.length 2 0 acc.length], .box [.lit (.int .i64 n)], .arr true false false 2 (acc.map encBk)]

theorem scan_loop (b : List Nat) (hb : ∀ c ∈ b, c < 256) (hl : b.length ≤ 1000000) (nl fu : Bool) (hnl : nl = false ∨ b = []) :
    ∀ (d p : Nat) (t : Int) (acc : List Bk), b.length + 1 ≤ p + d → p ≤ b.length → acc.length ≤ p → (0 ≤ t ∧ t ≤ 1073741824) →
   finK 4 [] (run E 4 [.code L111_0, .inLoop [1000000, 0, 1, 3] L111_0, .inBlock 0]
     [(0, .yld 1), (1, .ptr 0 0), (3, .ptr (atI acc) 0)] (scB nl fu b acc p t p))
    = some (.tup [], scF nl fu b (scanGo d b p t acc).1 (scanGo d b p t acc).2.1) := by
  intro d
  induction d with
  | zero => intro p t acc hd hp; omega
  | succ d ih =>
    intro p t acc hd hp ha ht
    have hG := bget_spec (b.drop p) (fun c hc => hb c (List.mem_of_mem_drop hc)) (by simp; omega) nl (fu) (by rcases hnl with h | h; exact .inl h; subst h; exact .inr (by simp))
    rw [List.map_drop] at hG
    have hr := rowsB b
    by_cases h : (getB (b.drop p)).2.2 = 0
    · obtain ⟨g1, g2, g3, g4, g5⟩ := get_good (fun c hc => hb c (List.mem_of_mem_drop hc)) h
      have gk := chkB_ok g1
      simp at g4
      by_cases h2 : (getB (b.drop p)).1.1 = t
      · have hn : scanGo (d + 1) b p t acc = scanGo d b (p + (getB (b.drop p)).2.1.toNat) (t + sumN (getB (b.drop p)).1.2) (acc ++ [(getB (b.drop p)).1]) := by
          rw [scanGo, if_pos ⟨h, h2⟩]
        rw [hn]
        clear hn
        have hT := ticks_spec (getB (b.drop p)).1.2 (by omega) (chkB_Ok g1) false false
        rw [ticks_eq, if_pos gk.2.2.2.1, gk.2.2.2.1] at hT
        have hs := (chk_right gk.2.2.2.1).2
        rw [h] at hG
        have ih2 := ih (p + (getB (b.drop p)).2.1.toNat) (t + sumN (getB (b.drop p)).1.2) (acc ++ [(getB (b.drop p)).1]) (by omega) (by omega) (by simp; omega) (by omega)
        have wp : IntKind.wrap .i64 ((p : Int) + (getB (b.drop p)).2.1) = ((p + (getB (b.drop p)).2.1.toNat : Nat) : Int) := by rw [wrap64 (by omega) (by omega)]; omega
        have wt : IntKind.wrap .i64 (t + sumN (getB (b.drop p)).1.2) = t + sumN (getB (b.drop p)).1.2 := by rw [wrap64 (by omega) (by omega)]
        have hR := gk.2.1
        have hY0 := scY0 p (getB (b.drop p)).1 (p + (getB (b.drop p)).2.1.toNat) (t + sumN (getB (b.drop p)).1.2)
        have hY1 := fun ha0 => scY1 acc (by omega) ha0 p (getB (b.drop p)).1 (p + (getB (b.drop p)).2.1.toNat) (t + sumN (getB (b.drop p)).1.2)
        generalize scanGo d b _ _ _ = Q at ih2 ⊢
        clear g5
        generalize getB (b.drop p) = g at *
        obtain ⟨⟨f, R⟩, m, e⟩ := g
        simp only [] at *
        subst h2
        simp [resV, resHl, hR] at hG
        by_cases ha0 : acc = []
        · subst ha0
          simp [scH, encBk, nilS] at hY0
          simp [scB, nilS, encBk, atI] at ih2
          generalize scF nl fu b Q.1 Q.2.1 = F at *
          simp [go_sem, run_codeL E L111_0.eq_1, hp, hr, take_allB, hG, hT, wp, wt, scB, atI, purse_eq, hY0, nilS]
          rw [run_inLoop']
          simp [go_sem, purse_eq, List.range_succ]
          simpa using ih2
        · have hY := hY1 ha0
          simp [scH, ha0, encBk, nilS] at hY
          simp [scB, nilS, encBk, atI] at ih2
          generalize scF nl fu b Q.1 Q.2.1 = F at *
          simp [go_sem, run_codeL E L111_0.eq_1, hp, hr, take_allB, hG, hT, wp, wt, scB, atI, ha0, purse_eq, hY, nilS]
          rw [run_inLoop']
          simp [go_sem, purse_eq, List.range_succ]
          simpa using ih2
      · have hn : scanGo (d + 1) b p t acc = (acc, p, t) := by
          rw [scanGo, if_neg (by intro q; exact h2 q.2)]
        rw [hn]
        clear hn
        rw [h] at hG
        have hR := gk.2.1
        clear g5
        generalize getB (b.drop p) = g at *
        obtain ⟨⟨f, R⟩, m, e⟩ := g
        simp only [] at *
        simp [resV, resHl, hR] at hG
        by_cases ha0 : acc = []
        · subst ha0
          simp [go_sem, run_codeL E L111_0.eq_1, hp, hr, take_allB, hG, scB, scF, atI, purse_eq, List.range_succ, h2]
        · simp [go_sem, run_codeL E L111_0.eq_1, hp, hr, take_allB, hG, scB, scF, atI, ha0, purse_eq, List.range_succ, h2]
    · have hn : scanGo (d + 1) b p t acc = (acc, p, t) := by
        rw [scanGo, if_neg (by intro q; exact h q.1)]
      rw [hn]
      clear hn
      obtain ⟨g1, g2⟩ := get_bad h
      generalize getB (b.drop p) = g at *
      obtain ⟨⟨f, R⟩, m, e⟩ := g
      simp only [Prod.mk.injEq] at *
      obtain ⟨g1, g3⟩ := g1
      subst g1 g2 g3
      simp [resV, resHl] at hG
      by_cases ha0 : acc = []
      · subst ha0
        simp [go_sem, run_codeL E L111_0.eq_1, hp, hr, take_allB, hG, scB, scF, atI, purse_eq, List.range_succ, h]
      · simp [go_sem, run_codeL E L111_0.eq_1, hp, hr, take_allB, hG, scB, scF, atI, ha0, purse_eq, List.range_succ, h]
end Go.AM.R1
open Go Go.AM
namespace Go.AM.R1

theorem blocks1_spec (b : List Nat) (hb : ∀ c ∈ b, c < 256) (hl : b.length ≤ 1000000) (nl fu : Bool) (hnl : nl = false ∨ b = []) :
    call E (.func (.func 111) [] [.ptr 0 0]) [.yld 1] [.box [.imm nl fu true (b.map encB)], .loop 0 none [(4, .ptr 2 0), (5, .ptr 3 0)] [10, 11] A63_0 B63_0, .box [nilS], .box [.lit (.int .i64 0)]]
     = some (.tup [], scF nl fu b (scanB b).1 (scanB b).2.1) := by
  rw [call_func E E111]
  have h := scan_loop b hb hl nl fu hnl (b.length + 1) 0 0 [] (by omega) (by omega) (by simp) (by omega)
  rw [show scanGo (b.length + 1) b 0 0 [] = scanB b from rfl] at h
  generalize scF nl fu b (scanB b).1 (scanB b).2.1 = F at h ⊢
  simp [scB, nilS] at h
  simp [go_sem, ir111, purse_eq, nilS]
  rw [run_inLoop']
  simp [go_sem, purse_eq, List.range_succ]
  exact h
theorem blocks_spec (nl fu : Bool) (rows : List (List AVal)) : call E (.func (.func 85) [] []) [.imm nl fu true rows] [] = some (.func (.func 111) [] [.ptr 0 0], [.box [.imm nl fu true rows]]) := by
  rw [call_func E E85]
  simp [go_sem, ir85, purse_eq]
def bkV (i : Nat) (l : List Bk) : AVal := if l = [] then nilS else .own i l.length 2 0 l.length
def bkH (l : List Bk) : Heap := if l = [] then [] else [.arr true false false 2 (l.map encBk)]
theorem scan_spec (b : List Nat) (hb : ∀ c ∈ b, c < 256) (hl : b.length ≤ 1000000) (nl fu : Bool) (hnl : nl = false ∨ b = []) :
    call E (.func (.func 63) [] []) [.imm nl fu true (b.map encB)] []
      = some (.tup [bkV 0 (scanB b).1, .lit (.int .i64 (scanB b).2.1)], bkH (scanB b).1) := by
  rw [call_func E E63]
  have hS := blocks_spec nl fu (b.map encB)
  have hN := blocks1_spec b hb hl nl fu hnl
  generalize scanB b = g at *
  simp [nilS] at hN
  by_cases h : g.1 = []
  · simp [scF, h, nilS] at hN
    simp [go_sem, ir63, hS, hN, h, bkV, bkH, purse_eq, nilS]
  · simp [scF, h, nilS] at hN
    simp [go_sem, ir63, hS, hN, h, bkV, bkH, purse_eq, nilS]
end Go.AM.R1
open Go Go.AM
namespace Go.AM.R1

/-! ### The document's Scan -/
theorem get_nil : (getB []).2.2 ≠ 0 := by decide
end Go.AM.R1
open Go Go.AM
namespace Go.AM.R1

/-! ### The blocks of bytes -/
def putBk (x : Bk) : List Nat := wholeB (numsN x.1 x.2)
def blksB (l : List Bk) : List Nat := l.flatMap putBk
def totB (l : List Bk) : Int := match l with | [] => 0 | x :: r => sumN x.2 + totB r
def Good : Int → List Bk → Prop
  | _, [] => True
  | t, x :: r => x.1 = t ∧ chkB x.1 x.2 = 0 ∧ (∀ r ∈ x.2, 0 ≤ r.Drive ∧ r.Drive ≤ 4294967295) ∧ Good (t + sumN x.2) r
theorem blksB_cons (x : Bk) (l : List Bk) : blksB (x :: l) = putBk x ++ blksB l := rfl
theorem blksB_append (l m : List Bk) : blksB (l ++ m) = blksB l ++ blksB m := by simp [blksB]
theorem totB_append : ∀ (l m : List Bk), totB (l ++ m) = totB l + totB m
  | [], m => by simp [totB]
  | x :: l, m => by simp only [List.cons_append, totB]; rw [totB_append l m]; omega
theorem good_append : ∀ (l m : List Bk) (t : Int), Good t (l ++ m) ↔ Good t l ∧ Good (t + totB l) m
  | [], m, t => by simp [Good, totB]
  | x :: l, m, t => by
    simp only [List.cons_append, Good, totB]
    rw [good_append l m (t + sumN x.2), Int.add_assoc]
    simp only [and_assoc]
theorem good_tot : ∀ (l : List Bk) (t : Int), 0 ≤ t → t ≤ 1073741824 → Good t l → 0 ≤ totB l ∧ t + totB l ≤ 1073741824
  | [], t, h0, h, _ => by simp [totB]; omega
  | x :: l, t, h0, h, g => by
    obtain ⟨g1, g2, g3, g4⟩ := g
    have gk := chkB_ok g2
    have hs := (chk_right gk.2.2.2.1).2
    have := good_tot l (t + sumN x.2) (by omega) (by omega) g4
    simp only [totB]
    omega
theorem putBk_len {x : Bk} (h : chkB x.1 x.2 = 0) : 6 ≤ (putBk x).length ∧ (putBk x).length ≤ 42000 := by
  have h1 := inside_65536 h
  have h2 := whole_len (numsN x.1 x.2)
  have h3 := putN_len64 (n := (bytesN (numsN x.1 x.2)).length) (by omega)
  have h4 := List.length_pos_iff.2 (putN_pos (bytesN (numsN x.1 x.2)).length)
  have h5 : 1 ≤ (bytesN (numsN x.1 x.2)).length := by
    simp only [numsN, bytesN, List.flatMap_cons, List.length_append]
    have := List.length_pos_iff.2 (putN_pos x.1.toNat)
    omega
  unfold putBk
  omega
theorem good_len : ∀ (l : List Bk) (t : Int), Good t l → 6 * l.length ≤ (blksB l).length
  | [], _, _ => by simp
  | x :: l, t, g => by
    have := putBk_len g.2.1
    have := good_len l _ g.2.2.2
    rw [blksB_cons, List.length_append, List.length_cons]
    omega
theorem scan_facts (b : List Nat) (hb : ∀ c ∈ b, c < 256) : ∀ (d p : Nat) (t : Int) (acc : List Bk), p ≤ b.length →
    ∃ l, (scanGo d b p t acc).1 = acc ++ l ∧ Good t l ∧ (scanGo d b p t acc).2.1 = p + (blksB l).length ∧ p + (blksB l).length ≤ b.length ∧ (b.drop p).take (blksB l).length = blksB l ∧ (scanGo d b p t acc).2.2 = t + totB l := by
  intro d
  induction d with
  | zero => intro p t acc hp; exact ⟨[], by simp [scanGo, Good, blksB, totB, hp]⟩
  | succ d ih =>
    intro p t acc hp
    rw [scanGo]
    split
    · rename_i h
      obtain ⟨g1, g2, g3, g4, g5⟩ := get_good (fun c hc => hb c (List.mem_of_mem_drop hc)) h.1
      simp at g4
      generalize hg : getB (b.drop p) = g at *
      obtain ⟨⟨f, R⟩, m, e⟩ := g
      simp only [] at *
      obtain ⟨l, e1, e2, e3, e4, e5, e6⟩ := ih (p + m.toNat) (t + sumN R) (acc ++ [(f, R)]) (by omega)
      have hlen : (wholeB (numsN f R)).length = m.toNat := by rw [← g5]; simp; omega
      refine ⟨(f, R) :: l, by rw [e1]; simp, ⟨h.2, g1, g2, e2⟩, ?_, ?_, ?_, ?_⟩
      · rw [e3, blksB_cons, List.length_append]; show _ = p + ((wholeB (numsN f R)).length + _); omega
      · rw [blksB_cons, List.length_append]; show p + ((wholeB (numsN f R)).length + _) ≤ _; omega
      · rw [blksB_cons, List.length_append, List.take_add]
        show List.take (wholeB (numsN f R)).length _ ++ List.take _ (List.drop (wholeB (numsN f R)).length _) = wholeB (numsN f R) ++ _
        rw [hlen, g5, List.drop_drop, e5]
      · rw [e6]; simp only [totB]; omega
    · exact ⟨[], by simp [Good, blksB, totB, hp]⟩
theorem scanB_facts {b : List Nat} (hb : ∀ c ∈ b, c < 256) : Good 0 (scanB b).1 ∧ (scanB b).2.1 = (blksB (scanB b).1).length ∧ (scanB b).2.1 ≤ b.length ∧ b.take (scanB b).2.1 = blksB (scanB b).1 ∧ (scanB b).2.2 = totB (scanB b).1 := by
  obtain ⟨l, e1, e2, e3, e4, e5, e6⟩ := scan_facts b hb (b.length + 1) 0 0 [] (by omega)
  rw [show scanGo (b.length + 1) b 0 0 [] = scanB b from rfl] at *
  simp at e1 e3 e4 e5 e6
  rw [e1, e3]
  exact ⟨e2, rfl, e4, e5, e6⟩
/-- Blocks that are put one behind the other are found. -/
theorem scan_put (b : List Nat) : ∀ (l : List Bk) (d p : Nat) (t : Int) (acc : List Bk), l.length + 1 ≤ d → Good t l → (b.drop p) = blksB l → scanGo d b p t acc = (acc ++ l, p + (blksB l).length, t + totB l) := by
  intro l
  induction l with
  | nil =>
    intro d p t acc hd hg hp
    obtain ⟨d, rfl⟩ : ∃ e, d = e + 1 := ⟨d - 1, by simp at hd; omega⟩
    rw [scanGo, hp, if_neg (by intro q; exact get_nil q.1)]
    simp [blksB, totB]
  | cons x l ih =>
    intro d p t acc hd hg hp
    obtain ⟨d, rfl⟩ : ∃ e, d = e + 1 := ⟨d - 1, by simp at hd; omega⟩
    obtain ⟨g1, g2, g3, g4⟩ := hg
    have hG := get_of_put g2 g3 (blksB l)
    rw [scanGo, hp, blksB_cons]
    show (if (getB (wholeB (numsN x.1 x.2) ++ blksB l)).2.2 = 0 ∧ (getB (wholeB (numsN x.1 x.2) ++ blksB l)).1.1 = t then _ else _) = _
    rw [show putBk x = wholeB (numsN x.1 x.2) from rfl, hG]
    simp only []
    rw [if_pos ⟨trivial, g1⟩]
    rw [ih d (p + ((wholeB (numsN x.1 x.2)).length : Int).toNat) (t + sumN x.2) _ (by simp at hd; omega) g4 (by
      rw [Int.toNat_natCast, ← List.drop_drop, hp, blksB_cons]; show List.drop (wholeB (numsN x.1 x.2)).length (wholeB (numsN x.1 x.2) ++ _) = _; rw [List.drop_left])]
    simp [totB, List.length_append]
    omega
theorem scanB_put {l : List Bk} (h : Good 0 l) : scanB (blksB l) = (l, (blksB l).length, totB l) := by
  have := good_len l 0 h
  have := scan_put (blksB l) l ((blksB l).length + 1) 0 0 [] (by omega) h rfl
  simpa [scanB] using this
end Go.AM.R1
open Go Go.AM
namespace Go.AM.R1

/-! ### What the machine does that was not needed before -/
def appZK (fl : Bool) (sz bytes : Nat) (zero : List AVal) (H : Heap) (s : AVal) : AVal → Option (AVal × Heap)
  | .lit (.int .i64 l) => if 0 ≤ l ∧ l ≤ 2 ^ 46 ∧ l * bytes ≤ 2 ^ 46 then aadd fl sz bytes H s (flatL zero) (List.replicate l.toNat zero) else none
  | _ => none
theorem aop_appendZ {c : Callee} {ρ : Opd → AVal} {H : Heap} (fl sz b z s n) : aop c ρ H (.appendZ fl sz b z s n) = appZK fl sz b z H (ρ s) (ρ n) := by
  unfold aop appZK; rfl
theorem appZK_int (fl : Bool) (sz bytes : Nat) (zero : List AVal) (H : Heap) (s : AVal) (l : Int) : appZK fl sz bytes zero H s (.lit (.int .i64 l)) = if 0 ≤ l ∧ l ≤ 2 ^ 46 ∧ l * bytes ≤ 2 ^ 46 then aadd fl sz bytes H s (flatL zero) (List.replicate l.toNat zero) else none := rfl
def capK (H : Heap) : AVal → Option (AVal × Heap)
  | .imm _ true _ es => some (vint .i64 es.length, H)
  | _ => none
theorem aop_cap {c : Callee} {ρ : Opd → AVal} {H : Heap} (x) : aop c ρ H (.cap x) = capK H (ρ x) := by
  unfold aop capK; rfl
theorem capK_imm (H : Heap) (n fl es) : capK H (.imm n true fl es) = some (vint .i64 es.length, H) := rfl
def cutK (sz : Nat) (H : Heap) (i len off n lo h m : Nat) : Option Entry → Option (AVal × Heap)
  | some (.arr fl lk _ se es) => if es.length = len ∧ se = sz ∧ off = 0 ∧ n = len ∧ lo = 0 ∧ h = m ∧ m ≤ n then
      some (.own H.length h sz 0 h, H.set i .dead ++ [.arr fl lk true sz (es.take h)]) else none
  | _ => none
theorem aslice_own_mx (sz : Nat) (H : Heap) (i len so off n lo h m : Nat) : aslice sz H (.own i len so off n) lo (some h) (some m) = if so ≠ sz then none else cutK sz H i len off n lo h m H[i]? := by
  simp only [aslice]
  split
  · rfl
  · cases H[i]? with
    | none => rfl
    | some e => cases e <;> rfl
theorem cutK_arr (sz : Nat) (H : Heap) (i len off n lo h m : Nat) (fl lk fu se es) : cutK sz H i len off n lo h m (some (.arr fl lk fu se es)) = if es.length = len ∧ se = sz ∧ off = 0 ∧ n = len ∧ lo = 0 ∧ h = m ∧ m ≤ n then
      some (.own H.length h sz 0 h, H.set i .dead ++ [.arr fl lk true sz (es.take h)]) else none := rfl
attribute [go_sem] aop_appendZ appZK_int aop_cap capK_imm aslice_own_mx cutK_arr

theorem rowsR (l : List Run) : rowsOk 3 (l.map encRun) = true := rowsOk_map (f := encRun) (fun _ => rfl) l
theorem noImm_encRun (l : List Run) : noImmLL (l.map encRun) = true := noImmLL_map (fun _ => rfl) l

/-! ### slices.Grow, Concat and Clone of runs -/
theorem grow_nil (n : Nat) (hn : n ≤ 1000000) : call E (.func (.func 110) [] []) [nilS, .lit (.int .i64 n)] []
    = some (if n = 0 then (nilS, []) else (.own 0 n 3 0 0, [.arr true false false 3 (List.replicate n [.lit (.int .i64 0), .lit (.int .i64 0), .lit (.int .u32 0)])])) := by
  rw [call_func E E110]
  have h0 : ¬ (n : Int) < 0 := by omega
  have w0 : IntKind.wrap .i64 0 = 0 := rfl
  have w1 : IntKind.wrap .i64 (n : Int) = n := wrap64 (by omega) (by omega)
  by_cases h : n = 0
  · subst h
    simp [go_sem, ir110, w0, purse_eq]
  · have h1 : 0 < (n : Int) := by omega
    have h1' : 0 < n := by omega
    have h2 : (n : Int) ≤ 70368744177664 := by omega
    have h3 : (n : Int) * 24 ≤ 70368744177664 := by omega
    have h4 : ¬ (70368744177664 < n * 24) := by omega
    have hr : rowsOk 3 (List.replicate n [AVal.lit (.int .i64 0), .lit (.int .i64 0), .lit (.int .u32 0)]) = true := by
      simp [rowsOk]
    simp [go_sem, ir110, h, h0, h1, h1', h2, h3, h4, hr, w0, w1, purse_eq, flatL, flatV]
theorem concat2_spec (X Y : List Run) (hl : X.length + Y.length ≤ 1000000) (fu xn xf yn yf : Bool) :
    call E (.func (.func 81) [] []) [.imm false fu true [[.imm xn xf true (X.map encRun)], [.imm yn yf true (Y.map encRun)]]] []
      = some (if X ++ Y = [] then (nilS, []) else (.own 0 (X ++ Y).length 3 0 (X ++ Y).length, [.arr true false false 3 ((X ++ Y).map encRun)])) := by
  rw [call_func E E81]
  have hG := grow_nil (X.length + Y.length) hl
  have wx : IntKind.wrap .i64 (X.length : Int) = X.length := wrap64 (by omega) (by omega)
  have wxy : IntKind.wrap .i64 ((X.length : Int) + (Y.length : Int)) = ((X.length + Y.length : Nat) : Int) := by rw [wrap64 (by omega) (by omega)]; omega
  have w1 : IntKind.wrap .i64 1 = 1 := rfl
  have w2 : IntKind.wrap .i64 2 = 2 := rfl
  have h0 : ¬ (X.length : Int) < 0 := by omega
  have h1 : ¬ ((X.length + Y.length : Nat) : Int) < 0 := by omega
  have h1' : ¬ (X.length : Int) + (Y.length : Int) < 0 := by omega
  have rX := rowsR X
  have rY := rowsR Y
  simp only [Int.natCast_add] at wxy hG h1
  simp [go_sem, ir81, purse_eq]
  rw [run_inLoop']
  simp [go_sem, purse_eq, run_codeL E L81_0.eq_1, wx, w1, h0]
  rw [run_inLoop']
  simp [go_sem, purse_eq, run_codeL E L81_0.eq_1, wxy, w2, h1']
  rw [run_inLoop']
  simp [go_sem, purse_eq, run_codeL E L81_0.eq_1]
  by_cases hX : X = []
  · subst hX
    by_cases hY : Y = []
    · subst hY
      simp [nilS] at hG
      simp [go_sem, hG, nilS, purse_eq]
      rw [run_inLoop']
      simp [go_sem, purse_eq, run_codeL E L81_1.eq_1, w1]
      rw [run_inLoop']
      simp [go_sem, purse_eq, run_codeL E L81_1.eq_1, w2]
      rw [run_inLoop']
      simp [go_sem, purse_eq, run_codeL E L81_1.eq_1]
    · have hp := List.length_pos_iff.2 hY
      have hne : ¬ 0 = Y.length := by omega
      have hb : ¬ (70368744177664 < Y.length * 24) := by omega
      simp [nilS, hY] at hG
      simp [go_sem, hG, nilS, purse_eq]
      rw [run_inLoop']
      simp [go_sem, purse_eq, run_codeL E L81_1.eq_1, w1, hY]
      rw [run_inLoop']
      simp [go_sem, purse_eq, run_codeL E L81_1.eq_1, w2, hY, rY, hne, hb]
      rw [run_inLoop']
      simp [go_sem, purse_eq, run_codeL E L81_1.eq_1, hY]
  · have hp := List.length_pos_iff.2 hX
    have hne : ¬ 0 = X.length + Y.length := by omega
    have hb : ¬ (70368744177664 < X.length * 24) := by omega
    have hb2 : ¬ (70368744177664 < (X.length + Y.length) * 24) := by omega
    simp [nilS, hX] at hG
    simp [go_sem, hG, nilS, purse_eq]
    rw [run_inLoop']
    simp [go_sem, purse_eq, run_codeL E L81_1.eq_1, w1, hX, rX, hne, hb]
    rw [run_inLoop']
    by_cases hY : Y = []
    · subst hY
      simp [go_sem, purse_eq, run_codeL E L81_1.eq_1, w2, hX]
      rw [run_inLoop']
      simp [go_sem, purse_eq, run_codeL E L81_1.eq_1, hX]
    · simp [go_sem, purse_eq, run_codeL E L81_1.eq_1, w2, hX, hY, rY, hb2]
      rw [run_inLoop']
      simp [go_sem, purse_eq, run_codeL E L81_1.eq_1, hX]
theorem rclone_spec (X : List Run) (hl : X.length ≤ 1000000) (xf : Bool) :
    call E (.func (.func 74) [] []) [.imm false xf true (X.map encRun)] [] = some (.own 0 X.length 3 0 X.length, [.arr true false X.isEmpty 3 (X.map encRun)]) := by
  rw [call_func E E74]
  have rX := rowsR X
  have hb : ¬ (70368744177664 < X.length * 24) := by omega
  cases X with
  | nil => simp [go_sem, ir74, purse_eq]
  | cons x r =>
    simp at rX
    have hb' : ¬ (70368744177664 < (r.length + 1) * 24) := by simp at hl; omega
    simp [go_sem, ir74, rX, hb', purse_eq]
theorem rclone_nil : call E (.func (.func 74) [] []) [nilS] [] = some (nilS, []) := by
  rw [call_func E E74]
  simp [go_sem, ir74, purse_eq, nilS]
end Go.AM.R1
open Go Go.AM
namespace Go.AM.R1

/-! ### A file, and the log in a new one -/
def fileB (bV : AVal) (sure : Nat) (most : Int) (cr : Bool) : Entry := .box [bV, .lit (.int .i64 sure), .lit (.int .i64 most), .lit (.bool cr)]
theorem fnew_spec (most : Int) (h : 1 ≤ most ∧ most ≤ 67108864) : call E (.func (.func 64) [] []) [.lit (.int .i64 most)] [] = some (.tup [.ptr 0 0, .lit (.int .i64 0)], [fileB nilS 0 most false]) := by
  rw [call_func E E64]
  have h1 : ¬ most < 1 := by omega
  have h2 : ¬ 67108864 < most := by omega
  simp [go_sem, ir64, h1, h2, fileB, nilS, purse_eq, List.range_succ]
theorem fcheck_spec (bV : AVal) (sure : Nat) (most : Int) (cr : Bool) (H : Heap) (hr : reach (fileB bV sure most cr :: H) purse (refsV bV ++ []) [0] = some (List.range (H.length + 1))) : True := trivial

/-! #### New -/
def fN (most : Int) (cr : Bool) : Heap := [fileB nilS 0 most cr]
theorem ncheck (most : Int) (cr : Bool) : call E (.func (.func 82) [] []) [.ptr 0 0] (fN most cr) = some (.lit (.int .i64 (if cr = true then 25 else 0)), fN most cr) := by
  rw [call_func E E82]
  cases cr <;> simp [go_sem, ir82, fN, fileB, nilS, purse_eq, List.range_succ]
theorem nsize (most : Int) (cr : Bool) : call E (.func (.func 78) [] []) [.ptr 0 0] (fN most cr) = some (.lit (.int .i64 0), fN most cr) := by
  rw [call_func E E78]
  simp [go_sem, ir78, fN, fileB, nilS, purse_eq, List.range_succ]
theorem nflush (most : Int) (cr : Bool) : call E (.func (.func 75) [] []) [.ptr 0 0] (fN most cr) = some (.lit (.int .i64 (if cr = true then 25 else 0)), fN most cr) := by
  rw [call_func E E75]
  have h1 := ncheck most cr
  have h2 := nsize most cr
  cases cr
  · simp [fN, fileB, nilS] at h1 h2
    simp [go_sem, ir75, fN, fileB, nilS, h1, h2, purse_eq, List.range_succ]
  · simp [fN, fileB, nilS] at h1 h2
    simp [go_sem, ir75, fN, fileB, nilS, h1, h2, purse_eq, List.range_succ]
theorem nlen (most : Int) (cr : Bool) : call E (.func (.func 36) [] []) [.ptr 0 0] (fN most cr) = some (.lit (.int .i64 0), fN most cr) := by
  rw [call_func E E36]
  have h2 := nsize most cr
  simp [fN, fileB, nilS] at h2
  simp [go_sem, ir36, fN, fileB, nilS, h2, purse_eq, List.range_succ]
theorem nsure (most : Int) (cr : Bool) : call E (.func (.func 73) [] []) [.ptr 0 0] (fN most cr) = some (.lit (.int .i64 0), fN most cr) := by
  rw [call_func E E73]
  simp [go_sem, ir73, fN, fileB, nilS, purse_eq, List.range_succ]
theorem bclone_nil (fu : Bool) : call E (.func (.func 70) [] []) [.imm true fu true []] [] = some (nilS, []) := by
  rw [call_func E E70]
  simp [go_sem, ir70, purse_eq]
theorem nbytes (most : Int) (cr : Bool) : call E (.func (.func 24) [] []) [.ptr 0 0] (fN most cr) = some (nilS, fN most cr) := by
  rw [call_func E E24]
  have h2 := bclone_nil true
  simp [nilS] at h2
  simp [go_sem, ir24, fN, fileB, nilS, h2, purse_eq, List.range_succ]
theorem nkeep (most : Int) (cr : Bool) : call E (.func (.func 84) [] []) [.ptr 0 0, .lit (.int .i64 0)] (fN most cr) = some (.tup [], fN most cr) := by
  rw [call_func E E84]
  simp [go_sem, ir84, fN, fileB, nilS, purse_eq, List.range_succ]
theorem ncut (most : Int) : call E (.func (.func 86) [] []) [.ptr 0 0, .lit (.int .i64 0)] (fN most false) = some (.lit (.int .i64 0), fN most false) := by
  rw [call_func E E86]
  have h1 := ncheck most false
  have h2 := nsize most false
  have h3 := nkeep most false
  simp [fN, fileB, nilS] at h1 h2 h3
  simp [go_sem, ir86, fN, fileB, nilS, h1, h2, h3, purse_eq, List.range_succ]
/-! #### Log: empty -/
def lN (most : Int) (cr : Bool) : Heap := [.box [.ptr 1 0, nilS, nilS, nilS], fileB nilS 0 most cr]
theorem nlast (most : Int) (cr : Bool) : call E (.func (.func 71) [] []) [.ptr 0 0] (lN most cr) = some (.agg [.lit (.int .i64 0), .lit (.int .i64 0)], lN most cr) := by
  rw [call_func E E71]
  simp [go_sem, ir71, lN, fileB, nilS, purse_eq, List.range_succ]
theorem ticks_nil : call E (.func (.func 79) [] []) [nilS] [] = some (.tup [.lit (.int .i64 0), .lit (.int .i64 0)], []) := by
  have := ticks_spec [] (by simp) (by simp) true true
  simpa [nilS, ticks, ticksGo] using this
theorem nwaiting (most : Int) (cr : Bool) : call E (.func (.func 72) [] []) [.ptr 0 0] (lN most cr) = some (.lit (.int .i64 0), lN most cr) := by
  rw [call_func E E72]
  have h := ticks_nil
  simp [nilS] at h
  simp [go_sem, ir72, lN, fileB, nilS, h, purse_eq, List.range_succ]
theorem nticks (most : Int) (cr : Bool) : call E (.func (.func 26) [] []) [.ptr 0 0] (lN most cr) = some (.lit (.int .i64 0), lN most cr) := by
  rw [call_func E E26]
  have h1 := nlast most cr
  have h2 := nwaiting most cr
  have w : IntKind.wrap .i64 0 = 0 := rfl
  simp [lN, fileB, nilS] at h1 h2
  simp [go_sem, ir26, lN, fileB, nilS, h1, h2, w, purse_eq, List.range_succ]
theorem nlflush (most : Int) (cr : Bool) : call E (.func (.func 35) [] []) [.ptr 0 0] (lN most cr) = some (.lit (.int .i64 (if cr = true then 25 else 0)), lN most cr) := by
  rw [call_func E E35]
  have h1 := nflush most cr
  cases cr
  · simp [fN, fileB, nilS] at h1
    simp [go_sem, ir35, lN, fileB, nilS, h1, purse_eq, List.range_succ]
  · simp [fN, fileB, nilS] at h1
    simp [go_sem, ir35, lN, fileB, nilS, h1, purse_eq, List.range_succ]
theorem nruns (most : Int) (cr : Bool) : call E (.func (.func 32) [] []) [.ptr 0 0] (lN most cr) = some (.tup [nilS, .lit (.int .i64 0)], lN most cr) := by
  rw [call_func E E32]
  have h := rclone_nil
  simp [nilS] at h
  simp [go_sem, ir32, lN, fileB, nilS, h, purse_eq, List.range_succ]
theorem nlsure (most : Int) (cr : Bool) : call E (.func (.func 29) [] []) [.ptr 0 0] (lN most cr) = some (.lit (.int .i64 0), lN most cr) := by
  rw [call_func E E29]
  simp [go_sem, ir29, lN, fileB, nilS, purse_eq, List.range_succ]
  rw [run_inLoop']
  simp [go_sem, purse_eq, List.range_succ, run_codeL E L29_0.eq_1]
/-- What goes through no bytes at all. -/
theorem nblocks1 (most : Int) : call E (.func (.func 111) [] [.ptr 0 0]) [.yld 1]
      [.box [nilS], .loop 0 none [(5, .ptr 2 0)] [16, 17] A42_0 B42_0, .box [.ptr 3 0], .box [.ptr 4 0, nilS, nilS, nilS], fileB nilS 0 most false]
    = some (.tup [], [.box [nilS], .loop 0 none [(5, .ptr 2 0)] [16, 17] A42_0 B42_0, .box [.ptr 3 0], .box [.ptr 4 0, nilS, nilS, nilS], fileB nilS 0 most false]) := by
  rw [call_func E E111]
  have hG := bget_spec [] (by simp) (by simp) true true (.inr rfl)
  have hg : getB [] = ((0, []), 0, 13) := by decide
  rw [hg] at hG
  simp [resV, resHl, nilS] at hG
  simp [go_sem, ir111, fileB, purse_eq, nilS]
  rw [run_inLoop']
  simp [go_sem, purse_eq, List.range_succ]
  simp [go_sem, run_codeL E L111_0.eq_1, hG, purse_eq, List.range_succ]
theorem nopen (most : Int) : call E (.func (.func 42) [] []) [.ptr 0 0] (fN most false) = some (.tup [.ptr 1 0, .lit (.int .i64 0), .lit (.int .i64 0)], [fileB nilS 0 most false, .box [.ptr 0 0, nilS, nilS, nilS]]) := by
  rw [call_func E E42]
  have h1 := nbytes most false
  have h2 := blocks_spec true true []
  have h3 := nblocks1 most
  have h4 := nlen most false
  have h5 := nlast most false
  have h6 := ncut most
  have w : IntKind.wrap .i64 0 = 0 := rfl
  simp [fN, lN, fileB, nilS] at h1 h2 h3 h4 h5 h6
  simp [go_sem, ir42, fN, fileB, nilS, h1, h2, h3, h4, h5, h6, w, purse_eq, List.range_succ]
theorem lmade_spec (most : Int) (h : 1 ≤ most ∧ most ≤ 67108864) : call E (.func (.func 19) [] []) [.lit (.int .i64 most)] [] = some (.tup [.ptr 0 0, .ptr 1 0], lN most false) := by
  rw [call_func E E19]
  have h1 := fnew_spec most h
  have h2 := nopen most
  simp [fN, fileB, nilS] at h1 h2
  simp [go_sem, ir19, h1, h2, lN, fileB, nilS, purse_eq, List.range_succ]
end Go.AM.R1
open Go Go.AM
namespace Go.AM.R1

/-! ### A log with one block; and with runs that wait -/
def endE (n : Nat) (T : Int) : List AVal := [.lit (.int .i64 n), .lit (.int .i64 T)]
def fB (ff : Bool) (fb : List Nat) (sure : Nat) (most : Int) (cr : Bool) : Heap := [fileB (.own 1 fb.length 1 0 fb.length) sure most cr, .arr true false ff 1 (fb.map encB)]
theorem bcheck1 (ff : Bool) (fb : List Nat) (sure : Nat) (most : Int) (cr : Bool) : call E (.func (.func 82) [] []) [.ptr 0 0] (fB ff fb sure most cr) = some (.lit (.int .i64 (if cr = true then 25 else 0)), fB ff fb sure most cr) := by
  rw [call_func E E82]
  cases cr <;> simp [go_sem, ir82, fB, fileB, purse_eq, List.range_succ]
theorem bsize1 (ff : Bool) (fb : List Nat) (sure : Nat) (most : Int) (cr : Bool) : call E (.func (.func 78) [] []) [.ptr 0 0] (fB ff fb sure most cr) = some (.lit (.int .i64 fb.length), fB ff fb sure most cr) := by
  rw [call_func E E78]
  simp [go_sem, ir78, fB, fileB, purse_eq, List.range_succ]
theorem bflush1 (ff : Bool) (fb : List Nat) (sure : Nat) (most : Int) (cr : Bool) : call E (.func (.func 75) [] []) [.ptr 0 0] (fB ff fb sure most cr) = some (.lit (.int .i64 (if cr = true then 25 else 0)), fB ff fb (if cr = true then sure else fb.length) most cr) := by
  rw [call_func E E75]
  have h1 := bcheck1 ff fb sure most cr
  have h2 := bsize1 ff fb sure most cr
  cases cr
  · simp [fB, fileB] at h1 h2
    simp [go_sem, ir75, fB, fileB, h1, h2, purse_eq, List.range_succ]
  · simp [fB, fileB] at h1 h2
    simp [go_sem, ir75, fB, fileB, h1, h2, purse_eq, List.range_succ]
theorem bsure1 (ff : Bool) (fb : List Nat) (sure : Nat) (most : Int) (cr : Bool) : call E (.func (.func 73) [] []) [.ptr 0 0] (fB ff fb sure most cr) = some (.lit (.int .i64 sure), fB ff fb sure most cr) := by
  rw [call_func E E73]
  simp [go_sem, ir73, fB, fileB, purse_eq, List.range_succ]
/-- Bytes that are put into a new file. -/
theorem nadd (most : Int) (b : List Nat) (hb : b ≠ []) (hl : b.length ≤ 1000000) (fu : Bool) : call E (.func (.func 83) [] []) [.ptr 0 0, .imm false fu true (b.map encB)] (fN most false)
    = some (.tup [], fB false b 0 most false) := by
  rw [call_func E E83]
  have hr := rowsB b
  have hp := List.length_pos_iff.2 hb
  have hbb : ¬ (70368744177664 < b.length) := by omega
  simp [go_sem, ir83, fN, fB, fileB, nilS, hr, hb, hbb, purse_eq, List.range_succ]
theorem nfappend (most : Int) (b : List Nat) (hb : b ≠ []) (hl : b.length ≤ 1000000) (hm : (b.length : Int) ≤ most) (hm2 : most ≤ 67108864) (fu : Bool) : call E (.func (.func 40) [] []) [.ptr 0 0, .imm false fu true (b.map encB)] (fN most false)
    = some (.lit (.int .i64 0), fB false b 0 most false) := by
  rw [call_func E E40]
  have h1 := ncheck most false
  have h2 := nsize most false
  have h3 := nadd most b hb hl fu
  have w : IntKind.wrap .i64 (most - 0) = most := by rw [Int.sub_zero, wrap64 (by omega) (by omega)]
  have w' : IntKind.wrap .i64 most = most := by rw [wrap64 (by omega) (by omega)]
  have h4 : ¬ most < (b.length : Int) := by omega
  simp [fN, fB, fileB, nilS] at h1 h2 h3
  simp [go_sem, ir40, fN, fB, fileB, nilS, h1, h2, h3, w, w', h4, purse_eq, List.range_succ]
/-! #### Runs that wait -/
def lW (lk : Bool) (W : List Run) (most : Int) : Heap := [.box [.ptr 1 0, nilS, nilS, .own 2 W.length 3 0 W.length], fileB nilS 0 most false, .arr true lk false 3 (W.map encRun)]
theorem wlast (lk : Bool) (W : List Run) (most : Int) : call E (.func (.func 71) [] []) [.ptr 0 0] (lW lk W most) = some (.agg [.lit (.int .i64 0), .lit (.int .i64 0)], lW lk W most) := by
  rw [call_func E E71]
  simp [go_sem, ir71, lW, fileB, nilS, purse_eq, List.range_succ]
/-- Runs that wait in a log with its file's bytes. -/
def lV (ff lk : Bool) (fb : List Nat) (W : List Run) (most : Int) : Heap := [.box [.ptr 1 0, nilS, nilS, .own 3 W.length 3 0 W.length], fileB (.own 2 fb.length 1 0 fb.length) 0 most false, .arr true false ff 1 (fb.map encB), .arr true lk false 3 (W.map encRun)]
theorem vwaiting (ff lk : Bool) (fb : List Nat) (W : List Run) (hl : W.length ≤ 4096) (hc : chk W = 0) (most : Int) : call E (.func (.func 72) [] []) [.ptr 0 0] (lV ff lk fb W most) = some (.lit (.int .i64 (sumN W)), lV ff true fb W most) := by
  rw [call_func E E72]
  have hT := ticks_spec W (by omega) (fun r hr => by have := (chk_right hc).1 r hr; exact ⟨by omega, by omega⟩) false false
  rw [ticks_eq, if_pos hc, hc] at hT
  simp [go_sem, ir72, lV, fileB, nilS, hT, purse_eq, List.range_succ]
theorem vwrite (ff lk : Bool) (fb : List Nat) (W : List Run) (hW : W ≠ []) (hl : W.length ≤ 4096) (hc : chk W = 0) (hj : joined [] W = W) (most : Int) (n : Nat) (T : Int) (fu : Bool) :
    call E (.func (.func 77) [] []) [.ptr 0 0, .imm false fu true (W.map encRun), .agg (endE n T)] (lV ff lk fb W most)
      = some (.tup [], [.box [.ptr 1 0, .own 4 W.length 3 0 W.length, .own 5 1 2 0 1, .own 3 W.length 3 0 W.length], fileB (.own 2 fb.length 1 0 fb.length) 0 most false, .arr true false ff 1 (fb.map encB), .arr true lk false 3 (W.map encRun), .arr true false false 3 (W.map encRun), .arr true false false 2 [endE n T]]) := by
  rw [call_func E E77]
  have hN := (chk_right hc).1
  have hok : ∀ r ∈ W, r.Ok := fun r hr => by have := hN r hr; exact ⟨by omega, by omega⟩
  have hsu := (chk_right hc).2
  have hJ := join_spec W (by omega) hok false false
  rw [joinGo_eq W 0 [] (by rw [posSum_of_right _ (fun r hr => by have := hN r hr; omega)]; omega), hj] at hJ
  have hr := rowsR W
  have hbb : ¬ (70368744177664 < W.length * 24) := by omega
  simp [resV, resH, hW] at hJ
  simp [go_sem, ir77, lV, fileB, endE, nilS, hr, hW, hbb, hJ, purse_eq, List.range_succ]
/-- What the file's bytes are, when all is written. -/
theorem wflush (lk : Bool) (W : List Run) (hc : chkB 0 W = 0) (hj : joined [] W = W) (hd : ∀ r ∈ W, 0 ≤ r.Drive ∧ r.Drive ≤ 4294967295) (most : Int) (hm : ((putBk (0, W)).length : Int) ≤ most) (hm2 : most ≤ 67108864) :
    call E (.func (.func 35) [] []) [.ptr 0 0] (lW lk W most)
      = some (.lit (.int .i64 0), [.box [.ptr 1 0, .own 3 W.length 3 0 W.length, .own 4 1 2 0 1, nilS], fileB (.own 5 (putBk (0, W)).length 1 0 (putBk (0, W)).length) (putBk (0, W)).length most false, .arr true true false 3 (W.map encRun),
          .arr true false false 3 (W.map encRun), .arr true false false 2 [endE (putBk (0, W)).length (sumN W)], .arr true false false 1 ((putBk (0, W)).map encB)]) := by
  rw [call_func E E35]
  obtain ⟨c1, c2, c3, c4, c5, c6⟩ := chkB_ok hc
  have hN := (chk_right c4).1
  have hok : ∀ r ∈ W, r.Ok := fun r hr => by have := hN r hr; exact ⟨by omega, by omega⟩
  have hsu := (chk_right c4).2
  have h1 := fun lk => wlast lk W most
  have hP := bput_spec 0 (by omega) W (by omega) hok false false hc
  rw [show wholeB (numsN 0 W) = putBk (0, W) from rfl] at hP
  have hlen := putBk_len (x := (0, W)) hc
  have hne : putBk (0, W) ≠ [] := by intro q; rw [q] at hlen; simp at hlen
  have hA := nfappend most (putBk (0, W)) hne (by omega) hm hm2 false
  have hWt := vwaiting false true (putBk (0, W)) W (by omega) c4 most
  have w1 : IntKind.wrap .i64 ((putBk (0, W)).length : Int) = (putBk (0, W)).length := wrap64 (by omega) (by omega)
  have w2 : IntKind.wrap .i64 (sumN W) = sumN W := wrap64 (by omega) (by omega)
  have hWr := vwrite false true (putBk (0, W)) W c2 (by omega) c4 hj most (putBk (0, W)).length (sumN W) false
  have hF := bflush1 false (putBk (0, W)) 0 most false
  generalize putBk (0, W) = B at *
  have h1t := h1 true
  have h1f := h1 lk
  simp [lW, fileB, nilS] at h1t h1f
  simp [encBlk] at hP
  simp [fN, fB, fileB, nilS] at hA hF
  simp [lV, fileB, nilS, endE] at hWt hWr
  simp [go_sem, ir35, lW, fileB, nilS, c2, h1f, h1t, hP, hA, hWt, hWr, hF, w1, w2, endE, purse_eq, List.range_succ]
end Go.AM.R1
open Go Go.AM
namespace Go.AM.R1

/-! ### A log with one block -/
def lB (ff lw : Bool) (fb : List Nat) (W : List Run) (T : Int) (sure : Nat) (most : Int) (cr : Bool) : Heap :=
  [.box [.ptr 1 0, .own 3 W.length 3 0 W.length, .own 4 1 2 0 1, nilS], fileB (.own 2 fb.length 1 0 fb.length) sure most cr, .arr true false ff 1 (fb.map encB), .arr true lw false 3 (W.map encRun), .arr true false false 2 [endE fb.length T]]
theorem blast1 (ff lw : Bool) (fb W T sure most cr) : call E (.func (.func 71) [] []) [.ptr 0 0] (lB ff lw fb W T sure most cr) = some (.agg (endE fb.length T), lB ff lw fb W T sure most cr) := by
  rw [call_func E E71]
  have w : IntKind.wrap .i64 (1 - 1) = 0 := rfl
  have w' : IntKind.wrap .i64 0 = 0 := rfl
  simp [go_sem, ir71, lB, fileB, endE, nilS, w, w', purse_eq, List.range_succ]
theorem bwaiting1 (ff lw : Bool) (fb W T sure most cr) : call E (.func (.func 72) [] []) [.ptr 0 0] (lB ff lw fb W T sure most cr) = some (.lit (.int .i64 0), lB ff lw fb W T sure most cr) := by
  rw [call_func E E72]
  have h := ticks_nil
  simp [nilS] at h
  simp [go_sem, ir72, lB, fileB, endE, nilS, h, purse_eq, List.range_succ]
theorem bticks1 (ff lw : Bool) (fb W) (T : Int) (hT : 0 ≤ T ∧ T ≤ 1073741824) (sure most cr) : call E (.func (.func 26) [] []) [.ptr 0 0] (lB ff lw fb W T sure most cr) = some (.lit (.int .i64 T), lB ff lw fb W T sure most cr) := by
  rw [call_func E E26]
  have h1 := blast1 ff lw fb W T sure most cr
  have h2 := bwaiting1 ff lw fb W T sure most cr
  have w : IntKind.wrap .i64 (T + 0) = T := by rw [Int.add_zero, wrap64 (by omega) (by omega)]
  have w' : IntKind.wrap .i64 T = T := wrap64 (by omega) (by omega)
  simp [lB, fileB, endE, nilS] at h1 h2
  simp [go_sem, ir26, lB, fileB, endE, nilS, h1, h2, w, w', purse_eq, List.range_succ]
theorem blflush1 (ff lw : Bool) (fb W T sure most cr) : call E (.func (.func 35) [] []) [.ptr 0 0] (lB ff lw fb W T sure most cr) = some (.lit (.int .i64 (if cr = true then 25 else 0)), lB ff lw fb W T (if cr = true then sure else fb.length) most cr) := by
  rw [call_func E E35]
  have h1 := bflush1 ff fb sure most cr
  cases cr
  · simp [fB, fileB] at h1
    simp [go_sem, ir35, lB, fileB, endE, nilS, h1, purse_eq, List.range_succ]
  · simp [fB, fileB] at h1
    simp [go_sem, ir35, lB, fileB, endE, nilS, h1, purse_eq, List.range_succ]
theorem bruns1 (ff lw : Bool) (fb W) (hW : W ≠ []) (hl : W.length ≤ 4096) (T sure most cr) : call E (.func (.func 32) [] []) [.ptr 0 0] (lB ff lw fb W T sure most cr)
    = some (.tup [.own 5 W.length 3 0 W.length, .lit (.int .i64 0)], lB ff true fb W T sure most cr ++ [.arr true false false 3 (W.map encRun)]) := by
  rw [call_func E E32]
  have h := rclone_spec W (by omega) false
  have hWe : W.isEmpty = false := by cases W with | nil => exact absurd rfl hW | cons x r => rfl
  rw [hWe] at h
  simp [go_sem, ir32, lB, fileB, endE, nilS, h, purse_eq, List.range_succ]
theorem blsure1 (ff lw : Bool) (fb W) (T sure most cr) (hs : fb.length ≤ sure) : call E (.func (.func 29) [] []) [.ptr 0 0] (lB ff lw fb W T sure most cr) = some (.lit (.int .i64 T), lB ff lw fb W T sure most cr) := by
  rw [call_func E E29]
  have h1 := bsure1 ff fb sure most cr
  have w1 : IntKind.wrap .i64 1 = 1 := rfl
  simp [fB, fileB] at h1
  simp [go_sem, ir29, lB, fileB, endE, nilS, purse_eq, List.range_succ]
  rw [run_inLoop']
  simp [go_sem, purse_eq, List.range_succ]
  simp [go_sem, run_codeL E L29_0.eq_1, h1, hs, w1, purse_eq, List.range_succ]
  rw [run_inLoop']
  simp [go_sem, purse_eq, List.range_succ]
  simp [go_sem, run_codeL E L29_0.eq_1, purse_eq, List.range_succ]
/-! ### Runs that are put in -/
theorem nlappend (W : List Run) (r : List Run) (hl : r.length ≤ 12) (hok : ∀ x ∈ r, x.Ok) (hn : ∀ x ∈ r, x.N ≤ 1000000) (most : Int) (nl fu : Bool) (hW : joined [] r = W) :
    call E (.func (.func 38) [] []) [.ptr 0 0, .imm nl fu true (r.map encRun)] (lN most false)
      = some (if chk r = 0 then (.lit (.int .i64 0), if r = [] then lN most false else lW false W most) else (.lit (.int .i64 (chk r)), lN most false)) := by
  rw [call_func E E38]
  have hT := ticks_spec r (by omega) hok nl fu
  rw [ticks_eq] at hT
  by_cases hc : chk r = 0
  · rw [if_pos hc] at hT ⊢
    rw [hc] at hT
    have hN := (chk_right hc).1
    have hsu := (chk_right hc).2
    have hps := posSum_le r 1000000 (by omega) hn
    have hpr := posSum_of_right r (fun x hx => by have := hN x hx; omega)
    have hC := concat2_spec [] r (by simp; omega) false true true nl fu
    have hC2 := concat2_spec [] r (by simp; omega) true true true nl fu
    have hK := nticks most false
    have wT : IntKind.wrap .i64 (0 + sumN r) = sumN r := by rw [Int.zero_add, wrap64 (by omega) (by omega)]
    have wT' : IntKind.wrap .i64 (sumN r) = sumN r := wrap64 (by omega) (by omega)
    have hnb : ¬ 1073741824 < sumN r := by omega
    simp [lN, fileB, nilS] at hK
    by_cases hr : r = []
    · subst hr
      have hJ := join_spec [] (by simp) (by simp) true true
      simp [joinGo, resV, resH, nilS, sumN] at hJ hC hC2 hT wT wT'
      have w0 : IntKind.wrap .i64 0 = 0 := rfl
      simp [go_sem, ir38, lN, fileB, nilS, hT, hC, hC2, hJ, hK, w0, purse_eq, List.range_succ]
    · have hJ := join_spec r (by omega) hok false false
      rw [joinGo_eq r 0 [] (by omega), hW] at hJ
      have hjc := joined_chk hc
      have hWne : W ≠ [] := by
        intro q
        have h1 := hjc.2.1
        rw [hW, q] at h1
        cases r with
        | nil => exact hr rfl
        | cons x xs =>
          have h2 := hN x (by simp)
          have h3 : 0 ≤ sumN xs := by
            have := expand_length xs (fun y hy => by have := hN y (by simp [hy]); omega)
            omega
          rw [show sumN (x :: xs) = x.N + sumN xs from rfl] at h1
          simp [sumN] at h1
          omega
      have hWl := joined_length r []
      rw [hW] at hWl
      simp at hWl
      have hl4 : ¬ (4096 : Int) < (W.length : Int) := by omega
      simp [resV, resH, hWne] at hJ
      simp [hr] at hC hC2
      simp [go_sem, ir38, lN, lW, fileB, nilS, hr, hT, hC, hC2, hJ, hK, wT, wT', hnb, hl4, purse_eq, List.range_succ]
  · rw [if_neg hc] at hT ⊢
    simp [go_sem, ir38, lN, fileB, nilS, hT, hc, purse_eq, List.range_succ]
/-! ### Without a log -/
theorem zruns : call E (.func (.func 32) [] []) [.lit (.pointer none)] [] = some (.tup [nilS, .lit (.int .i64 2)], []) := by
  rw [call_func E E32]; simp [go_sem, ir32, purse_eq, nilS]
theorem zappend (nl fu : Bool) (rows : List (List AVal)) : call E (.func (.func 38) [] []) [.lit (.pointer none), .imm nl fu true rows] [] = some (.lit (.int .i64 2), []) := by
  rw [call_func E E38]; simp [go_sem, ir38, purse_eq, nilS]
theorem zflush : call E (.func (.func 35) [] []) [.lit (.pointer none)] [] = some (.lit (.int .i64 2), []) := by
  rw [call_func E E35]; simp [go_sem, ir35, purse_eq, nilS]
theorem zticks : call E (.func (.func 26) [] []) [.lit (.pointer none)] [] = some (.lit (.int .i64 0), []) := by
  rw [call_func E E26]; simp [go_sem, ir26, purse_eq, nilS]
theorem zsure : call E (.func (.func 29) [] []) [.lit (.pointer none)] [] = some (.lit (.int .i64 0), []) := by
  rw [call_func E E29]; simp [go_sem, ir29, purse_eq, nilS]
theorem zblocks : call E (.func (.func 31) [] []) [.lit (.pointer none)] [] = some (.lit (.int .i64 0), []) := by
  rw [call_func E E31]; simp [go_sem, ir31, purse_eq, nilS]
theorem zblocks1 : call E (.func (.func 111) [] [.ptr 0 0]) [.yld 1]
      [.box [nilS], .loop 0 none [(5, .ptr 2 0)] [16, 17] A42_0 B42_0, .box [.ptr 3 0], .box [.lit (.pointer none), nilS, nilS, nilS]]
    = some (.tup [], [.box [nilS], .loop 0 none [(5, .ptr 2 0)] [16, 17] A42_0 B42_0, .box [.ptr 3 0], .box [.lit (.pointer none), nilS, nilS, nilS]]) := by
  rw [call_func E E111]
  have hG := bget_spec [] (by simp) (by simp) true true (.inr rfl)
  have hg : getB [] = ((0, []), 0, 13) := by decide
  rw [hg] at hG
  simp [resV, resHl, nilS] at hG
  simp [go_sem, ir111, purse_eq, nilS]
  rw [run_inLoop']
  simp [go_sem, purse_eq, List.range_succ]
  simp [go_sem, run_codeL E L111_0.eq_1, hG, purse_eq, List.range_succ]
theorem zopen : call E (.func (.func 42) [] []) [.lit (.pointer none)] [] = some (.tup [.lit (.pointer none), .lit (.int .i64 0), .lit (.int .i64 2)], []) := by
  have h1 : call E (.func (.func 24) [] []) [.lit (.pointer none)] [] = some (nilS, []) := by
    rw [call_func E E24]; simp [go_sem, ir24, purse_eq, nilS]
  have h2 := blocks_spec true true []
  have h3 := zblocks1
  have h4 : call E (.func (.func 36) [] []) [.lit (.pointer none)] [] = some (.lit (.int .i64 0), []) := by
    rw [call_func E E36]; simp [go_sem, ir36, purse_eq, nilS]
  have h5 : call E (.func (.func 71) [] []) [.ptr 0 0] [.box [.lit (.pointer none), nilS, nilS, nilS]] = some (.agg [.lit (.int .i64 0), .lit (.int .i64 0)], [.box [.lit (.pointer none), nilS, nilS, nilS]]) := by
    rw [call_func E E71]
    simp [go_sem, ir71, nilS, purse_eq, List.range_succ]
  have h7 : call E (.func (.func 82) [] []) [.lit (.pointer none)] [] = some (.lit (.int .i64 2), []) := by
    rw [call_func E E82]; simp [go_sem, ir82, purse_eq, nilS]
  have h6 : call E (.func (.func 86) [] []) [.lit (.pointer none), .lit (.int .i64 0)] [] = some (.lit (.int .i64 2), []) := by
    rw [call_func E E86]; simp [go_sem, ir86, h7, purse_eq, nilS]
  rw [call_func E E42]
  have w : IntKind.wrap .i64 0 = 0 := rfl
  simp [nilS] at h1 h2 h3 h5
  simp [go_sem, ir42, nilS, h1, h2, h3, h4, h5, h6, w, purse_eq, List.range_succ]
end Go.AM.R1
open Go Go.AM
namespace Go.AM.R1

theorem tidy_dup17 : ∀ {l : List Run}, (∀ r ∈ l, right r = true) → Tidy l → dup l = false
  | [], _, _ => rfl
  | [_], _, _ => rfl
  | a :: b :: l, hr, ht => by
    have h0 := ht.2 0 (by simp)
    simp only [List.getElem_cons_zero, List.getElem_cons_succ] at h0
    have ha := hr a (by simp)
    have hb := hr b (by simp)
    simp only [right, Bool.and_eq_true, decide_eq_true_eq] at ha hb
    rw [dup, tidy_dup17 (l := b :: l) (fun r h => hr r (by simp [h])) ⟨fun x hx => ht.1 x (by simp [hx]), fun i hi => by have := ht.2 (i + 1) (by simpa using hi); simpa using this⟩, Bool.or_false, decide_eq_false_iff_not]
    intro e
    have hbus : a.Bus = b.Bus := by rw [ha.2, hb.2, e]
    simp [alike, e, hbus] at h0

/-! ### A crash that leaves what is sure -/
theorem ncrash (most : Int) : call E (.func (.func 41) [] []) [.ptr 0 0, .lit (.int .i64 0), nilS] (fN most false) = some (.lit (.int .i64 0), fN most true) := by
  rw [call_func E E41]
  have h1 := ncheck most false
  have h2 := nsize most false
  have h3 := nkeep most false
  have w : IntKind.wrap .i64 0 = 0 := rfl
  simp [fN, fileB, nilS] at h1 h2 h3
  simp [go_sem, ir41, fN, fileB, nilS, h1, h2, h3, w, purse_eq, List.range_succ]
  rw [run_inLoop']
  simp [go_sem, purse_eq, List.range_succ, run_codeL E L41_0.eq_1]
theorem bkeep1 (ff : Bool) (fb : List Nat) (most : Int) (cr : Bool) : call E (.func (.func 84) [] []) [.ptr 0 0, .lit (.int .i64 fb.length)] (fB ff fb fb.length most cr)
    = some (.tup [], [fileB (.own 2 fb.length 1 0 fb.length) fb.length most cr, .dead, .arr true false true 1 (fb.map encB)]) := by
  rw [call_func E E84]
  have ht : List.take fb.length (fb.map encB) = fb.map encB := take_allB fb
  simp [go_sem, ir84, fB, fileB, ht, purse_eq, List.range_succ]
theorem bcrash1 (ff : Bool) (fb : List Nat) (hl : fb.length ≤ 1000000) (most : Int) : call E (.func (.func 41) [] []) [.ptr 0 0, .lit (.int .i64 0), nilS] (fB ff fb fb.length most false)
    = some (.lit (.int .i64 0), [fileB (.own 2 fb.length 1 0 fb.length) fb.length most true, .dead, .arr true false true 1 (fb.map encB)]) := by
  rw [call_func E E41]
  have h1 := bcheck1 ff fb fb.length most false
  have h2 := bsize1 ff fb fb.length most false
  have h3 := bkeep1 ff fb most false
  have w : IntKind.wrap .i64 ((fb.length : Int) - (fb.length : Int)) = 0 := by rw [Int.sub_self]; rfl
  have w0 : IntKind.wrap .i64 0 = 0 := rfl
  have w1 : IntKind.wrap .i64 (fb.length : Int) = fb.length := wrap64 (by omega) (by omega)
  simp [fB, fileB, nilS] at h1 h2 h3
  simp [go_sem, ir41, fB, fileB, nilS, h1, h2, h3, w, w0, w1, purse_eq, List.range_succ]
  rw [run_inLoop']
  simp [go_sem, purse_eq, List.range_succ, run_codeL E L41_0.eq_1]
/-! ### Few -/
def fewR (r : List Run) : Bool := decide (r.length ≤ 12) && r.all fun x => decide (x.N ≤ 1000000)
theorem few17_loop (r : List Run) (hl : r.length ≤ 12) (nl fu : Bool) (rest : List Item) (R : Bool → Option (AVal × Heap))
    (hk : ∀ τ, lk 0 τ = .imm false true true [[.imm nl fu true (r.map encRun)]] → lk 3 τ = .lit (.int .i64 0) → finK 0 [.tmp 2] (run E 0 rest τ []) = R true) (hf : R false = some (.lit (.bool false), [])) :
    ∀ (d i : Nat), i + d = r.length →
    finK 0 [.tmp 2] (run E 0 (.code L17_1 :: .inLoop [1000000, 0, 3, 4] L17_1 :: .inBlock 2 :: rest) [(0, .imm false true true [[.imm nl fu true (r.map encRun)]]), (3, .lit (.int .i64 0)), (4, .lit (.int .i64 i))] []) = R ((r.drop i).all fun x => decide (x.N ≤ 1000000)) := by
  intro d
  induction d with
  | zero =>
    intro i hi
    have : i = r.length := by omega
    subst this
    simp [go_sem, run_codeL E L17_1.eq_1]
    exact hk _ rfl rfl
  | succ d ih =>
    intro i hi
    have hlt : i < r.length := by omega
    have wi := wrapIdx (i := i) (by omega)
    rw [List.drop_eq_getElem_cons hlt, List.all_cons]
    by_cases h : r[i].N ≤ 1000000
    · have h' : ¬ 1000000 < r[i].N := by omega
      have ih2 := ih (i + 1) (by omega)
      rw [decide_eq_true h, Bool.true_and]
      simp [go_sem, run_codeL E L17_1.eq_1, hlt, List.getElem?_eq_getElem hlt, encRun, h', wi, purse_eq]
      rw [run_inLoop']
      simp [go_sem, purse_eq]
      simpa using ih2
    · have h' : 1000000 < r[i].N := by omega
      rw [decide_eq_false h, Bool.false_and, hf]
      simp [go_sem, run_codeL E L17_1.eq_1, hlt, List.getElem?_eq_getElem hlt, encRun, h', purse_eq]
theorem few17_spec (r : List Run) (nl fu : Bool) : call E (.func (.func 17) [] []) [.imm false true true [[.imm nl fu true (r.map encRun)]]] [] = some (.lit (.bool (fewR r)), []) := by
  rw [call_func E E17]
  simp [go_sem, ir17, purse_eq]
  rw [run_inLoop']
  simp [go_sem, purse_eq]
  by_cases hl : r.length ≤ 12
  · have hl' : ¬ (12 : Int) < (r.length : Int) := by omega
    have hf : fewR r = (r.drop 0).all fun x => decide (x.N ≤ 1000000) := by simp [fewR, hl]
    have w1 : IntKind.wrap .i64 1 = 1 := rfl
    rw [hf]
    simp [go_sem, run_codeL E L17_0.eq_1, hl', purse_eq]
    rw [run_inLoop']
    simp [go_sem, purse_eq]
    have h := fun rest hk => few17_loop r hl nl fu rest (fun b => some (.lit (.bool b), [])) hk rfl r.length 0 (by omega)
    simp at h
    refine h _ ?_
    intro τ t0 t3
    simp [go_sem, t0, t3, w1, purse_eq]
    rw [run_inLoop']
    simp [go_sem, purse_eq, t0, run_codeL E L17_0.eq_1]
  · have hl' : (12 : Int) < (r.length : Int) := by omega
    have hf : fewR r = false := by simp [fewR, hl]
    rw [hf]
    simp [go_sem, run_codeL E L17_0.eq_1, hl', purse_eq]
end Go.AM.R1
open Go Go.AM
namespace Go.AM.R1

/-! ### A file in general -/
def fF (fo ff : Bool) (fb : List Nat) (sure : Nat) (most : Int) (cr : Bool) : Heap := if fo = true then fB ff fb sure most cr else [fileB nilS sure most cr]
theorem fcheck (fo ff : Bool) (fb : List Nat) (sure : Nat) (most : Int) (cr : Bool) : call E (.func (.func 82) [] []) [.ptr 0 0] (fF fo ff fb sure most cr) = some (.lit (.int .i64 (if cr = true then 25 else 0)), fF fo ff fb sure most cr) := by
  rw [call_func E E82]
  cases cr <;> cases fo <;> simp [go_sem, ir82, fF, fB, fileB, nilS, purse_eq, List.range_succ]
theorem fsize (fo ff : Bool) (fb : List Nat) (hfo : fo = false → fb = []) (sure : Nat) (most : Int) (cr : Bool) : call E (.func (.func 78) [] []) [.ptr 0 0] (fF fo ff fb sure most cr) = some (.lit (.int .i64 fb.length), fF fo ff fb sure most cr) := by
  rw [call_func E E78]
  cases fo
  · have := hfo rfl
    subst this
    simp [go_sem, ir78, fF, fB, fileB, nilS, purse_eq, List.range_succ]
  · simp [go_sem, ir78, fF, fB, fileB, nilS, purse_eq, List.range_succ]
theorem fflush (fo ff : Bool) (fb : List Nat) (hfo : fo = false → fb = []) (sure : Nat) (most : Int) (cr : Bool) : call E (.func (.func 75) [] []) [.ptr 0 0] (fF fo ff fb sure most cr)
    = some (.lit (.int .i64 (if cr = true then 25 else 0)), fF fo ff fb (if cr = true then sure else fb.length) most cr) := by
  rw [call_func E E75]
  have h1 := fcheck fo ff fb sure most cr
  have h2 := fsize fo ff fb hfo sure most cr
  cases cr <;> cases fo <;> simp [fF, fB, fileB, nilS] at h1 h2 <;> simp [go_sem, ir75, fF, fB, fileB, nilS, h1, h2, purse_eq, List.range_succ]
theorem fsure (fo ff : Bool) (fb : List Nat) (sure : Nat) (most : Int) (cr : Bool) : call E (.func (.func 73) [] []) [.ptr 0 0] (fF fo ff fb sure most cr) = some (.lit (.int .i64 sure), fF fo ff fb sure most cr) := by
  rw [call_func E E73]
  cases fo <;> simp [go_sem, ir73, fF, fB, fileB, nilS, purse_eq, List.range_succ]
theorem flen (fo ff : Bool) (fb : List Nat) (hfo : fo = false → fb = []) (sure : Nat) (most : Int) (cr : Bool) : call E (.func (.func 36) [] []) [.ptr 0 0] (fF fo ff fb sure most cr) = some (.lit (.int .i64 fb.length), fF fo ff fb sure most cr) := by
  rw [call_func E E36]
  have h2 := fsize fo ff fb hfo sure most cr
  cases fo <;> simp [fF, fB, fileB, nilS] at h2 <;> simp [go_sem, ir36, fF, fB, fileB, nilS, h2, purse_eq, List.range_succ]
/-- Its bytes, handed out. -/
theorem fbytes (fo ff : Bool) (fb : List Nat) (hl : fb.length ≤ 1000000) (sure : Nat) (most : Int) (cr : Bool) : call E (.func (.func 24) [] []) [.ptr 0 0] (fF fo ff fb sure most cr)
    = some (if fo = true then .own 2 fb.length 1 0 fb.length else nilS, fF fo ff fb sure most cr ++ (if fo = true then [.arr true false fb.isEmpty 1 (fb.map encB)] else [])) := by
  rw [call_func E E24]
  have h1 := bclone_nil true
  have h2 := fun fu => clone_spec fb fu (by omega)
  simp [nilS] at h1
  have h2f := h2 (ff && decide (0 + fb.length = fb.length))
  simp at h2f
  cases fo <;> simp [go_sem, ir24, fF, fB, fileB, nilS, h1, h2f, purse_eq, List.range_succ]
theorem fadd (fo ff : Bool) (fb : List Nat) (hfo : fo = false → fb = []) (sure : Nat) (most : Int) (b : List Nat) (hb : b ≠ []) (hl : fb.length + b.length ≤ 1000000) (fu : Bool) : call E (.func (.func 83) [] []) [.ptr 0 0, .imm false fu true (b.map encB)] (fF fo ff fb sure most false)
    = some (.tup [], fF true false (fb ++ b) sure most false) := by
  rw [call_func E E83]
  have hr := rowsB b
  have hp := List.length_pos_iff.2 hb
  have hbb : ¬ (70368744177664 < b.length) := by omega
  have hbb2 : ¬ (70368744177664 < fb.length + b.length) := by omega
  cases fo
  · have := hfo rfl
    subst this
    simp [go_sem, ir83, fF, fB, fileB, nilS, hr, hb, hbb, purse_eq, List.range_succ]
  · simp [go_sem, ir83, fF, fB, fileB, nilS, hr, hb, hbb2, purse_eq, List.range_succ]
theorem fappend (fo ff : Bool) (fb : List Nat) (hfo : fo = false → fb = []) (sure : Nat) (most : Int) (hm : 0 ≤ most ∧ most ≤ 67108864) (cr : Bool) (b : List Nat) (hb : b ≠ []) (hl : fb.length + b.length ≤ 1000000) (fu : Bool) :
    call E (.func (.func 40) [] []) [.ptr 0 0, .imm false fu true (b.map encB)] (fF fo ff fb sure most cr)
      = some (if cr = true then (.lit (.int .i64 25), fF fo ff fb sure most cr) else if most < (fb.length : Int) + b.length then (.lit (.int .i64 15), fF fo ff fb sure most false) else (.lit (.int .i64 0), fF true false (fb ++ b) sure most false)) := by
  rw [call_func E E40]
  have h1 := fcheck fo ff fb sure most cr
  have h2 := fsize fo ff fb hfo sure most false
  have h3 := fadd fo ff fb hfo sure most b hb hl fu
  have w : IntKind.wrap .i64 (most - (fb.length : Int)) = most - fb.length := by rw [wrap64 (by omega) (by omega)]
  cases cr
  · by_cases h4 : most < (fb.length : Int) + b.length
    · have h5 : most - (fb.length : Int) < b.length := by omega
      cases fo <;> simp [fF, fB, fileB, nilS] at h1 h2 h3 <;> simp [go_sem, ir40, fF, fB, fileB, nilS, h1, h2, h3, w, h4, h5, purse_eq, List.range_succ]
    · have h5 : ¬ most - (fb.length : Int) < b.length := by omega
      cases fo <;> simp [fF, fB, fileB, nilS] at h1 h2 h3 <;> simp [go_sem, ir40, fF, fB, fileB, nilS, h1, h2, h3, w, h4, h5, purse_eq, List.range_succ]
  · cases fo <;> simp [fF, fB, fileB, nilS] at h1 <;> simp [go_sem, ir40, fF, fB, fileB, nilS, h1, purse_eq, List.range_succ]
end Go.AM.R1
open Go Go.AM
namespace Go.AM.R1

/-! ### seek.Of -/
abbrev Ent := Int × Nat
def encEnt (e : Ent) : List AVal := [.lit (.int .i64 e.1), .lit (.int .i64 e.2)]
theorem noImm_encEnt (l : List Ent) : noImmLL (l.map encEnt) = true := noImmLL_map (fun _ => rfl) l
attribute [go_sem] noImm_encEnt
def entGo : Int → Nat → List Bk → List Ent
  | _, _, [] => []
  | t, p, x :: r => (t, p) :: entGo (t + sumN x.2) (p + (putBk x).length) r
theorem entGo_length : ∀ (l : List Bk) (t : Int) (p : Nat), (entGo t p l).length = l.length
  | [], _, _ => rfl
  | x :: l, t, p => by simp only [entGo, List.length_cons, entGo_length l]
/-- An index in the heap. -/
def ixH (nl lb le : Bool) (b : List Nat) (es : List Ent) (t : Int) : Heap :=
  if b = [] then (if nl = true then [.box [nilS, nilS, .lit (.int .i64 0)]] else [.box [.own 1 0 1 0 0, nilS, .lit (.int .i64 0)], .arr true lb true 1 []])
  else [.box [.own 1 b.length 1 0 b.length, .own 2 es.length 2 0 es.length, .lit (.int .i64 t)], .arr true lb false 1 (b.map encB), .arr true le false 2 (es.map encEnt)]

end Go.AM.R1
open Go Go.AM
namespace Go.AM.R1

/-! ### The document's entries -/
abbrev REnt := Int × Nat × Int × Nat
def encREnt (e : REnt) : List AVal := [.lit (.int .i64 e.1), .lit (.int .i64 e.2.1), .lit (.int .i64 e.2.2.1), .lit (.int .i64 e.2.2.2)]
def rentGo : Int → Nat → List Bk → List REnt
  | _, _, [] => []
  | t, p, x :: r => (t, p, sumN x.2, (putBk x).length) :: rentGo (t + sumN x.2) (p + (putBk x).length) r
theorem rentGo_length : ∀ (l : List Bk) (t : Int) (p : Nat), (rentGo t p l).length = l.length
  | [], _, _ => rfl
  | x :: l, t, p => by simp only [rentGo, List.length_cons, rentGo_length l]
end Go.AM.R1
open Go Go.AM
namespace Go.AM.R1

/-! ### The bytes of an index -/
def idxRow (x : Bk) : List Nat := putN (sumN x.2).toNat ++ putN (putBk x).length
def idxB (l : List Bk) : List Nat := sealB (putN l.length ++ l.flatMap idxRow)
theorem entGo_get : ∀ (l : List Bk) (t : Int) (p i : Nat), i < l.length → (entGo t p l)[i]? = some (t + totB (l.take i), p + (blksB (l.take i)).length)
  | [], _, _, i, h => by simp at h
  | x :: l, t, p, 0, h => by simp [entGo, totB, blksB]
  | x :: l, t, p, i + 1, h => by
    simp only [entGo, List.getElem?_cons_succ, List.take_succ_cons, totB, blksB_cons, List.length_append]
    rw [entGo_get l _ _ i (by simpa using h)]
    simp
    omega
theorem take_succ_tot (l : List Bk) (i : Nat) (h : i < l.length) : totB (l.take (i + 1)) = totB (l.take i) + sumN l[i].2 ∧ (blksB (l.take (i + 1))).length = (blksB (l.take i)).length + (putBk l[i]).length := by
  rw [List.take_succ_eq_append_getElem h, totB_append, blksB_append]
  simp [totB, blksB]
theorem good_get : ∀ (l : List Bk) (t : Int) (i : Nat) (h : i < l.length), Good t l → chkB l[i].1 l[i].2 = 0 ∧ (∀ r ∈ l[i].2, 0 ≤ r.Drive ∧ r.Drive ≤ 4294967295) ∧ l[i].1 = t + totB (l.take i)
  | [], _, i, h, _ => by simp at h
  | x :: l, t, 0, h, g => ⟨g.2.1, g.2.2.1, by simp [g.1, totB]⟩
  | x :: l, t, i + 1, h, g => by
    have := good_get l _ i (by simpa using h) g.2.2.2
    simp only [List.getElem_cons_succ, List.take_succ_cons, totB]
    exact ⟨this.1, this.2.1, by rw [this.2.2]; omega⟩
theorem good_take (l : List Bk) (t : Int) (i : Nat) (h : Good t l) : Good t (l.take i) := by
  have := (good_append (l.take i) (l.drop i) t).1 (by rw [List.take_append_drop]; exact h)
  exact this.1
theorem blks_take_le (l : List Bk) (i : Nat) : (blksB (l.take i)).length ≤ (blksB l).length := by
  conv => rhs; rw [← List.take_append_drop i l]
  rw [blksB_append, List.length_append]; omega
theorem tot_take_le (l : List Bk) (i : Nat) (h : Good 0 l) : 0 ≤ totB (l.take i) ∧ totB (l.take i) ≤ 1073741824 := by
  have := good_tot (l.take i) 0 (by omega) (by omega) (good_take l 0 i h)
  omega
theorem putN_lt256 (n : Nat) : ∀ c ∈ putN n, c < 256 := by
  induction n using Nat.strongRecOn with
  | _ n ih =>
    intro c h
    by_cases hn : 128 ≤ n
    · rw [putN_big hn] at h
      rcases List.mem_cons.1 h with rfl | h
      · omega
      · exact ih (n / 128) (by omega) c h
    · rw [putN_small (by omega)] at h
      simp at h; omega
theorem idxRow_byte (x : Bk) : ∀ c ∈ idxRow x, c < 256 := by
  intro c hc
  rcases List.mem_append.1 hc with h | h
  · exact putN_lt256 _ _ h
  · exact putN_lt256 _ _ h
theorem idxRow_len (x : Bk) (hg : chkB x.1 x.2 = 0) : (idxRow x).length ≤ 20 := by
  have gk := chkB_ok hg
  have hs := (chk_right gk.2.2.2.1).2
  have hlen := putBk_len hg
  have h1 := putN_len64 (n := (sumN x.2).toNat) (by omega)
  have h2 := putN_len64 (n := (putBk x).length) (by omega)
  simp only [idxRow, List.length_append]; omega

end Go.AM.R1
open Go Go.AM
namespace Go.AM.R1

theorem idxIn_byte (l : List Bk) : ∀ c ∈ putN l.length ++ l.flatMap idxRow, c < 256 := by
  intro c hc
  rcases List.mem_append.1 hc with h | h
  · exact putN_lt256 _ _ h
  · obtain ⟨x, _, h⟩ := List.mem_flatMap.1 h
    exact idxRow_byte x c h
theorem idxIn_len (l : List Bk) (hg : Good 0 l) : l.length < 18446744073709551616 → (putN l.length ++ l.flatMap idxRow).length ≤ 20 + 20 * l.length := by
  intro hl
  have h1 := putN_len64 hl
  have h2 : ∀ (l : List Bk) (t : Int), Good t l → (l.flatMap idxRow).length ≤ 20 * l.length := by
    intro l
    induction l with
    | nil => simp
    | cons x l ih =>
      intro t g
      have := idxRow_len x g.2.1
      have := ih _ g.2.2.2
      simp only [List.flatMap_cons, List.length_append, List.length_cons]; omega
  have := h2 l 0 hg
  rw [List.length_append]; omega
end Go.AM.R1
open Go Go.AM
namespace Go.AM.R1

def entV (i : Nat) (es : List Ent) : AVal := if es = [] then nilS else .own i es.length 2 0 es.length
def entH (es : List Ent) : Heap := if es = [] then [] else [.arr true false false 2 (es.map encEnt)]
theorem rows2 (es : List Ent) : rowsOk 2 (es.map encEnt) = true := rowsOk_map (f := encEnt) (fun _ => rfl) es
end Go.AM.R1
open Go Go.AM Go.Proofs
namespace Go.AM.R1

section
variable {H : Type} {P : Program}
theorem decV_int {n : Nat} {t : TypeId} {ik : IntKind} (hu : P.underlying t = some (.int ik)) {d : DataW H} {a : AVal} (h : DecV P (n + 1) t d a) :
    ∃ v, d = .lit (.int ik v) ∧ (Lit.int ik v).wf = true ∧ a = .lit (.int ik v) := by
  unfold DecV at h
  rw [if_neg (by simp [isAggT, hu])] at h
  simp only [Dec, hu] at h
  obtain ⟨v, h1, h2, h3⟩ := h
  exact ⟨v, h1, h2, by simpa using h3⟩
theorem all2_forall {α β : Type} {R : α → β → Prop} {Q : β → Prop} (h : ∀ a b, R a b → Q b) : ∀ {l : List α} {m : List β}, All2 R l m → ∀ b ∈ m, Q b
  | [], [], _, b, hb => by cases hb
  | [], _ :: _, h', _, _ => h'.elim
  | _ :: _, [], h', _, _ => h'.elim
  | a :: r, c :: s, h', b, hb => by
    rcases List.mem_cons.1 hb with rfl | hb
    · exact h _ _ h'.1
    · exact all2_forall h h'.2 b hb
theorem all2_length {α β : Type} {R : α → β → Prop} : ∀ {l : List α} {m : List β}, All2 R l m → l.length = m.length
  | [], [], _ => rfl
  | [], _ :: _, h' => h'.elim
  | _ :: _, [], h' => h'.elim
  | a :: r, c :: s, h' => by simp [all2_length h'.2]
/-- Rows that are all of a form. -/
theorem rows_map {α : Type} (f : α → List AVal) (Q : α → Prop) : ∀ {rows : List (List AVal)}, (∀ r ∈ rows, ∃ x, r = f x ∧ Q x) → ∃ l : List α, rows = l.map f ∧ ∀ x ∈ l, Q x
  | [], _ => ⟨[], rfl, by simp⟩
  | r :: s, h => by
    obtain ⟨x, hx, hq⟩ := h r (by simp)
    obtain ⟨l, hl, hl2⟩ := rows_map f Q (rows := s) fun y hy => h y (by simp [hy])
    exact ⟨x :: l, by rw [hx, hl]; rfl, fun y hy => by rcases List.mem_cons.1 hy with rfl | hy <;> simp_all⟩

theorem wf64 {v : Int} (h : (Lit.int .i64 v).wf = true) : -9223372036854775808 ≤ v ∧ v ≤ 9223372036854775807 := by
  simpa [Lit.wf, IntKind.min, IntKind.max, IntKind.signed, IntKind.bits] using h
theorem wfu32 {v : Int} (h : (Lit.int .u32 v).wf = true) : 0 ≤ v ∧ v ≤ 4294967295 := by
  simpa [Lit.wf, IntKind.min, IntKind.max, IntKind.signed, IntKind.bits] using h

theorem fieldsR_cons {α β : Type} {R : TypeId → α → β → Prop} {f : Field} {fs : List Field} : ∀ {l : List α} {m : List β}, FieldsR R (f :: fs) l m → ∃ a r b s, l = a :: r ∧ m = b :: s ∧ R f.type a b ∧ FieldsR R fs r s
  | [], _, h => h.elim
  | _ :: _, [], h => h.elim
  | a :: r, b :: s, h => ⟨a, r, b, s, rfl, rfl, h.1, h.2⟩
theorem fieldsR_nil {α β : Type} {R : TypeId → α → β → Prop} : ∀ {l : List α} {m : List β}, FieldsR R [] l m → l = [] ∧ m = []
  | [], [], _ => ⟨rfl, rfl⟩
  | [], _ :: _, h => h.elim
  | _ :: _, _, h => h.elim
theorem decArgs_cons {k : Nat} {t : TypeId} {ts : List TypeId} : ∀ {ds : List (DataW H)} {cs : List AVal}, DecArgs P k (t :: ts) ds cs → ∃ d r b s, ds = d :: r ∧ cs = b :: s ∧ DecV P k t d b ∧ DecArgs P k ts r s
  | [], _, h => h.elim
  | _ :: _, [], h => h.elim
  | d :: r, b :: s, h => ⟨d, r, b, s, rfl, rfl, h.1, h.2⟩
theorem decArgs_nil {k : Nat} : ∀ {ds : List (DataW H)} {cs : List AVal}, DecArgs P k [] ds cs → ds = [] ∧ cs = []
  | [], [], _ => ⟨rfl, rfl⟩
  | [], _ :: _, h => h.elim
  | _ :: _, _, h => h.elim
structure IsRun (P : Program) (t : TypeId) where
  f1 : Field
  f2 : Field
  f3 : Field
  hu : P.underlying t = some (.struct #[f1, f2, f3])
  h1 : P.underlying f1.type = some (.int .i64)
  h2 : P.underlying f2.type = some (.int .i64)
  h3 : P.underlying f3.type = some (.int .u32)
def Run.Fit (r : Run) : Prop := (-9223372036854775808 ≤ r.N ∧ r.N ≤ 9223372036854775807) ∧ (-9223372036854775808 ≤ r.Bus ∧ r.Bus ≤ 9223372036854775807) ∧ (0 ≤ r.Drive ∧ r.Drive ≤ 4294967295)
theorem dec_run {n : Nat} {t : TypeId} (i : IsRun P t) {d : DataW H} {cs : List AVal} (h : Dec P (n + 2) t d cs) : ∃ r : Run, cs = encRun r ∧ r.Fit := by
  simp only [Dec, i.hu] at h
  obtain ⟨parts, ass, -, rfl, hf⟩ := h
  obtain ⟨p1, ps1, a1, as1, rfl, rfl, r1, hf⟩ := fieldsR_cons hf
  obtain ⟨p2, ps2, a2, as2, rfl, rfl, r2, hf⟩ := fieldsR_cons hf
  obtain ⟨p3, ps3, a3, as3, rfl, rfl, r3, hf⟩ := fieldsR_cons hf
  obtain ⟨rfl, rfl⟩ := fieldsR_nil hf
  simp only [Dec, i.h1, i.h2, i.h3] at r1 r2 r3
  obtain ⟨v1, -, w1, rfl⟩ := r1
  obtain ⟨v2, -, w2, rfl⟩ := r2
  obtain ⟨v3, -, w3, rfl⟩ := r3
  exact ⟨⟨v1, v2, v3⟩, rfl, wf64 w1, wf64 w2, wfu32 w3⟩
theorem dec_runs {n : Nat} {t e : TypeId} (hu : P.underlying t = some (.slice e)) (i : IsRun P e) {d : DataW H} {a : AVal} (h : DecV P (n + 3) t d a) :
    ∃ (nl fu : Bool) (l : List Run), a = .imm nl fu true (l.map encRun) ∧ ∀ r ∈ l, r.Fit := by
  unfold DecV at h
  rw [if_neg (by simp [isAggT, hu])] at h
  rw [Dec, hu] at h
  rcases h with ⟨-, h⟩ | ⟨elems, spare, rows, -, h, h2, h3⟩
  · exact ⟨true, true, [], by simpa [nilS] using h, by simp⟩
  · obtain ⟨l, rfl, hl⟩ := rows_map encRun Run.Fit (all2_forall (Q := fun b => ∃ r : Run, b = encRun r ∧ r.Fit) (fun a b hab => dec_run i hab) h2)
    exact ⟨false, false, l, by simpa using h, hl⟩
theorem all2_flat {α : Type} (f : α → List AVal) (Q : α → Prop) {R : DataW H → List AVal → Prop} (h : ∀ d a, R d a → ∃ x, a = f x ∧ Q x) :
    ∀ {ds : List (DataW H)} {ass : List (List AVal)}, All2 R ds ass → ∃ l : List α, l.length = ds.length ∧ ass = l.map f ∧ ∀ x ∈ l, Q x
  | [], [], _ => ⟨[], rfl, rfl, by simp⟩
  | [], _ :: _, h' => h'.elim
  | _ :: _, [], h' => h'.elim
  | d :: ds, a :: ass, h' => by
    obtain ⟨x, hx, hq⟩ := h _ _ h'.1
    obtain ⟨l, h1, h2, h3⟩ := all2_flat f Q h h'.2
    exact ⟨x :: l, by simp [h1], by rw [hx, h2]; rfl, fun y hy => by rcases List.mem_cons.1 hy with rfl | hy <;> simp_all⟩
theorem decV_ints {n m : Nat} {t e : TypeId} {ik : IntKind} (hu : P.underlying t = some (.array m e)) (he : P.underlying e = some (.int ik)) {d : DataW H} {a : AVal} (h : DecV P (n + 2) t d a) :
    ∃ l : List Int, l.length = m ∧ a = .agg (l.map fun v => .lit (.int ik v)) ∧ ∀ v ∈ l, (Lit.int ik v).wf = true := by
  unfold DecV at h
  rw [if_pos (by simp [isAggT, hu])] at h
  obtain ⟨cs, rfl, h⟩ := h
  rw [Dec, hu] at h
  obtain ⟨parts, ass, -, rfl, hm, h2⟩ := h
  obtain ⟨l, h3, rfl, h5⟩ := all2_flat (fun v => [AVal.lit (.int ik v)]) (fun v => (Lit.int ik v).wf = true) (fun d a hda => by
    simp only [Dec, he] at hda
    obtain ⟨v, -, hw, rfl⟩ := hda
    exact ⟨v, rfl, hw⟩) h2
  refine ⟨l, by omega, ?_, h5⟩
  congr 1
  clear h5 h3 h2
  induction l with
  | nil => rfl
  | cons x r ih => simp [ih]
end
end Go.AM.R1
open Go Go.AM Go.Proofs
namespace Go.AM.R1
section
variable {H : Type} {P : Program}
theorem dec_runs' {n : Nat} {t e : TypeId} (hu : P.underlying t = some (.slice e)) (i : IsRun P e) {d : DataW H} {cs : List AVal} (h : Dec P (n + 3) t d cs) :
    ∃ (nl fu : Bool) (l : List Run), cs = [.imm nl fu true (l.map encRun)] ∧ ∀ r ∈ l, r.Fit := by
  rw [Dec, hu] at h
  rcases h with ⟨-, h⟩ | ⟨elems, spare, rows, -, h, h2, h3⟩
  · exact ⟨true, true, [], by simpa [nilS] using h, by simp⟩
  · obtain ⟨l, rfl, hl⟩ := rows_map encRun Run.Fit (all2_forall (Q := fun b => ∃ r : Run, b = encRun r ∧ r.Fit) (fun a b hab => dec_run i hab) h2)
    exact ⟨false, false, l, h, hl⟩
theorem decV_block {n : Nat} {t e : TypeId} {f1 f2 : Field} (hu : P.underlying t = some (.struct #[f1, f2])) (h1 : P.underlying f1.type = some (.int .i64)) (h2 : P.underlying f2.type = some (.slice e)) (i : IsRun P e)
    {d : DataW H} {a : AVal} (h : DecV P (n + 4) t d a) : ∃ (first : Int) (nl fu : Bool) (l : List Run), a = .agg (encBlk first l nl fu) ∧ (Lit.int .i64 first).wf = true ∧ ∀ r ∈ l, r.Fit := by
  unfold DecV at h
  rw [if_pos (by simp [isAggT, hu])] at h
  obtain ⟨cs, rfl, h⟩ := h
  rw [Dec, hu] at h
  obtain ⟨parts, ass, -, rfl, hf⟩ := h
  obtain ⟨p1, ps1, a1, as1, rfl, rfl, r1, hf⟩ := fieldsR_cons hf
  obtain ⟨p2, ps2, a2, as2, rfl, rfl, r2, hf⟩ := fieldsR_cons hf
  obtain ⟨rfl, rfl⟩ := fieldsR_nil hf
  simp only [Dec, h1] at r1
  obtain ⟨v1, -, w1, rfl⟩ := r1
  obtain ⟨nl, fu, l, rfl, hl⟩ := dec_runs' h2 i r2
  exact ⟨v1, nl, fu, l, rfl, w1, hl⟩
/-- Bytes. -/
theorem decV_bytes {n : Nat} {t e : TypeId} (hu : P.underlying t = some (.slice e)) (he : P.underlying e = some (.int .u8)) {d : DataW H} {a : AVal} (h : DecV P (n + 2) t d a) :
    ∃ (nl fu : Bool) (l : List Nat), a = .imm nl fu true (l.map encB) ∧ (nl = false ∨ l = []) ∧ ∀ c ∈ l, c < 256 := by
  unfold DecV at h
  rw [if_neg (by simp [isAggT, hu])] at h
  rw [Dec, hu] at h
  rcases h with ⟨-, h⟩ | ⟨elems, spare, rows, -, h, h2, h3⟩
  · exact ⟨true, true, [], by simpa [nilS] using h, .inr rfl, by simp⟩
  · obtain ⟨l, rfl, hl⟩ := rows_map encB (fun c => c < 256) (all2_forall (Q := fun b => ∃ c : Nat, b = encB c ∧ c < 256) (fun a b hab => by
      simp only [Dec, he] at hab
      obtain ⟨v, -, hw, rfl⟩ := hab
      have hv : 0 ≤ v ∧ v ≤ 255 := by simpa [Lit.wf, IntKind.min, IntKind.max, IntKind.signed, IntKind.bits] using hw
      refine ⟨v.toNat, ?_, by omega⟩
      unfold encB
      rw [show ((v.toNat : Nat) : Int) = v from by omega]) h2)
    exact ⟨false, false, l, by simpa using h, .inl rfl, hl⟩
end
end Go.AM.R1
open Go Go.AM
namespace Go.AM.R1

/-! ### Scripts -/
def encScr (node first : Int) (l : List Run) (nl fu : Bool) : List AVal := [.lit (.int .i64 node), .lit (.int .i64 first), .imm nl fu true (l.map encRun)]
def okR (r : Run) : Bool := decide (1 ≤ r.N) && decide (r.N ≤ 1073741824) && (decide (0 ≤ r.Bus) && decide (r.Bus ≤ 1))
def okP (node first : Int) : Bool := decide (0 ≤ node) && decide (node ≤ 31) && (decide (0 ≤ first) && decide (first ≤ 1073741824))
/-- How a script is wrong. -/
def chkS (node first : Int) (l : List Run) : Int := if okP node first = true ∧ l.all okR = true then (if 1073741824 < sumN l then 12 else 0) else 10
theorem okR_N {r : Run} (h : okR r = true) : (1 ≤ r.N ∧ r.N ≤ 1073741824) ∧ (0 ≤ r.Bus ∧ r.Bus ≤ 1) := by
  simp [okR] at h; omega
/-- The place of the first one that is so. -/
def findI {α : Type} (p : α → Bool) : Nat → List α → Int
  | _, [] => -1
  | i, r :: l => if p r = true then (i : Int) else findI p (i + 1) l
theorem findI_ge {α : Type} (p : α → Bool) : ∀ (l : List α) (i : Nat), (decide ((0 : Int) ≤ findI p i l)) = l.any p
  | [], i => by simp [findI]
  | r :: l, i => by
    rw [findI, List.any_cons]
    cases hp : p r with
    | true => simp
    | false => simp [findI_ge p l]
theorem any_not {α : Type} (p : α → Bool) (l : List α) : (l.any fun x => !p x) = !(l.all p) := by
  induction l with
  | nil => rfl
  | cons x r ih => simp [List.any_cons, List.all_cons, ih, Bool.not_and]
end Go.AM.R1
open Go Go.AM Go.Proofs
namespace Go.AM.R1
section
variable {H : Type} {P : Program}
structure IsScr (P : Program) (t : TypeId) where
  f1 : Field
  f2 : Field
  f3 : Field
  e : TypeId
  hu : P.underlying t = some (.struct #[f1, f2, f3])
  h1 : P.underlying f1.type = some (.int .i64)
  h2 : P.underlying f2.type = some (.int .i64)
  h3 : P.underlying f3.type = some (.slice e)
  i : IsRun P e
structure Scr where
  node : Int
  first : Int
  runs : List Run
  nl : Bool
  fu : Bool
def encS (s : Scr) : List AVal := encScr s.node s.first s.runs s.nl s.fu
def Scr.Fit (s : Scr) : Prop := (-9223372036854775808 ≤ s.node ∧ s.node ≤ 9223372036854775807) ∧ (-9223372036854775808 ≤ s.first ∧ s.first ≤ 9223372036854775807) ∧ ∀ r ∈ s.runs, r.Fit
theorem dec_scr {n : Nat} {t : TypeId} (i : IsScr P t) {d : DataW H} {cs : List AVal} (h : Dec P (n + 4) t d cs) : ∃ s : Scr, cs = encS s ∧ s.Fit := by
  rw [Dec, i.hu] at h
  obtain ⟨parts, ass, -, rfl, hf⟩ := h
  obtain ⟨p1, ps1, a1, as1, rfl, rfl, r1, hf⟩ := fieldsR_cons hf
  obtain ⟨p2, ps2, a2, as2, rfl, rfl, r2, hf⟩ := fieldsR_cons hf
  obtain ⟨p3, ps3, a3, as3, rfl, rfl, r3, hf⟩ := fieldsR_cons hf
  obtain ⟨rfl, rfl⟩ := fieldsR_nil hf
  simp only [Dec, i.h1, i.h2] at r1 r2
  obtain ⟨v1, -, w1, rfl⟩ := r1
  obtain ⟨v2, -, w2, rfl⟩ := r2
  obtain ⟨nl, fu, l, rfl, hl⟩ := dec_runs' i.h3 i.i r3
  exact ⟨⟨v1, v2, l, nl, fu⟩, rfl, wf64 w1, wf64 w2, hl⟩
theorem decV_scr {n : Nat} {t : TypeId} (i : IsScr P t) {d : DataW H} {a : AVal} (h : DecV P (n + 4) t d a) : ∃ s : Scr, a = .agg (encS s) ∧ s.Fit := by
  unfold DecV at h
  rw [if_pos (by simp [isAggT, i.hu])] at h
  obtain ⟨cs, rfl, h⟩ := h
  obtain ⟨s, rfl, hs⟩ := dec_scr i h
  exact ⟨s, rfl, hs⟩
/-- Rows of scripts. -/
theorem decV_scrs {n : Nat} {t e : TypeId} (hu : P.underlying t = some (.slice e)) (i : IsScr P e) {d : DataW H} {a : AVal} (h : DecV P (n + 5) t d a) :
    ∃ (nl fu : Bool) (l : List Scr), a = .imm nl fu true (l.map encS) ∧ ∀ r ∈ l, r.Fit := by
  unfold DecV at h
  rw [if_neg (by simp [isAggT, hu])] at h
  rw [Dec, hu] at h
  rcases h with ⟨-, h⟩ | ⟨elems, spare, rows, -, h, h2, h3⟩
  · exact ⟨true, true, [], by simpa [nilS] using h, by simp⟩
  · obtain ⟨l, rfl, hl⟩ := rows_map encS Scr.Fit (all2_forall (Q := fun b => ∃ r : Scr, b = encS r ∧ r.Fit) (fun a b hab => dec_scr i hab) h2)
    exact ⟨false, false, l, by simpa using h, hl⟩
end
end Go.AM.R1
open Go Go.AM Go.Proofs
namespace Go.AM.R1
section
variable {H : Type} {P : Program}
/-- A row of runs, as it is handed over. -/
structure RowV where
  nl : Bool
  fu : Bool
  l : List Run
def encRow (r : RowV) : List AVal := [.imm r.nl r.fu true (r.l.map encRun)]
def RowV.Fit (r : RowV) : Prop := (∀ x ∈ r.l, x.Fit) ∧ r.l.length ≤ 9223372036854775807
theorem dec_row {n : Nat} {t e : TypeId} (hu : P.underlying t = some (.slice e)) (i : IsRun P e) {d : DataW H} {cs : List AVal} (h : Dec P (n + 3) t d cs) :
    ∃ r : RowV, cs = encRow r ∧ r.Fit := by
  rw [Dec, hu] at h
  rcases h with ⟨-, h⟩ | ⟨elems, spare, rows, -, h, h2, h3⟩
  · exact ⟨⟨true, true, []⟩, by simpa [nilS, encRow] using h, by simp, by simp⟩
  · obtain ⟨l, rfl, hl⟩ := rows_map encRun Run.Fit (all2_forall (Q := fun b => ∃ r : Run, b = encRun r ∧ r.Fit) (fun a b hab => dec_run i hab) h2)
    exact ⟨⟨false, false, l⟩, h, hl, by simpa [maxLen] using h3⟩
theorem dec_rows {n : Nat} {t s e : TypeId} (ht : P.underlying t = some (.slice s)) (hu : P.underlying s = some (.slice e)) (i : IsRun P e) {d : DataW H} {cs : List AVal} (h : Dec P (n + 4) t d cs) :
    ∃ (nl fu : Bool) (l : List RowV), cs = [.imm nl fu true (l.map encRow)] ∧ (∀ r ∈ l, r.Fit) ∧ l.length ≤ 9223372036854775807 := by
  rw [Dec, ht] at h
  rcases h with ⟨-, h⟩ | ⟨elems, spare, rows, -, h, h2, h3⟩
  · exact ⟨true, true, [], by simpa [nilS] using h, by simp, by simp⟩
  · obtain ⟨l, rfl, hl⟩ := rows_map encRow RowV.Fit (all2_forall (Q := fun b => ∃ r : RowV, b = encRow r ∧ r.Fit) (fun a b hab => dec_row hu i hab) h2)
    exact ⟨false, false, l, h, hl, by simpa [maxLen] using h3⟩
theorem decV_rows {n : Nat} {t s e : TypeId} (ht : P.underlying t = some (.slice s)) (hu : P.underlying s = some (.slice e)) (i : IsRun P e) {d : DataW H} {a : AVal} (h : DecV P (n + 4) t d a) :
    ∃ (nl fu : Bool) (l : List RowV), a = .imm nl fu true (l.map encRow) ∧ (∀ r ∈ l, r.Fit) ∧ l.length ≤ 9223372036854775807 := by
  unfold DecV at h
  rw [if_neg (by simp [isAggT, ht])] at h
  obtain ⟨nl, fu, l, h1, h2⟩ := dec_rows ht hu i h
  exact ⟨nl, fu, l, by simpa using h1, h2⟩
/-- Two lists of rows. -/
theorem decV_two {n : Nat} {t u s e : TypeId} (hh : P.underlying t = some (.array 2 u)) (ht : P.underlying u = some (.slice s)) (hu : P.underlying s = some (.slice e)) (i : IsRun P e) {d : DataW H} {a : AVal} (h : DecV P (n + 5) t d a) :
    ∃ (nl fu nl' fu' : Bool) (l m : List RowV), a = .agg [.imm nl fu true (l.map encRow), .imm nl' fu' true (m.map encRow)] ∧ ((∀ r ∈ l, r.Fit) ∧ l.length ≤ 9223372036854775807) ∧ ((∀ r ∈ m, r.Fit) ∧ m.length ≤ 9223372036854775807) := by
  unfold DecV at h
  rw [if_pos (by simp [isAggT, hh])] at h
  obtain ⟨cs, rfl, h⟩ := h
  rw [Dec, hh] at h
  obtain ⟨parts, ass, -, rfl, hm, h2⟩ := h
  match parts, ass, hm, h2 with
  | [p1, p2], [a1, a2], _, ⟨h1, h2, _⟩ =>
    obtain ⟨nl, fu, l, rfl, hl⟩ := dec_rows ht hu i h1
    obtain ⟨nl', fu', m, rfl, hm⟩ := dec_rows ht hu i h2
    exact ⟨nl, fu, nl', fu', l, m, rfl, hl, hm⟩
/-- A row of rows in a struct of one part. -/
theorem dec_act {n : Nat} {t e : TypeId} {f1 : Field} (hs : P.underlying t = some (.struct #[f1])) (hu : P.underlying f1.type = some (.slice e)) (i : IsRun P e) {d : DataW H} {cs : List AVal} (h : Dec P (n + 4) t d cs) :
    ∃ r : RowV, cs = encRow r ∧ r.Fit := by
  rw [Dec, hs] at h
  obtain ⟨parts, ass, -, rfl, hf⟩ := h
  obtain ⟨p1, ps1, a1, as1, rfl, rfl, r1, hf⟩ := fieldsR_cons hf
  obtain ⟨rfl, rfl⟩ := fieldsR_nil hf
  obtain ⟨r, rfl, hr⟩ := dec_row hu i r1
  exact ⟨r, by simp [encRow], hr⟩
theorem decV_acts {n : Nat} {t s e : TypeId} {f1 : Field} (ht : P.underlying t = some (.slice s)) (hs : P.underlying s = some (.struct #[f1])) (hu : P.underlying f1.type = some (.slice e)) (i : IsRun P e) {d : DataW H} {a : AVal} (h : DecV P (n + 5) t d a) :
    ∃ (nl fu : Bool) (l : List RowV), a = .imm nl fu true (l.map encRow) ∧ (∀ r ∈ l, r.Fit) ∧ l.length ≤ 9223372036854775807 := by
  unfold DecV at h
  rw [if_neg (by simp [isAggT, ht])] at h
  rw [Dec, ht] at h
  rcases h with ⟨-, h⟩ | ⟨elems, spare, rows, -, h, h2, h3⟩
  · exact ⟨true, true, [], by simpa [nilS] using h, by simp, by simp⟩
  · obtain ⟨l, rfl, hl⟩ := rows_map encRow RowV.Fit (all2_forall (Q := fun b => ∃ r : RowV, b = encRow r ∧ r.Fit) (fun a b hab => dec_act hs hu i hab) h2)
    exact ⟨false, false, l, by simpa using h, hl, by simpa [maxLen] using h3⟩
end
end Go.AM.R1
open Go Go.AM
namespace Go.AM.R1

/-! ### The bytes of a log that is made of rows -/
def madeGo : Int → List (List Run) → List Bk
  | _, [] => []
  | t, r :: s => if r.length ≤ 20 ∧ chk r = 0 ∧ chkB t (joined [] r) = 0 then (t, joined [] r) :: madeGo (t + sumN r) s else madeGo t s
def madeL (rows : List RowV) : List Bk := madeGo 0 ((rows.take 20).map RowV.l)
theorem Run.Fit.ok {r : Run} (h : r.Fit) : r.Ok := ⟨h.1.1, h.1.2⟩
theorem joined_drive {l : List Run} (h : ∀ r ∈ l, 0 ≤ r.Drive ∧ r.Drive ≤ 4294967295) : ∀ r ∈ joined [] l, 0 ≤ r.Drive ∧ r.Drive ≤ 4294967295 :=
  joined_mem l [] (fun r => 0 ≤ r.Drive ∧ r.Drive ≤ 4294967295) (fun r hr _ => h r hr) (fun x r hx _ _ => hx) (by simp)
theorem madeGo_good : ∀ (l : List (List Run)) (t : Int), (∀ r ∈ l, ∀ x ∈ r, x.Fit) → Good t (madeGo t l)
  | [], t, _ => trivial
  | r :: s, t, h => by
    rw [madeGo]
    split
    · rename_i h1
      have hs := joined_chk h1.2.1
      refine ⟨rfl, h1.2.2, joined_drive fun x hx => (h r (by simp) x hx).2.2, ?_⟩
      rw [hs.2.1]
      exact madeGo_good s _ fun r hr => h r (by simp [hr])
    · exact madeGo_good s _ fun r hr => h r (by simp [hr])
theorem madeL_good {rows : List RowV} (h : ∀ r ∈ rows, r.Fit) : Good 0 (madeL rows) := madeGo_good _ 0 (by
  intro r hr
  obtain ⟨v, hv, rfl⟩ := List.mem_map.1 hr
  exact (h v (List.mem_of_mem_take hv)).1)
theorem madeGo_length : ∀ (l : List (List Run)) (t : Int), (madeGo t l).length ≤ l.length
  | [], t => by simp [madeGo]
  | r :: s, t => by
    rw [madeGo]
    split
    · have := madeGo_length s (t + sumN r); simp; omega
    · have := madeGo_length s t; simp; omega
theorem putBk_len20 {x : Bk} (h : chkB x.1 x.2 = 0) (hl : x.2.length ≤ 20) : (putBk x).length ≤ 230 := by
  obtain ⟨h1, h2, h3, h4, h5, h6⟩ := chkB_ok h
  have := bytes_len5 (numsN x.1 x.2) (nums_lt h1 h3 (chk_right h4).1)
  have e : (numsN x.1 x.2).length = 2 * x.2.length + 2 := by simp only [numsN, List.length_cons, runN_length]
  have h7 := whole_len (numsN x.1 x.2)
  have h8 := putN_len64 (n := (bytesN (numsN x.1 x.2)).length) (by omega)
  unfold putBk; omega
theorem madeGo_bytes : ∀ (l : List (List Run)) (t : Int), (blksB (madeGo t l)).length ≤ 230 * l.length
  | [], t => by simp [madeGo, blksB]
  | r :: s, t => by
    rw [madeGo]
    split
    · rename_i h1
      have := madeGo_bytes s (t + sumN r)
      have := putBk_len20 (x := (t, joined [] r)) h1.2.2 (by have := joined_length r []; simp at this; show (joined [] r).length ≤ 20; omega)
      rw [blksB_cons, List.length_append, List.length_cons]; omega
    · have := madeGo_bytes s t; simp; omega
theorem blksB_byte : ∀ (l : List Bk) (t : Int), Good t l → ∀ c ∈ blksB l, c < 256
  | [], _, _ => by simp [blksB]
  | x :: l, t, g => by
    intro c hc
    rw [blksB_cons] at hc
    rcases List.mem_append.1 hc with h | h
    · exact wholeB_byte _ (nums_lt64 g.2.1) (by have := nums_bytes g.2.1; omega) c h
    · exact blksB_byte l _ g.2.2.2 c h

def madeB (rows : List RowV) : List Nat := blksB (madeL rows)
end Go.AM.R1
open Go Go.AM
namespace Go.AM.R1

theorem openE_seal (x : List Nat) : openE (sealB x) = 0 := by
  have hl := sealB_length x
  rw [seal_take _ (by omega), hl]
  show sealB ((x ++ _).take _) = _
  rw [Nat.add_sub_cancel, List.take_left]
theorem open_any (b : List Nat) (hb : ∀ c ∈ b, c < 256) (hl : b.length ≤ 1099511627775) (nl fu : Bool) (hnl : nl = false ∨ b = []) :
    call E (.func (.func 141) [] []) [.imm nl fu true (b.map encB)] []
      = some (if openE b = 0 then (.tup [.own 0 (b.length - 4) 1 0 (b.length - 4), .lit (.int .i64 0)], [.arr true false (b.take (b.length - 4)).isEmpty 1 ((b.take (b.length - 4)).map encB)])
        else (.tup [nilS, .lit (.int .i64 (openE b))], [])) := by
  cases nl with
  | false => exact open_spec b hb hl fu
  | true =>
    have hb0 : b = [] := by rcases hnl with h | h; cases h; exact h
    subst hb0
    rw [call_func E E141]
    have w4 : IntKind.wrap .i64 (-4) = -4 := rfl
    simp [go_sem, ir141, purse_eq, openE, nilS, w4]
theorem idxB_open (l : List Bk) : openE (idxB l) = 0 := openE_seal _
theorem idxB_byte (l : List Bk) : ∀ c ∈ idxB l, c < 256 := by
  intro c hc
  rcases List.mem_append.1 hc with h | h
  · exact idxIn_byte l c h
  · exact tail_byte _ c h
theorem idxB_len (l : List Bk) (hg : Good 0 l) (hl : l.length ≤ 1000000) : (idxB l).length ≤ 24 + 20 * l.length := by
  have := idxIn_len l hg (by omega)
  unfold idxB; rw [sealB_length]; omega
def getX (b whole : List Nat) (nl : Bool) : AVal × Heap :=
  if openE b = 0 then
    if (scanB whole).2.1 = whole.length then
      if idxB (scanB whole).1 = b then (.tup [.ptr 0 0, .lit (.int .i64 0)], ixH nl false false whole (entGo 0 0 (scanB whole).1) (totB (scanB whole).1))
      else (.tup [.lit (.pointer none), .lit (.int .i64 24)], [])
    else (.tup [.lit (.pointer none), .lit (.int .i64 11)], [])
  else (.tup [.lit (.pointer none), .lit (.int .i64 (openE b))], [])
end Go.AM.R1
open Go Go.AM
namespace Go.AM.R1

/-! ### Which block has a tick -/
def entIx : List Bk → Int → Nat
  | [], _ => 0
  | x :: r, t => if t < sumN x.2 then 0 else 1 + entIx r (t - sumN x.2)
theorem entIx_lt : ∀ (l : List Bk) (t : Int), 0 ≤ t → t < totB l → entIx l t < l.length
  | [], t, h0, h => by simp [totB] at h; omega
  | x :: r, t, h0, h => by
    rw [entIx]
    split
    · simp
    · have := entIx_lt r (t - sumN x.2) (by omega) (by simp only [totB] at h; omega)
      simp; omega
theorem entIx_bounds : ∀ (l : List Bk) (t : Int), 0 ≤ t → t < totB l → totB (l.take (entIx l t)) ≤ t ∧ t < totB (l.take (entIx l t + 1))
  | [], t, h0, h => by simp [totB] at h; omega
  | x :: r, t, h0, h => by
    rw [entIx]
    split
    · rename_i h1
      simp [totB]; omega
    · have := entIx_bounds r (t - sumN x.2) (by omega) (by simp only [totB] at h; omega)
      rw [show 1 + entIx r (t - sumN x.2) = entIx r (t - sumN x.2) + 1 by omega]
      simp only [List.take_succ_cons, totB]
      omega
/-- Ticks ahead of a block grow with its number. -/
theorem tot_mono {l : List Bk} (hg : Good 0 l) : ∀ {i j : Nat}, i ≤ j → totB (l.take i) ≤ totB (l.take j) := by
  intro i j h
  induction j with
  | zero => have : i = 0 := by omega
            subst this; exact Int.le_refl _
  | succ j ih =>
    by_cases hij : i = j + 1
    · subst hij; exact Int.le_refl _
    · have h1 := ih (by omega)
      by_cases hj : j < l.length
      · have := (take_succ_tot l j hj).1
        obtain ⟨g2, _⟩ := good_get l 0 j hj hg
        have := (chk_right (chkB_ok g2).2.2.2.1).2
        omega
      · rw [List.take_of_length_le (show l.length ≤ j + 1 by omega)]
        rw [List.take_of_length_le (show l.length ≤ j by omega)] at h1
        exact h1
def ixI (k : Nat) (lb le : Bool) (b : List Nat) (es : List Ent) (T : Int) : Heap :=
  [.box [.own (1 + k) b.length 1 0 b.length, .own (2 + k) es.length 2 0 es.length, .lit (.int .i64 T)], .arr true lb false 1 (b.map encB), .arr true le false 2 (es.map encEnt)]
theorem ixH_big {b : List Nat} (hb : b ≠ []) (lb le : Bool) (es : List Ent) (T : Int) : ixH false lb le b es T = ixI 0 lb le b es T := by simp [ixH, ixI, hb]
end Go.AM.R1
open Go Go.AM
namespace Go.AM.R1

/-! ### What an index tells -/
def allR (l : List Bk) : List Run := l.flatMap (·.2)
theorem allR_cons (x : Bk) (l : List Bk) : allR (x :: l) = x.2 ++ allR l := rfl
theorem allR_append (l m : List Bk) : allR (l ++ m) = allR l ++ allR m := by simp [allR]
theorem sumN_append : ∀ (l m : List Run), sumN (l ++ m) = sumN l + sumN m
  | [], m => by simp [sumN]
  | r :: l, m => by
    rw [List.cons_append, show sumN (r :: (l ++ m)) = r.N + sumN (l ++ m) from rfl, sumN_append l m, show sumN (r :: l) = r.N + sumN l from rfl]; omega
theorem allR_sum : ∀ l : List Bk, sumN (allR l) = totB l
  | [] => rfl
  | x :: l => by rw [allR_cons, sumN_append, allR_sum l]; rfl
theorem chk_all_right {l : List Run} (h : chk l = 0) : l.all right = true := by
  unfold chk at h
  cases ha : l.all right with
  | true => rfl
  | false => rw [ha] at h; simp at h
theorem good_right : ∀ (l : List Bk) (t : Int), Good t l → (allR l).all right = true
  | [], _, _ => rfl
  | x :: l, t, g => by
    rw [allR_cons, List.all_append, good_right l _ g.2.2.2, chk_all_right (chkB_ok g.2.1).2.2.2.1]; rfl
theorem good_chk {l : List Bk} {t : Int} (h0 : 0 ≤ t) (h1 : t ≤ 1073741824) (g : Good t l) : chk (allR l) = 0 := by
  have := good_tot l t h0 h1 g
  unfold chk
  rw [if_pos (good_right l t g), if_neg (by rw [allR_sum]; omega)]
theorem good_ok {l : List Bk} {t : Int} (h0 : 0 ≤ t) (h1 : t ≤ 1073741824) (g : Good t l) : ∀ r ∈ allR l, r.Ok := fun r hr => by
  have := (chk_right (good_chk h0 h1 g)).1 r hr
  exact ⟨by omega, by omega⟩
theorem bytesN_ge (l : List Nat) : l.length ≤ (bytesN l).length := by
  induction l with
  | nil => simp
  | cons n l ih =>
    have := List.length_pos_iff.2 (putN_pos n)
    simp only [bytesN, List.flatMap_cons, List.length_append, List.length_cons] at ih ⊢
    omega
theorem runs_le : ∀ (l : List Bk), 2 * (allR l).length ≤ (blksB l).length
  | [] => by simp [allR, blksB]
  | x :: l => by
    have h1 := runs_le l
    have h2 := bytesN_ge (numsN x.1 x.2)
    have h3 := whole_len (numsN x.1 x.2)
    have e : (numsN x.1 x.2).length = 2 * x.2.length + 2 := by simp only [numsN, List.length_cons, runN_length]
    rw [allR_cons, blksB_cons, List.length_append, List.length_append]
    show _ ≤ (wholeB (numsN x.1 x.2)).length + _
    omega
theorem pick_append : ∀ (A B : List Run) (t : Int), (∀ r ∈ A, 0 ≤ r.N) → 0 ≤ t → pick t (A ++ B) = if t < sumN A then pick t A else pick (t - sumN A) B
  | [], B, t, _, h0 => by
    have h : ¬ t < 0 := by omega
    simp [sumN, h]
  | r :: A, B, t, h, h0 => by
    have hr := h r (by simp)
    have hs : 0 ≤ sumN A := by
      have := expand_length A fun x hx => h x (by simp [hx])
      omega
    rw [List.cons_append, pick, pick, show sumN (r :: A) = r.N + sumN A from rfl]
    by_cases h1 : t < r.N
    · rw [if_pos h1, if_pos (by omega), if_pos h1]
    · rw [if_neg h1, pick_append A B (t - r.N) (fun x hx => h x (by simp [hx])) (by omega)]
      by_cases h2 : t - r.N < sumN A
      · rw [if_pos h2, if_pos (by omega), if_neg h1]
      · rw [if_neg h2, if_neg (by omega)]
        congr 1; omega
theorem good_nonneg {l : List Bk} {t : Int} (g : Good t l) : ∀ r ∈ allR l, 1 ≤ r.N ∧ r.N ≤ 1073741824 := fun r hr => right_N (List.all_eq_true.1 (good_right l t g) r hr)
/-- A tick of all is one of the block that has it. -/
theorem pick_all {l : List Bk} (hg : Good 0 l) {i : Nat} (hi : i < l.length) {t : Int} (h0 : totB (l.take i) ≤ t) (h1 : t < totB (l.take (i + 1))) : pick t (allR l) = pick (t - totB (l.take i)) l[i].2 := by
  have e : l = l.take i ++ (l[i] :: l.drop (i + 1)) := by rw [← List.drop_eq_getElem_cons hi, List.take_append_drop]
  have ht := tot_take_le l i hg
  have hk := (take_succ_tot l i hi).1
  obtain ⟨g2, _⟩ := good_get l 0 i hi hg
  have gr := (chk_right (chkB_ok g2).2.2.2.1).1
  conv => lhs; rw [e]
  rw [allR_append, pick_append _ _ _ (fun r hr => by have := good_nonneg (good_take l 0 i hg) r hr; omega) (by omega), allR_sum, if_neg (by omega), allR_cons,
    pick_append _ _ _ (fun r hr => by have := gr r hr; omega) (by omega), if_pos (by omega)]
end Go.AM.R1
open Go Go.AM
namespace Go.AM.R1

/-! ### A log in general -/
/-- Where each block ends. -/
def endsGo : Nat → Int → List Bk → List (Nat × Int)
  | _, _, [] => []
  | p, t, x :: r => (p + (putBk x).length, t + sumN x.2) :: endsGo (p + (putBk x).length) (t + sumN x.2) r
def encEnd (e : Nat × Int) : List AVal := endE e.1 e.2
theorem endsGo_length : ∀ (l : List Bk) (p : Nat) (t : Int), (endsGo p t l).length = l.length
  | [], _, _ => rfl
  | x :: l, p, t => by simp only [endsGo, List.length_cons, endsGo_length l]
theorem endsGo_append : ∀ (l m : List Bk) (p : Nat) (t : Int), endsGo p t (l ++ m) = endsGo p t l ++ endsGo (p + (blksB l).length) (t + totB l) m
  | [], m, p, t => by simp [endsGo, blksB, totB]
  | x :: l, m, p, t => by
    simp only [List.cons_append, endsGo, endsGo_append l m, blksB_cons, totB, List.length_append]
    rw [Nat.add_assoc, Int.add_assoc]
theorem endsGo_last (l : List Bk) (h : l ≠ []) (p : Nat) (t : Int) : (endsGo p t l)[l.length - 1]? = some (p + (blksB l).length, t + totB l) := by
  rcases List.eq_nil_or_concat l with e | ⟨o, x, rfl⟩
  · exact absurd e h
  · rw [List.concat_eq_append, endsGo_append, List.getElem?_append_right (by simp [endsGo_length])]
    simp [endsGo, endsGo_length, blksB_append, totB_append, blksB, totB]
    omega
/-- A log: its file's array, its blocks, and what waits. -/
def lS (fo ff lw lq : Bool) (L : List Bk) (W : List Run) (sure : Nat) (most : Int) (cr : Bool) : Heap :=
  if fo = false then
    (if W = [] then [.box [.ptr 1 0, nilS, nilS, nilS], fileB nilS sure most cr]
     else [.box [.ptr 1 0, nilS, nilS, .own 2 W.length 3 0 W.length], fileB nilS sure most cr, .arr true lq false 3 (W.map encRun)])
  else if L = [] then
    (if W = [] then [.box [.ptr 1 0, nilS, nilS, nilS], fileB (.own 2 0 1 0 0) sure most cr, .arr true false ff 1 []]
     else [.box [.ptr 1 0, nilS, nilS, .own 3 W.length 3 0 W.length], fileB (.own 2 0 1 0 0) sure most cr, .arr true false ff 1 [], .arr true lq false 3 (W.map encRun)])
  else
    (if W = [] then [.box [.ptr 1 0, .own 3 (joined [] (allR L)).length 3 0 (joined [] (allR L)).length, .own 4 L.length 2 0 L.length, nilS], fileB (.own 2 (blksB L).length 1 0 (blksB L).length) sure most cr, .arr true false ff 1 ((blksB L).map encB), .arr true lw false 3 ((joined [] (allR L)).map encRun), .arr true false false 2 ((endsGo 0 0 L).map encEnd)]
     else [.box [.ptr 1 0, .own 3 (joined [] (allR L)).length 3 0 (joined [] (allR L)).length, .own 4 L.length 2 0 L.length, .own 5 W.length 3 0 W.length], fileB (.own 2 (blksB L).length 1 0 (blksB L).length) sure most cr, .arr true false ff 1 ((blksB L).map encB), .arr true lw false 3 ((joined [] (allR L)).map encRun), .arr true false false 2 ((endsGo 0 0 L).map encEnd), .arr true lq false 3 (W.map encRun)])
theorem gblocks (fo ff lw lq : Bool) (L W) (hfo : fo = false → L = []) (hl : L.length ≤ 1000000) (sure most cr) : call E (.func (.func 31) [] []) [.ptr 0 0] (lS fo ff lw lq L W sure most cr) = some (.lit (.int .i64 L.length), lS fo ff lw lq L W sure most cr) := by
  rw [call_func E E31]
  by_cases hW : W = []
  · by_cases hL : L = []
    · cases fo <;> simp [go_sem, ir31, lS, hW, hL, fileB, nilS, purse_eq, List.range_succ]
    · have : fo = true := by cases fo with | true => rfl | false => exact absurd (hfo rfl) hL
      subst this
      simp [go_sem, ir31, lS, hW, hL, fileB, nilS, purse_eq, List.range_succ]
  · by_cases hL : L = []
    · cases fo <;> simp [go_sem, ir31, lS, hW, hL, fileB, nilS, purse_eq, List.range_succ]
    · have : fo = true := by cases fo with | true => rfl | false => exact absurd (hfo rfl) hL
      subst this
      simp [go_sem, ir31, lS, hW, hL, fileB, nilS, purse_eq, List.range_succ]
theorem glast (fo ff lw lq : Bool) (L W) (hfo : fo = false → L = []) (hl : L.length ≤ 1000000) (sure most cr) : call E (.func (.func 71) [] []) [.ptr 0 0] (lS fo ff lw lq L W sure most cr)
    = some (.agg (endE (blksB L).length (totB L)), lS fo ff lw lq L W sure most cr) := by
  rw [call_func E E71]
  by_cases hL : L = []
  · by_cases hW : W = []
    · cases fo <;> simp [go_sem, ir71, lS, hW, hL, fileB, nilS, purse_eq, List.range_succ, endE, blksB, totB]
    · cases fo <;> simp [go_sem, ir71, lS, hW, hL, fileB, nilS, purse_eq, List.range_succ, endE, blksB, totB]
  · have : fo = true := by cases fo with | true => rfl | false => exact absurd (hfo rfl) hL
    subst this
    have hp := List.length_pos_iff.2 hL
    have he := endsGo_last L hL 0 0
    simp only [Nat.zero_add, Int.zero_add] at he
    have hel := endsGo_length L 0 0
    have hi' : L.length - 1 < (endsGo 0 0 L).length := by omega
    have hx : (endsGo 0 0 L)[L.length - 1] = ((blksB L).length, totB L) := by simpa [List.getElem?_eq_getElem hi'] using he
    have w : IntKind.wrap .i64 ((L.length : Int) - 1) = ((L.length - 1 : Nat) : Int) := by rw [wrap64 (by omega) (by omega)]; omega
    have hlt : L.length - 1 < L.length := by omega
    have h0 : ¬ L.length = 0 := by omega
    clear he
    generalize L.length - 1 = i at *
    by_cases hW : W = []
    · simp [go_sem, ir71, lS, hW, hL, fileB, nilS, purse_eq, List.range_succ, w, hlt, hel, hx, h0, encEnd, endE]
    · simp [go_sem, ir71, lS, hW, hL, fileB, nilS, purse_eq, List.range_succ, w, hlt, hel, hx, h0, encEnd, endE]
theorem gwaiting (fo ff lw lq : Bool) (L W) (hfo : fo = false → L = []) (hl : W.length ≤ 4096) (hc : chk W = 0) (sure most cr) : call E (.func (.func 72) [] []) [.ptr 0 0] (lS fo ff lw lq L W sure most cr)
    = some (.lit (.int .i64 (sumN W)), lS fo ff lw true L W sure most cr) := by
  rw [call_func E E72]
  by_cases hW : W = []
  · have h := ticks_nil
    simp [nilS] at h
    by_cases hL : L = []
    · cases fo <;> simp [go_sem, ir72, lS, hW, hL, h, fileB, nilS, purse_eq, List.range_succ, sumN]
    · have : fo = true := by cases fo with | true => rfl | false => exact absurd (hfo rfl) hL
      subst this
      simp [go_sem, ir72, lS, hW, hL, h, fileB, nilS, purse_eq, List.range_succ, sumN]
  · have hT := ticks_spec W (by omega) (fun r hr => by have := (chk_right hc).1 r hr; exact ⟨by omega, by omega⟩) false false
    rw [ticks_eq, if_pos hc, hc] at hT
    by_cases hL : L = []
    · cases fo <;> simp [go_sem, ir72, lS, hW, hL, hT, fileB, nilS, purse_eq, List.range_succ]
    · have : fo = true := by cases fo with | true => rfl | false => exact absurd (hfo rfl) hL
      subst this
      simp [go_sem, ir72, lS, hW, hL, hT, fileB, nilS, purse_eq, List.range_succ]
theorem gticks (fo ff lw lq : Bool) (L W) (hfo : fo = false → L = []) (hlL : L.length ≤ 1000000) (hl : W.length ≤ 4096) (hc : chk W = 0) (ht : 0 ≤ totB L ∧ totB L ≤ 1073741824) (sure most cr) : call E (.func (.func 26) [] []) [.ptr 0 0] (lS fo ff lw lq L W sure most cr)
    = some (.lit (.int .i64 (totB L + sumN W)), lS fo ff lw true L W sure most cr) := by
  rw [call_func E E26]
  have h1 := glast fo ff lw lq L W hfo hlL sure most cr
  have h2 := gwaiting fo ff lw lq L W hfo hl hc sure most cr
  have hsu := (chk_right hc).2
  have w : IntKind.wrap .i64 (totB L + sumN W) = totB L + sumN W := wrap64 (by omega) (by omega)
  generalize totB L = T at *
  by_cases hW : W = []
  · by_cases hL : L = []
    · cases fo <;> simp [lS, hW, hL, fileB, nilS, endE] at h1 h2 <;> simp [hW] at w <;> simp [go_sem, ir26, lS, hW, hL, h1, h2, w, fileB, nilS, purse_eq, List.range_succ]
    · have : fo = true := by cases fo with | true => rfl | false => exact absurd (hfo rfl) hL
      subst this
      simp [lS, hW, hL, fileB, nilS, endE] at h1 h2
      simp [hW] at w
      simp [go_sem, ir26, lS, hW, hL, h1, h2, w, fileB, nilS, purse_eq, List.range_succ]
  · by_cases hL : L = []
    · cases fo <;> simp [lS, hW, hL, fileB, nilS, endE] at h1 h2 <;> simp [go_sem, ir26, lS, hW, hL, h1, h2, w, fileB, nilS, purse_eq, List.range_succ]
    · have : fo = true := by cases fo with | true => rfl | false => exact absurd (hfo rfl) hL
      subst this
      simp [lS, hW, hL, fileB, nilS, endE] at h1 h2
      simp [go_sem, ir26, lS, hW, hL, h1, h2, w, fileB, nilS, purse_eq, List.range_succ]
end Go.AM.R1
open Go Go.AM
namespace Go.AM.R1

theorem foT {fo : Bool} {L : List Bk} (hfo : fo = false → L = []) (hL : L ≠ []) : fo = true := by
  cases fo with
  | true => rfl
  | false => exact absurd (hfo rfl) hL
theorem gruns (fo ff lw lq : Bool) (L W) (hfo : fo = false → L = []) (hJ : (joined [] (allR L)).length ≤ 1000000) (hJn : L ≠ [] → joined [] (allR L) ≠ []) (sure most cr) : call E (.func (.func 32) [] []) [.ptr 0 0] (lS fo ff lw lq L W sure most cr)
    = some (.tup [if L = [] then nilS else .own (lS fo ff lw lq L W sure most cr).length (joined [] (allR L)).length 3 0 (joined [] (allR L)).length, .lit (.int .i64 0)], lS fo ff true lq L W sure most cr ++ (if L = [] then [] else [.arr true false false 3 ((joined [] (allR L)).map encRun)])) := by
  rw [call_func E E32]
  have h0 := rclone_nil
  simp [nilS] at h0
  by_cases hL : L = []
  · by_cases hW : W = []
    · cases fo <;> simp [go_sem, ir32, lS, hW, hL, h0, fileB, nilS, purse_eq, List.range_succ]
    · cases fo <;> simp [go_sem, ir32, lS, hW, hL, h0, fileB, nilS, purse_eq, List.range_succ]
  · have := foT hfo hL
    subst this
    have h := rclone_spec (joined [] (allR L)) hJ false
    have hne := hJn hL
    have hJe : (joined [] (allR L)).isEmpty = false := by cases hq : joined [] (allR L) with | nil => exact absurd hq hne | cons x r => rfl
    rw [hJe] at h
    by_cases hW : W = []
    · simp [go_sem, ir32, lS, hW, hL, h, fileB, nilS, purse_eq, List.range_succ]
    · simp [go_sem, ir32, lS, hW, hL, h, fileB, nilS, purse_eq, List.range_succ]
/-- A log, with what waited before still lying there. -/
def lSJ (fo ff lw : Bool) (L : List Bk) (W0 W : List Run) (sure : Nat) (most : Int) (cr : Bool) : Heap :=
  if fo = false then [.box [.ptr 1 0, nilS, nilS, .own 3 W.length 3 0 W.length], fileB nilS sure most cr, .arr true true false 3 (W0.map encRun), .arr true false false 3 (W.map encRun)]
  else if L = [] then [.box [.ptr 1 0, nilS, nilS, .own 4 W.length 3 0 W.length], fileB (.own 2 0 1 0 0) sure most cr, .arr true false ff 1 [], .arr true true false 3 (W0.map encRun), .arr true false false 3 (W.map encRun)]
  else [.box [.ptr 1 0, .own 3 (joined [] (allR L)).length 3 0 (joined [] (allR L)).length, .own 4 L.length 2 0 L.length, .own 6 W.length 3 0 W.length], fileB (.own 2 (blksB L).length 1 0 (blksB L).length) sure most cr, .arr true false ff 1 ((blksB L).map encB), .arr true lw false 3 ((joined [] (allR L)).map encRun), .arr true false false 2 ((endsGo 0 0 L).map encEnd), .arr true true false 3 (W0.map encRun), .arr true false false 3 (W.map encRun)]
/-- What an Append tells. -/
def appE (L : List Bk) (W r : List Run) : Int := if chk r ≠ 0 then chk r else if 1073741824 < totB L + sumN W + sumN r ∨ 4096 < (joined [] (W ++ r)).length then 12 else 0
theorem sum_joined {W r : List Run} (h1 : chk W = 0) (h2 : chk r = 0) : sumN (joined [] (W ++ r)) = sumN W + sumN r ∧ (∀ x ∈ W ++ r, 1 ≤ x.N ∧ x.N ≤ 1073741824) := by
  have a := (chk_right h1).1
  have b := (chk_right h2).1
  have hall : ∀ x ∈ W ++ r, 1 ≤ x.N ∧ x.N ≤ 1073741824 := by
    intro x hx
    rcases List.mem_append.1 hx with h | h
    · exact a x h
    · exact b x h
  refine ⟨?_, hall⟩
  have hJ1 : ∀ r' ∈ joined [] (W ++ r), 1 ≤ r'.N := (tidy_joined (W ++ r) [] ⟨by simp, by simp⟩).1
  have e1 := expand_length (joined [] (W ++ r)) (fun x hx => by have := hJ1 x hx; omega)
  have e2 := expand_length (W ++ r) (fun x hx => by have := hall x hx; omega)
  rw [expand_joined _ [] (by simp), show expand ([] : List Run) = [] from rfl, List.nil_append] at e1
  rw [← sumN_append]
  omega
theorem joined_ne {l : List Run} (h : ∀ x ∈ l, 1 ≤ x.N) (hne : l ≠ []) : joined [] l ≠ [] := by
  intro q
  have hJ1 : ∀ r' ∈ joined [] l, 1 ≤ r'.N := (tidy_joined l [] ⟨by simp, by simp⟩).1
  have e2 := expand_length l (fun x hx => by have := h x hx; omega)
  have e1 := congrArg List.length (expand_joined l [] (by simp))
  rw [q, show expand ([] : List Run) = [] from rfl, List.nil_append, List.length_nil] at e1
  cases l with
  | nil => exact hne rfl
  | cons x xs =>
    have h3 := h x (by simp)
    have h4 := expand_length xs (fun y hy => by have := h y (by simp [hy]); omega)
    rw [show sumN (x :: xs) = x.N + sumN xs from rfl] at e2
    omega
theorem gappend (fo ff lw lq : Bool) (L) (W r : List Run) (hfo : fo = false → L = []) (hlL : L.length ≤ 1000000) (hlW : W.length ≤ 4096) (hcW : chk W = 0) (ht : 0 ≤ totB L ∧ totB L ≤ 1073741824) (hlr : r.length ≤ 900000) (hok : ∀ x ∈ r, x.Ok) (sure most cr) (nl fu : Bool) :
    call E (.func (.func 38) [] []) [.ptr 0 0, .imm nl fu true (r.map encRun)] (lS fo ff lw lq L W sure most cr)
      = some (.lit (.int .i64 (appE L W r)), if chk r ≠ 0 then lS fo ff lw lq L W sure most cr else if appE L W r ≠ 0 then lS fo ff lw true L W sure most cr else if W = [] then lS fo ff lw false L (joined [] (W ++ r)) sure most cr else lSJ fo ff lw L W (joined [] (W ++ r)) sure most cr) := by
  rw [call_func E E38]
  have hT := ticks_spec r (by omega) hok nl fu
  rw [ticks_eq] at hT
  by_cases hc : chk r = 0
  · rw [if_pos hc, hc] at hT
    simp only [hc, ne_eq, not_true_eq_false, if_false]
    obtain ⟨hsum, hall⟩ := sum_joined hcW hc
    have hsW := (chk_right hcW).2
    have hsr := (chk_right hc).2
    have hK := fun lq => gticks fo ff lw lq L W hfo hlL hlW hcW ht sure most cr
    have wT : IntKind.wrap .i64 (totB L + sumN W + sumN r) = totB L + sumN W + sumN r := wrap64 (by omega) (by omega)
    have hps := posSum_of_right (W ++ r) (fun x hx => by have := hall x hx; omega)
    rw [sumN_append] at hps
    have hokA : ∀ x ∈ W ++ r, x.Ok := fun x hx => by have := hall x hx; exact ⟨by omega, by omega⟩
    have hC := fun fu xn xf yn yf => concat2_spec W r (by omega) fu xn xf yn yf
    have hJ := fun nl fu => join_spec (W ++ r) (by simp; omega) hokA nl fu
    rw [joinGo_eq (W ++ r) 0 [] (by omega)] at hJ
    have hjl := joined_length (W ++ r) []
    simp at hjl
    by_cases he : W ++ r = []
    · have hW : W = [] := (List.append_eq_nil_iff.1 he).1
      have hr : r = [] := (List.append_eq_nil_iff.1 he).2
      subst hW hr
      have ha : appE L [] [] = 0 := by
        unfold appE
        rw [if_neg (by simp [hc]), if_neg]
        simp [sumN, joined]; omega
      rw [ha]
      have hC1 := hC true true true nl fu
      have hJ1 := hJ true true
      have hK1 := hK lq
      have w2 : IntKind.wrap .i64 (totB L) = totB L := wrap64 (by omega) (by omega)
      have h2 : ¬ 1073741824 < totB L := by omega
      generalize totB L = T at *
      simp [joined, resV, resH, nilS, sumN] at hC1 hJ1 hT hK1 wT
      by_cases hL : L = []
      · cases fo <;> simp [lS, hL, fileB, nilS] at hK1 <;> simp [go_sem, ir38, lS, hL, hT, hC1, hJ1, hK1, w2, h2, joined, fileB, nilS, purse_eq, List.range_succ]
      · have := foT hfo hL
        subst this
        simp [lS, hL, fileB, nilS] at hK1
        simp [go_sem, ir38, lS, hL, hT, hC1, hJ1, hK1, w2, h2, joined, fileB, nilS, purse_eq, List.range_succ]
    · have hWn : joined [] (W ++ r) ≠ [] := joined_ne (fun x hx => (hall x hx).1) he
      have hJ1 := hJ false false
      simp [resV, resH, hWn] at hJ1
      have ha : appE L W r = if 1073741824 < totB L + sumN W + sumN r ∨ 4096 < (joined [] (W ++ r)).length then 12 else 0 := by unfold appE; rw [if_neg (by simp [hc])]
      rw [ha]
      generalize hQ : joined [] (W ++ r) = Q at *
      by_cases hW : W = []
      · subst hW
        have hK1 := hK lq
        have hC1 := hC true true true nl fu
        simp [nilS] at he hC1 hJ1
        simp [he] at hC1
        by_cases h1 : 1073741824 < totB L + sumN [] + sumN r
        · rw [if_pos (.inl h1)]
          generalize totB L = T at *
          simp [sumN] at hK1 wT h1
          by_cases hL : L = []
          · cases fo <;> simp [lS, hL, fileB, nilS] at hK1 <;> simp [go_sem, ir38, lS, hL, hT, hC1, hJ1, hK1, wT, h1, hWn, fileB, nilS, purse_eq, List.range_succ]
          · have := foT hfo hL
            subst this
            simp [lS, hL, fileB, nilS] at hK1
            simp [go_sem, ir38, lS, hL, hT, hC1, hJ1, hK1, wT, h1, hWn, fileB, nilS, purse_eq, List.range_succ]
        · by_cases h2 : 4096 < Q.length
          · rw [if_pos (.inr h2)]
            have h2' : (4096 : Int) < (Q.length : Int) := by omega
            generalize totB L = T at *
            simp [sumN] at hK1 wT
            have h1' : ¬ 1073741824 < T + sumN r := by simpa [sumN] using h1
            by_cases hL : L = []
            · cases fo <;> simp [lS, hL, fileB, nilS] at hK1 <;> simp [go_sem, ir38, lS, hL, hT, hC1, hJ1, hK1, wT, h1', h2', hWn, fileB, nilS, purse_eq, List.range_succ]
            · have := foT hfo hL
              subst this
              simp [lS, hL, fileB, nilS] at hK1
              simp [go_sem, ir38, lS, hL, hT, hC1, hJ1, hK1, wT, h1', h2', hWn, fileB, nilS, purse_eq, List.range_succ]
          · rw [if_neg (by rintro (q | q); exact h1 q; exact h2 q)]
            have h2' : ¬ (4096 : Int) < (Q.length : Int) := by omega
            generalize totB L = T at *
            simp [sumN] at hK1 wT
            have h1' : ¬ 1073741824 < T + sumN r := by simpa [sumN] using h1
            by_cases hL : L = []
            · cases fo <;> simp [lS, hL, fileB, nilS] at hK1 <;> simp [go_sem, ir38, lS, hL, hT, hC1, hJ1, hK1, wT, h1', h2', hWn, fileB, nilS, purse_eq, List.range_succ]
            · have := foT hfo hL
              subst this
              simp [lS, hL, fileB, nilS] at hK1
              simp [go_sem, ir38, lS, hL, hT, hC1, hJ1, hK1, wT, h1', h2', hWn, fileB, nilS, purse_eq, List.range_succ]
      · have hK1 := hK true
        have hC1 := hC true false false nl fu
        simp [hW] at hC1
        by_cases h1 : 1073741824 < totB L + sumN W + sumN r
        · rw [if_pos (.inl h1)]
          generalize totB L = T at *
          by_cases hL : L = []
          · cases fo <;> simp [lS, hL, hW, fileB, nilS] at hK1 <;> simp [go_sem, ir38, lS, lSJ, hL, hW, hT, hC1, hJ1, hK1, wT, h1, hWn, fileB, nilS, purse_eq, List.range_succ]
          · have := foT hfo hL
            subst this
            simp [lS, hL, hW, fileB, nilS] at hK1
            simp [go_sem, ir38, lS, lSJ, hL, hW, hT, hC1, hJ1, hK1, wT, h1, hWn, fileB, nilS, purse_eq, List.range_succ]
        · by_cases h2 : 4096 < Q.length
          · rw [if_pos (.inr h2)]
            have h2' : (4096 : Int) < (Q.length : Int) := by omega
            generalize totB L = T at *
            by_cases hL : L = []
            · cases fo <;> simp [lS, hL, hW, fileB, nilS] at hK1 <;> simp [go_sem, ir38, lS, lSJ, hL, hW, hT, hC1, hJ1, hK1, wT, h1, h2', hWn, fileB, nilS, purse_eq, List.range_succ]
            · have := foT hfo hL
              subst this
              simp [lS, hL, hW, fileB, nilS] at hK1
              simp [go_sem, ir38, lS, lSJ, hL, hW, hT, hC1, hJ1, hK1, wT, h1, h2', hWn, fileB, nilS, purse_eq, List.range_succ]
          · rw [if_neg (by rintro (q | q); exact h1 q; exact h2 q)]
            have h2' : ¬ (4096 : Int) < (Q.length : Int) := by omega
            generalize totB L = T at *
            by_cases hL : L = []
            · cases fo <;> simp [lS, hL, hW, fileB, nilS] at hK1 <;> simp [go_sem, ir38, lS, lSJ, hL, hW, hT, hC1, hJ1, hK1, wT, h1, h2', hWn, fileB, nilS, purse_eq, List.range_succ]
            · have := foT hfo hL
              subst this
              simp [lS, hL, hW, fileB, nilS] at hK1
              simp [go_sem, ir38, lS, lSJ, hL, hW, hT, hC1, hJ1, hK1, wT, h1, h2', hWn, fileB, nilS, purse_eq, List.range_succ]
  · rw [if_neg hc] at hT
    have ha : appE L W r = chk r := by unfold appE; rw [if_pos hc]
    rw [ha, if_pos hc]
    by_cases hL : L = []
    · by_cases hW : W = []
      · cases fo <;> simp [go_sem, ir38, lS, hL, hW, hT, hc, fileB, nilS, purse_eq, List.range_succ]
      · cases fo <;> simp [go_sem, ir38, lS, hL, hW, hT, hc, fileB, nilS, purse_eq, List.range_succ]
    · have := foT hfo hL
      subst this
      by_cases hW : W = []
      · simp [go_sem, ir38, lS, hL, hW, hT, hc, fileB, nilS, purse_eq, List.range_succ]
      · simp [go_sem, ir38, lS, hL, hW, hT, hc, fileB, nilS, purse_eq, List.range_succ]
end Go.AM.R1
open Go Go.AM
namespace Go.AM.R1

/-- A log whose block's bytes are in the file already. -/
def lT (ff lw lq : Bool) (L : List Bk) (W : List Run) (fb : List Nat) (sure : Nat) (most : Int) : Heap :=
  if L = [] then [.box [.ptr 1 0, nilS, nilS, .own 3 W.length 3 0 W.length], fileB (.own 2 fb.length 1 0 fb.length) sure most false, .arr true false ff 1 (fb.map encB), .arr true lq false 3 (W.map encRun)]
  else [.box [.ptr 1 0, .own 3 (joined [] (allR L)).length 3 0 (joined [] (allR L)).length, .own 4 L.length 2 0 L.length, .own 5 W.length 3 0 W.length], fileB (.own 2 fb.length 1 0 fb.length) sure most false, .arr true false ff 1 (fb.map encB), .arr true lw false 3 ((joined [] (allR L)).map encRun), .arr true false false 2 ((endsGo 0 0 L).map encEnd), .arr true lq false 3 (W.map encRun)]
theorem twaiting (ff lw lq : Bool) (L W) (hW : W ≠ []) (hl : W.length ≤ 4096) (hc : chk W = 0) (fb sure most) : call E (.func (.func 72) [] []) [.ptr 0 0] (lT ff lw lq L W fb sure most) = some (.lit (.int .i64 (sumN W)), lT ff lw true L W fb sure most) := by
  rw [call_func E E72]
  have hT := ticks_spec W (by omega) (fun r hr => by have := (chk_right hc).1 r hr; exact ⟨by omega, by omega⟩) false false
  rw [ticks_eq, if_pos hc, hc] at hT
  by_cases hL : L = []
  · simp [go_sem, ir72, lT, hL, hT, fileB, nilS, purse_eq, List.range_succ]
  · simp [go_sem, ir72, lT, hL, hT, fileB, nilS, purse_eq, List.range_succ]
theorem joined_joined (A W : List Run) : joined [] (joined [] A ++ W) = joined [] (A ++ W) := by
  rw [joined_append, joined_self, ← joined_append]
/-- A block noted. -/
theorem gwrite (ff lw lq : Bool) (L W) (hW : W ≠ []) (hl : W.length ≤ 4096) (hc : chk W = 0) (hj : joined [] W = W) (hg : L ≠ [] → chk (allR L) = 0 ∧ (joined [] (allR L)).length ≤ 500000 ∧ joined [] (allR L) ≠ [] ∧ L.length ≤ 500000) (fb : List Nat) (sure most) (n : Nat) (T : Int) (fu : Bool) :
    call E (.func (.func 77) [] []) [.ptr 0 0, .imm false fu true (W.map encRun), .agg (endE n T)] (lT ff lw lq L W fb sure most)
      = some (.tup [], if L = [] then [.box [.ptr 1 0, .own 4 W.length 3 0 W.length, .own 5 1 2 0 1, .own 3 W.length 3 0 W.length], fileB (.own 2 fb.length 1 0 fb.length) sure most false, .arr true false ff 1 (fb.map encB), .arr true lq false 3 (W.map encRun), .arr true false false 3 (W.map encRun), .arr true false false 2 [endE n T]]
        else [.box [.ptr 1 0, .own 6 (joined [] (allR L ++ W)).length 3 0 (joined [] (allR L ++ W)).length, .own 4 (L.length + 1) 2 0 (L.length + 1), .own 5 W.length 3 0 W.length], fileB (.own 2 fb.length 1 0 fb.length) sure most false, .arr true false ff 1 (fb.map encB), .arr true true false 3 ((joined [] (allR L) ++ W).map encRun), .arr true false false 2 ((endsGo 0 0 L).map encEnd ++ [endE n T]), .arr true lq false 3 (W.map encRun), .arr true false false 3 ((joined [] (allR L ++ W)).map encRun)]) := by
  rw [call_func E E77]
  have hN := (chk_right hc).1
  have hok : ∀ r ∈ W, r.Ok := fun r hr => by have := hN r hr; exact ⟨by omega, by omega⟩
  have hsu := (chk_right hc).2
  have hr := rowsR W
  by_cases hL : L = []
  · have hJ := join_spec W (by omega) hok false false
    rw [joinGo_eq W 0 [] (by rw [posSum_of_right _ (fun r hr => by have := hN r hr; omega)]; omega), hj] at hJ
    have hbb : ¬ (70368744177664 < W.length * 24) := by omega
    simp [resV, resH, hW] at hJ
    simp [go_sem, ir77, lT, hL, fileB, endE, nilS, hr, hW, hbb, hJ, purse_eq, List.range_succ]
  · obtain ⟨a1, a2, a3, a4⟩ := hg hL
    have hjc := joined_chk a1
    obtain ⟨hsum, hall⟩ := sum_joined hjc.1 hc
    have hsj := (chk_right hjc.1).2
    have hps := posSum_of_right (joined [] (allR L) ++ W) (fun x hx => by have := hall x hx; omega)
    rw [sumN_append] at hps
    have hokA : ∀ x ∈ joined [] (allR L) ++ W, x.Ok := fun x hx => by have := hall x hx; exact ⟨by omega, by omega⟩
    have hJ := join_spec (joined [] (allR L) ++ W) (by simp; omega) hokA false false
    rw [joinGo_eq _ 0 [] (by omega)] at hJ
    have hQn : joined [] (joined [] (allR L) ++ W) ≠ [] := joined_ne (fun x hx => (hall x hx).1) (by simp [hW])
    rw [joined_joined] at hJ hQn
    have hel := endsGo_length L 0 0
    have hbb : ¬ (70368744177664 < ((joined [] (allR L)).length + W.length) * 24) := by omega
    have hbe : ¬ (70368744177664 < (L.length + 1) * 16) := by omega
    have hpos := List.length_pos_iff.2 hL
    have hn0 : ¬ L.length = 0 := by omega
    simp only [lT, hL, if_false]
    generalize joined [] (allR L ++ W) = Q at *
    generalize joined [] (allR L) = J at *
    generalize endsGo 0 0 L = es at *
    simp [resV, resH, hQn] at hJ
    simp [go_sem, ir77, hL, fileB, endE, nilS, hr, hW, hbb, hbe, hJ, hel, hn0, purse_eq, List.range_succ]
end Go.AM.R1
open Go Go.AM
namespace Go.AM.R1

theorem gflush0 (fo ff lw lq : Bool) (L) (hfo : fo = false → L = []) (sure most cr) : call E (.func (.func 35) [] []) [.ptr 0 0] (lS fo ff lw lq L [] sure most cr)
    = some (.lit (.int .i64 (if cr = true then 25 else 0)), lS fo ff lw lq L [] (if cr = true then sure else (blksB L).length) most cr) := by
  rw [call_func E E35]
  have h1 := fflush fo ff (blksB L) (fun h => by rw [hfo h]; rfl) sure most cr
  by_cases hL : L = []
  · rw [hL, show blksB [] = [] from rfl] at h1
    cases cr <;> cases fo <;> simp [fF, fB, fileB, nilS] at h1 <;> simp [go_sem, ir35, lS, hL, h1, fileB, nilS, purse_eq, List.range_succ, show blksB [] = [] from rfl]
  · have := foT hfo hL
    subst this
    cases cr <;> simp [fF, fB, fileB, nilS] at h1 <;> simp [go_sem, ir35, lS, hL, h1, fileB, nilS, purse_eq, List.range_succ]
/-- What a Flush that wrote a block leaves. -/
def flH (fo lw : Bool) (L : List Bk) (W : List Run) (most : Int) : Heap :=
  if fo = false then [.box [.ptr 1 0, .own 3 W.length 3 0 W.length, .own 4 1 2 0 1, nilS], fileB (.own 5 (putBk (0, W)).length 1 0 (putBk (0, W)).length) (putBk (0, W)).length most false, .arr true true false 3 (W.map encRun), .arr true false false 3 (W.map encRun), .arr true false false 2 [endE (putBk (0, W)).length (sumN W)], .arr true false false 1 ((putBk (0, W)).map encB)]
  else if L = [] then [.box [.ptr 1 0, .own 4 W.length 3 0 W.length, .own 5 1 2 0 1, nilS], fileB (.own 2 (putBk (0, W)).length 1 0 (putBk (0, W)).length) (putBk (0, W)).length most false, .arr true false false 1 ((putBk (0, W)).map encB), .arr true true false 3 (W.map encRun), .arr true false false 3 (W.map encRun), .arr true false false 2 [endE (putBk (0, W)).length (sumN W)]]
  else [.box [.ptr 1 0, .own 6 (joined [] (allR L ++ W)).length 3 0 (joined [] (allR L ++ W)).length, .own 4 (L.length + 1) 2 0 (L.length + 1), nilS], fileB (.own 2 (blksB L ++ putBk (totB L, W)).length 1 0 (blksB L ++ putBk (totB L, W)).length) (blksB L ++ putBk (totB L, W)).length most false, .arr true false false 1 ((blksB L ++ putBk (totB L, W)).map encB), .arr true true false 3 ((joined [] (allR L) ++ W).map encRun), .arr true false false 2 ((endsGo 0 0 L).map encEnd ++ [endE ((blksB L).length + (putBk (totB L, W)).length) (totB L + sumN W)]), .arr true true false 3 (W.map encRun), .arr true false false 3 ((joined [] (allR L ++ W)).map encRun)]
theorem gflush (fo ff lw lq : Bool) (L W) (hfo : fo = false → L = []) (hW : W ≠ []) (hc : chkB (totB L) W = 0) (hj : joined [] W = W) (hd : ∀ r ∈ W, 0 ≤ r.Drive ∧ r.Drive ≤ 4294967295) (ht : 0 ≤ totB L ∧ totB L ≤ 1073741824)
    (hg : L ≠ [] → chk (allR L) = 0 ∧ (joined [] (allR L)).length ≤ 500000 ∧ joined [] (allR L) ≠ [] ∧ L.length ≤ 500000) (hb : (blksB L).length ≤ 900000) (sure : Nat) (most : Int) (hm : 0 ≤ most ∧ most ≤ 67108864) (cr : Bool) :
    call E (.func (.func 35) [] []) [.ptr 0 0] (lS fo ff lw lq L W sure most cr)
      = some (if cr = true then (.lit (.int .i64 25), lS fo ff lw true L W sure most cr) else if most < ((blksB L).length : Int) + (putBk (totB L, W)).length then (.lit (.int .i64 15), lS fo ff lw true L W sure most cr) else (.lit (.int .i64 0), flH fo lw L W most)) := by
  rw [call_func E E35]
  obtain ⟨c1, c2, c3, c4, c5, c6⟩ := chkB_ok hc
  have hN := (chk_right c4).1
  have hok : ∀ r ∈ W, r.Ok := fun r hr => by have := hN r hr; exact ⟨by omega, by omega⟩
  have hsu := (chk_right c4).2
  have hLl : L.length ≤ 1000000 := by
    by_cases hL : L = []
    · rw [hL]; simp
    · have := (hg hL).2.2.2; omega
  have h1 := glast fo ff lw lq L W hfo hLl sure most cr
  have hP := bput_spec (totB L) (by omega) W (by omega) hok false false hc
  rw [show wholeB (numsN (totB L) W) = putBk (totB L, W) from rfl] at hP
  have hlen := putBk_len (x := (totB L, W)) hc
  have hne : putBk (totB L, W) ≠ [] := by intro q; rw [q] at hlen; simp at hlen
  have hA := fappend fo ff (blksB L) (fun h => by rw [hfo h]; rfl) sure most hm cr (putBk (totB L, W)) hne (by omega) false
  have hF := fflush true false (blksB L ++ putBk (totB L, W)) (by intro h; cases h) sure most false
  have hWt := twaiting false lw true L W hW c3 c4 (blksB L ++ putBk (totB L, W)) sure most
  have hWr := gwrite false lw true L W hW c3 c4 hj hg (blksB L ++ putBk (totB L, W)) sure most ((blksB L).length + (putBk (totB L, W)).length) (totB L + sumN W) false
  have w1 : IntKind.wrap .i64 (((blksB L).length : Int) + ((putBk (totB L, W)).length : Int)) = (((blksB L).length + (putBk (totB L, W)).length : Nat) : Int) := by rw [wrap64 (by omega) (by omega)]; omega
  have w2 : IntKind.wrap .i64 (totB L + sumN W) = totB L + sumN W := wrap64 (by omega) (by omega)
  simp [encBlk] at hP
  cases cr
  · by_cases h4 : most < ((blksB L).length : Int) + (putBk (totB L, W)).length
    · simp only [h4, if_true, Bool.false_eq_true, if_false] at hA ⊢
      by_cases hL : L = []
      · subst hL
        simp only [show blksB [] = [] from rfl, show totB [] = 0 from rfl] at *
        generalize putBk (0, W) = B at *
        cases fo <;> simp [lS, hW, fileB, nilS, endE] at h1 <;> simp [fF, fB, fileB, nilS] at hA <;> simp [go_sem, ir35, lS, hW, h1, hP, hA, fileB, nilS, endE, purse_eq, List.range_succ]
      · have := foT hfo hL
        subst this
        simp [lS, hW, hL, fileB, nilS, endE] at h1
        simp [fF, fB, fileB, nilS] at hA
        simp [go_sem, ir35, lS, hW, hL, h1, hP, hA, fileB, nilS, endE, purse_eq, List.range_succ]
    · simp only [h4, if_true, Bool.false_eq_true, if_false] at hA ⊢
      by_cases hL : L = []
      · subst hL
        simp only [show blksB [] = [] from rfl, show totB [] = 0 from rfl, List.nil_append, List.length_nil, Nat.zero_add, Int.zero_add, Int.natCast_zero] at *
        cases fo
        · simp [lS, hW, fileB, nilS, endE] at h1
          simp [fF, fB, fileB, nilS] at hA hF
          simp [lT, fileB, nilS, endE] at hWt hWr
          simp [go_sem, ir35, lS, flH, hW, h1, hP, hA, hWt, hWr, hF, w1, w2, fileB, nilS, endE, purse_eq, List.range_succ]
        · simp [lS, hW, fileB, nilS, endE] at h1
          simp [fF, fB, fileB, nilS] at hA hF
          simp [lT, fileB, nilS, endE] at hWt hWr
          simp [go_sem, ir35, lS, flH, hW, h1, hP, hA, hWt, hWr, hF, w1, w2, fileB, nilS, endE, purse_eq, List.range_succ]
      · have := foT hfo hL
        subst this
        simp [lS, hW, hL, fileB, nilS, endE] at h1
        simp [fF, fB, fileB, nilS] at hA hF
        simp [lT, hL, fileB, nilS, endE] at hWt hWr
        simp at w1
        simp [go_sem, ir35, lS, flH, hW, hL, h1, hP, hA, hWt, hWr, hF, w1, w2, fileB, nilS, endE, purse_eq, List.range_succ]
  · simp only [if_true] at hA ⊢
    by_cases hL : L = []
    · subst hL
      simp only [show blksB [] = [] from rfl, show totB [] = 0 from rfl] at *
      generalize putBk (0, W) = B at *
      cases fo <;> simp [lS, hW, fileB, nilS, endE] at h1 <;> simp [fF, fB, fileB, nilS] at hA <;> simp [go_sem, ir35, lS, hW, h1, hP, hA, fileB, nilS, endE, purse_eq, List.range_succ]
    · have := foT hfo hL
      subst this
      simp [lS, hW, hL, fileB, nilS, endE] at h1
      simp [fF, fB, fileB, nilS] at hA
      simp [go_sem, ir35, lS, hW, hL, h1, hP, hA, fileB, nilS, endE, purse_eq, List.range_succ]
end Go.AM.R1
open Go Go.AM
namespace Go.AM.R1

/-! ### A log that is opened in a file -/
def lO (lw : Bool) (ff : Bool) (L : List Bk) (fb : List Nat) (sure : Nat) (most : Int) : Heap :=
  if L = [] then [.box [.ptr 1 0, nilS, nilS, nilS], fileB (.own 2 fb.length 1 0 fb.length) sure most false, .arr true false ff 1 (fb.map encB)]
  else [.box [.ptr 1 0, .own 3 (joined [] (allR L)).length 3 0 (joined [] (allR L)).length, .own 4 L.length 2 0 L.length, nilS], fileB (.own 2 fb.length 1 0 fb.length) sure most false, .arr true false ff 1 (fb.map encB), .arr true lw false 3 ((joined [] (allR L)).map encRun), .arr true false false 2 ((endsGo 0 0 L).map encEnd)]
theorem owrite (ff lw : Bool) (L W) (hW : W ≠ []) (hl : W.length ≤ 4096) (hc : chk W = 0) (hj : joined [] W = W) (hg : L ≠ [] → chk (allR L) = 0 ∧ (joined [] (allR L)).length ≤ 500000 ∧ joined [] (allR L) ≠ [] ∧ L.length ≤ 500000) (fb : List Nat) (sure most) (n : Nat) (T : Int) (fu : Bool) :
    call E (.func (.func 77) [] []) [.ptr 0 0, .imm false fu true (W.map encRun), .agg (endE n T)] (lO lw ff L fb sure most)
      = some (.tup [], if L = [] then [.box [.ptr 1 0, .own 3 W.length 3 0 W.length, .own 4 1 2 0 1, nilS], fileB (.own 2 fb.length 1 0 fb.length) sure most false, .arr true false ff 1 (fb.map encB), .arr true false false 3 (W.map encRun), .arr true false false 2 [endE n T]]
        else [.box [.ptr 1 0, .own 5 (joined [] (allR L ++ W)).length 3 0 (joined [] (allR L ++ W)).length, .own 4 (L.length + 1) 2 0 (L.length + 1), nilS], fileB (.own 2 fb.length 1 0 fb.length) sure most false, .arr true false ff 1 (fb.map encB), .arr true true false 3 ((joined [] (allR L) ++ W).map encRun), .arr true false false 2 ((endsGo 0 0 L).map encEnd ++ [endE n T]), .arr true false false 3 ((joined [] (allR L ++ W)).map encRun)]) := by
  rw [call_func E E77]
  have hN := (chk_right hc).1
  have hok : ∀ r ∈ W, r.Ok := fun r hr => by have := hN r hr; exact ⟨by omega, by omega⟩
  have hsu := (chk_right hc).2
  have hr := rowsR W
  by_cases hL : L = []
  · have hJ := join_spec W (by omega) hok false false
    rw [joinGo_eq W 0 [] (by rw [posSum_of_right _ (fun r hr => by have := hN r hr; omega)]; omega), hj] at hJ
    have hbb : ¬ (70368744177664 < W.length * 24) := by omega
    simp [resV, resH, hW] at hJ
    simp [go_sem, ir77, lO, hL, fileB, endE, nilS, hr, hW, hbb, hJ, purse_eq, List.range_succ]
  · obtain ⟨a1, a2, a3, a4⟩ := hg hL
    have hjc := joined_chk a1
    obtain ⟨hsum, hall⟩ := sum_joined hjc.1 hc
    have hsj := (chk_right hjc.1).2
    have hps := posSum_of_right (joined [] (allR L) ++ W) (fun x hx => by have := hall x hx; omega)
    rw [sumN_append] at hps
    have hokA : ∀ x ∈ joined [] (allR L) ++ W, x.Ok := fun x hx => by have := hall x hx; exact ⟨by omega, by omega⟩
    have hJ := join_spec (joined [] (allR L) ++ W) (by simp; omega) hokA false false
    rw [joinGo_eq _ 0 [] (by omega)] at hJ
    have hQn : joined [] (joined [] (allR L) ++ W) ≠ [] := joined_ne (fun x hx => (hall x hx).1) (by simp [hW])
    rw [joined_joined] at hJ hQn
    have hel := endsGo_length L 0 0
    have hbb : ¬ (70368744177664 < ((joined [] (allR L)).length + W.length) * 24) := by omega
    have hbe : ¬ (70368744177664 < (L.length + 1) * 16) := by omega
    have hpos := List.length_pos_iff.2 hL
    have hn0 : ¬ L.length = 0 := by omega
    simp only [lO, hL, if_false]
    generalize joined [] (allR L ++ W) = Q at *
    generalize joined [] (allR L) = J at *
    generalize endsGo 0 0 L = es at *
    simp [resV, resH, hQn] at hJ
    simp [go_sem, ir77, hL, fileB, endE, nilS, hr, hW, hbb, hbe, hJ, hel, hn0, purse_eq, List.range_succ]
/-- What a round of Open sees. -/
def oH (ff : Bool) (L : List Bk) (fb : List Nat) (sure : Nat) (most : Int) : Heap :=
  if L = [] then [.loop 0 none [(5, .ptr 1 0)] [16, 17] A42_0 B42_0, .box [.ptr 2 0], .box [.ptr 3 0, nilS, nilS, nilS], fileB (.own 4 fb.length 1 0 fb.length) sure most false, .arr true false ff 1 (fb.map encB)]
  else [.loop 0 none [(5, .ptr 1 0)] [16, 17] A42_0 B42_0, .box [.ptr 2 0], .box [.ptr 3 0, .own 5 (joined [] (allR L)).length 3 0 (joined [] (allR L)).length, .own 6 L.length 2 0 L.length, nilS], fileB (.own 4 fb.length 1 0 fb.length) sure most false, .arr true false ff 1 (fb.map encB), .arr true false false 3 ((joined [] (allR L)).map encRun), .arr true false false 2 ((endsGo 0 0 L).map encEnd)]
theorem oY (ff : Bool) (L : List Bk) (x : Bk) (hW : x.2 ≠ []) (hl : x.2.length ≤ 4096) (hc : chk x.2 = 0) (hj : joined [] x.2 = x.2) (hg : L ≠ [] → chk (allR L) = 0 ∧ (joined [] (allR L)).length ≤ 500000 ∧ joined [] (allR L) ≠ [] ∧ L.length ≤ 500000) (fb : List Nat) (sure : Nat) (most : Int) (n : Nat) (T : Int) :
    call E (.yld 0) [.agg (encBk x), .agg (endE n T)] (oH ff L fb sure most)
      = some (.lit (.bool true), if L = [] then [.loop 0 none [(5, .ptr 1 0)] [16, 17] A42_0 B42_0, .box [.ptr 2 0], .box [.ptr 3 0, .own 5 x.2.length 3 0 x.2.length, .own 6 1 2 0 1, nilS], fileB (.own 4 fb.length 1 0 fb.length) sure most false, .arr true false ff 1 (fb.map encB), .arr true false false 3 (x.2.map encRun), .arr true false false 2 [endE n T]]
        else [.loop 0 none [(5, .ptr 1 0)] [16, 17] A42_0 B42_0, .box [.ptr 2 0], .box [.ptr 3 0, .own 7 (joined [] (allR L ++ x.2)).length 3 0 (joined [] (allR L ++ x.2)).length, .own 6 (L.length + 1) 2 0 (L.length + 1), nilS], fileB (.own 4 fb.length 1 0 fb.length) sure most false, .arr true false ff 1 (fb.map encB), .arr true true false 3 ((joined [] (allR L) ++ x.2).map encRun), .arr true false false 2 ((endsGo 0 0 L).map encEnd ++ [endE n T]), .arr true false false 3 ((joined [] (allR L ++ x.2)).map encRun)]) := by
  have hw := owrite ff false L x.2 hW hl hc hj hg fb sure most n T false
  by_cases hL : L = []
  · simp [lO, hL, fileB, endE, nilS] at hw
    simp [go_sem, oH, hL, encBk, fileB, endE, nilS, run_codeL E A42_0.eq_1, run_codeL E B42_0.eq_1, hw, purse_eq, List.range_succ]
  · simp [lO, hL, fileB, endE, nilS] at hw
    simp [go_sem, oH, hL, encBk, fileB, endE, nilS, run_codeL E A42_0.eq_1, run_codeL E B42_0.eq_1, hw, purse_eq, List.range_succ]
end Go.AM.R1
open Go Go.AM
namespace Go.AM.R1

theorem joined_nodup17 : ∀ (l o : List Run) (x : Run), (∀ r ∈ l, 1 ≤ r.N) → dup (x :: l) = false → joined (o ++ [x]) l = o ++ [x] ++ l
  | [], o, x, _, _ => by simp [joined]
  | r :: l, o, x, hN, hd => by
    rw [dup, Bool.or_eq_false_iff] at hd
    have hr := hN r (by simp)
    have hna : ¬ alike x r = true := by
      have := hd.1
      simp only [decide_eq_false_iff_not] at this
      simp [alike, this]
    rw [joined, if_neg (by omega), push_snoc, if_neg hna, show o ++ [x, r] = (o ++ [x]) ++ [r] from by simp, joined_nodup17 l (o ++ [x]) r (fun y hy => hN y (by simp [hy])) hd.2]
    simp
theorem joined_of_nodup17 {l : List Run} (hN : ∀ r ∈ l, 1 ≤ r.N) (hd : dup l = false) : joined [] l = l := by
  cases l with
  | nil => rfl
  | cons x l =>
    have hx := hN x (by simp)
    rw [joined, if_neg (by omega), push_nil]
    have := joined_nodup17 l [] x (fun r hr => hN r (by simp [hr])) hd
    simpa using this
theorem acc_facts {acc : List Bk} (hg : Good 0 acc) (hb : (blksB acc).length ≤ 1000000) : acc ≠ [] → chk (allR acc) = 0 ∧ (joined [] (allR acc)).length ≤ 500000 ∧ joined [] (allR acc) ≠ [] ∧ acc.length ≤ 500000 := by
  intro hne
  have h1 := good_chk (by omega) (by omega) hg
  have h2 := runs_le acc
  have h3 := joined_length (allR acc) []
  have h4 := good_len acc 0 hg
  simp at h3
  refine ⟨h1, by omega, joined_ne (fun x hx => ((chk_right h1).1 x hx).1) ?_, by omega⟩
  cases acc with
  | nil => exact absurd rfl hne
  | cons x r =>
    have := (chkB_ok hg.2.1).2.1
    rw [allR_cons]
    intro q
    exact this (List.append_eq_nil_iff.1 q).1
def oB (nl fu ff : Bool) (b : List Nat) (acc : List Bk) (p : Nat) (t : Int) (fb : List Nat) (sure : Nat) (most : Int) : Heap :=
  if acc = [] then [.box [.imm nl fu true (b.map encB)], .loop 0 none [(5, .ptr 2 0)] [16, 17] A42_0 B42_0, .box [.ptr 3 0], .box [.ptr 4 0, nilS, nilS, nilS], fileB (.own 5 fb.length 1 0 fb.length) sure most false, .arr true false ff 1 (fb.map encB), .box [.lit (.int .i64 p), .lit (.int .i64 t)]]
  else [.box [.imm nl fu true (b.map encB)], .loop 0 none [(5, .ptr 2 0)] [16, 17] A42_0 B42_0, .box [.ptr 3 0], .box [.ptr 4 0, .own 6 (joined [] (allR acc)).length 3 0 (joined [] (allR acc)).length, .own 7 acc.length 2 0 acc.length, nilS], fileB (.own 5 fb.length 1 0 fb.length) sure most false, .arr true false ff 1 (fb.map encB),
    .arr true false false 3 ((joined [] (allR acc)).map encRun), .arr true false false 2 ((endsGo 0 0 acc).map encEnd), .box [.lit (.int .i64 p), .lit (.int .i64 t)]]
def oF (nl fu ff : Bool) (b : List Nat) (acc : List Bk) (fb : List Nat) (sure : Nat) (most : Int) : Heap :=
  if acc = [] then [.box [.imm nl fu true (b.map encB)], .loop 0 none [(5, .ptr 2 0)] [16, 17] A42_0 B42_0, .box [.ptr 3 0], .box [.ptr 4 0, nilS, nilS, nilS], fileB (.own 5 fb.length 1 0 fb.length) sure most false, .arr true false ff 1 (fb.map encB)]
  else [.box [.imm nl fu true (b.map encB)], .loop 0 none [(5, .ptr 2 0)] [16, 17] A42_0 B42_0, .box [.ptr 3 0], .box [.ptr 4 0, .own 6 (joined [] (allR acc)).length 3 0 (joined [] (allR acc)).length, .own 7 acc.length 2 0 acc.length, nilS], fileB (.own 5 fb.length 1 0 fb.length) sure most false, .arr true false ff 1 (fb.map encB),
    .arr true false false 3 ((joined [] (allR acc)).map encRun), .arr true false false 2 ((endsGo 0 0 acc).map encEnd)]
def atO (acc : List Bk) : Nat := if acc = [] then 6 else 8
theorem open_loop (b : List Nat) (hb : ∀ c ∈ b, c < 256) (hl : b.length ≤ 1000000) (nl fu ff : Bool) (hnl : nl = false ∨ b = []) (fb : List Nat) (sure : Nat) (most : Int) :
    ∀ (d p : Nat) (t : Int) (acc : List Bk), b.length + 1 ≤ p + d → p ≤ b.length → Good 0 acc → p = (blksB acc).length → t = totB acc →
   finK 6 [] (run E 6 [.code L111_0, .inLoop [1000000, 0, 1, 3] L111_0, .inBlock 0]
     [(0, .yld 1), (1, .ptr 0 0), (3, .ptr (atO acc) 0)] (oB nl fu ff b acc p t fb sure most))
    = some (.tup [], oF nl fu ff b (scanGo d b p t acc).1 fb sure most) := by
  intro d
  induction d with
  | zero => intro p t acc hd hp; omega
  | succ d ih =>
    intro p t acc hd hp hga hpe hte
    have hta := good_tot acc 0 (by omega) (by omega) hga
    have hG := bget_spec (b.drop p) (fun c hc => hb c (List.mem_of_mem_drop hc)) (by simp; omega) nl (fu) (by rcases hnl with h | h; exact .inl h; subst h; exact .inr (by simp))
    rw [List.map_drop] at hG
    have hr := rowsB b
    have hfa := acc_facts hga (by omega)
    by_cases h : (getB (b.drop p)).2.2 = 0
    · obtain ⟨g1, g2, g3, g4, g5⟩ := get_good (fun c hc => hb c (List.mem_of_mem_drop hc)) h
      have gk := chkB_ok g1
      simp at g4
      by_cases h2 : (getB (b.drop p)).1.1 = t
      · have hn : scanGo (d + 1) b p t acc = scanGo d b (p + (getB (b.drop p)).2.1.toNat) (t + sumN (getB (b.drop p)).1.2) (acc ++ [(getB (b.drop p)).1]) := by
          rw [scanGo, if_pos ⟨h, h2⟩]
        rw [hn]
        clear hn
        have hT := ticks_spec (getB (b.drop p)).1.2 (by omega) (chkB_Ok g1) false false
        rw [ticks_eq, if_pos gk.2.2.2.1, gk.2.2.2.1] at hT
        have hs := (chk_right gk.2.2.2.1).2
        rw [h] at hG
        have hlen : (putBk (getB (b.drop p)).1).length = (getB (b.drop p)).2.1.toNat := by
          show (wholeB (numsN _ _)).length = _
          rw [← g5]; simp; omega
        have hgn : Good 0 (acc ++ [(getB (b.drop p)).1]) := by
          rw [good_append]
          refine ⟨hga, ?_, g1, g2, trivial⟩
          rw [Int.zero_add, ← hte, h2]
        have ih2 := ih (p + (getB (b.drop p)).2.1.toNat) (t + sumN (getB (b.drop p)).1.2) (acc ++ [(getB (b.drop p)).1]) (by omega) (by omega) hgn (by
          rw [blksB_append, List.length_append, ← hpe]
          show _ = p + (putBk (getB (b.drop p)).1 ++ []).length
          rw [List.append_nil, hlen]) (by rw [totB_append, ← hte]; simp [totB])
        have wp : IntKind.wrap .i64 ((p : Int) + (getB (b.drop p)).2.1) = ((p + (getB (b.drop p)).2.1.toNat : Nat) : Int) := by rw [wrap64 (by omega) (by omega)]; omega
        have wt : IntKind.wrap .i64 (t + sumN (getB (b.drop p)).1.2) = t + sumN (getB (b.drop p)).1.2 := by rw [wrap64 (by omega) (by omega)]
        have hR := gk.2.1
        have hY := oY ff acc (getB (b.drop p)).1 gk.2.1 gk.2.2.1 gk.2.2.2.1 (joined_of_nodup17 (fun r hr => ((chk_right gk.2.2.2.1).1 r hr).1) gk.2.2.2.2.1) hfa fb sure most (p + (getB (b.drop p)).2.1.toNat) (t + sumN (getB (b.drop p)).1.2)
        have hends : endsGo 0 0 (acc ++ [(getB (b.drop p)).1]) = endsGo 0 0 acc ++ [(p + (getB (b.drop p)).2.1.toNat, t + sumN (getB (b.drop p)).1.2)] := by
          rw [endsGo_append]
          simp only [endsGo, Nat.zero_add, Int.zero_add, hlen, ← hpe, ← hte]
        have hallR : allR (acc ++ [(getB (b.drop p)).1]) = allR acc ++ (getB (b.drop p)).1.2 := by rw [allR_append]; simp [allR]
        have hne : acc ++ [(getB (b.drop p)).1] ≠ [] := by simp
        have hjn := joined_of_nodup17 (l := (getB (b.drop p)).1.2) (fun r hr => ((chk_right gk.2.2.2.1).1 r hr).1) gk.2.2.2.2.1
        simp only [oB, hne, if_false, atO, hends, hallR, List.length_append, List.length_singleton, List.map_append, List.map_cons, List.map_nil] at ih2
        generalize oF nl fu ff b _ fb sure most = F at *
        clear g5 hlen hgn hends hallR hne
        generalize getB (b.drop p) = g at *
        obtain ⟨⟨f, W⟩, m, e⟩ := g
        simp only [] at *
        subst h2
        simp [resV, resHl, hR] at hG
        by_cases ha0 : acc = []
        · subst ha0
          rw [show allR ([] : List Bk) = [] from rfl, List.nil_append, hjn] at ih2
          simp [oH, encBk, fileB, endE, nilS] at hY
          simp [fileB, encEnd, endE, endsGo, nilS] at ih2
          simp [go_sem, run_codeL E L111_0.eq_1, hp, hr, take_allB, hG, hT, wp, wt, oB, atO, fileB, purse_eq, hY, nilS]
          rw [run_inLoop']
          simp [go_sem, purse_eq, List.range_succ]
          simpa using ih2
        · simp [oH, ha0, encBk, fileB, endE, nilS] at hY
          simp [fileB, encEnd, endE, nilS] at ih2
          simp [go_sem, run_codeL E L111_0.eq_1, hp, hr, take_allB, hG, hT, wp, wt, oB, atO, ha0, fileB, purse_eq, hY, nilS]
          rw [run_inLoop']
          simp [go_sem, purse_eq, List.range_succ]
          simpa using ih2
      · have hn : scanGo (d + 1) b p t acc = (acc, p, t) := by
          rw [scanGo, if_neg (by intro q; exact h2 q.2)]
        rw [hn]
        clear hn
        rw [h] at hG
        have hR := gk.2.1
        clear g5
        generalize getB (b.drop p) = g at *
        obtain ⟨⟨f, W⟩, m, e⟩ := g
        simp only [] at *
        simp [resV, resHl, hR] at hG
        by_cases ha0 : acc = []
        · subst ha0
          simp [go_sem, run_codeL E L111_0.eq_1, hp, hr, take_allB, hG, oB, oF, atO, fileB, purse_eq, List.range_succ, h2, nilS]
        · simp [go_sem, run_codeL E L111_0.eq_1, hp, hr, take_allB, hG, oB, oF, atO, ha0, fileB, purse_eq, List.range_succ, h2, nilS]
    · have hn : scanGo (d + 1) b p t acc = (acc, p, t) := by
        rw [scanGo, if_neg (by intro q; exact h q.1)]
      rw [hn]
      clear hn
      obtain ⟨g1, g2⟩ := get_bad h
      generalize getB (b.drop p) = g at *
      obtain ⟨⟨f, W⟩, m, e⟩ := g
      simp only [Prod.mk.injEq] at *
      obtain ⟨g1, g3⟩ := g1
      subst g1 g2 g3
      simp [resV, resHl] at hG
      by_cases ha0 : acc = []
      · subst ha0
        simp [go_sem, run_codeL E L111_0.eq_1, hp, hr, take_allB, hG, oB, oF, atO, fileB, purse_eq, List.range_succ, h, nilS]
      · simp [go_sem, run_codeL E L111_0.eq_1, hp, hr, take_allB, hG, oB, oF, atO, ha0, fileB, purse_eq, List.range_succ, h, nilS]
end Go.AM.R1
open Go Go.AM
namespace Go.AM.R1

theorem olast (lw ff : Bool) (L : List Bk) (hl : L.length ≤ 1000000) (fb : List Nat) (sure : Nat) (most : Int) : call E (.func (.func 71) [] []) [.ptr 0 0] (lO lw ff L fb sure most)
    = some (.agg (endE (blksB L).length (totB L)), lO lw ff L fb sure most) := by
  rw [call_func E E71]
  by_cases hL : L = []
  · simp [go_sem, ir71, lO, hL, fileB, nilS, purse_eq, List.range_succ, endE, blksB, totB]
  · have hp := List.length_pos_iff.2 hL
    have he := endsGo_last L hL 0 0
    simp only [Nat.zero_add, Int.zero_add] at he
    have hel := endsGo_length L 0 0
    have hi' : L.length - 1 < (endsGo 0 0 L).length := by omega
    have hx : (endsGo 0 0 L)[L.length - 1] = ((blksB L).length, totB L) := by simpa [List.getElem?_eq_getElem hi'] using he
    have w : IntKind.wrap .i64 ((L.length : Int) - 1) = ((L.length - 1 : Nat) : Int) := by rw [wrap64 (by omega) (by omega)]; omega
    have hlt : L.length - 1 < L.length := by omega
    have h0 : ¬ L.length = 0 := by omega
    clear he
    generalize L.length - 1 = i at *
    simp [go_sem, ir71, lO, hL, fileB, nilS, purse_eq, List.range_succ, w, hlt, hel, hx, h0, encEnd, endE]
theorem fkeep (ff : Bool) (fb : List Nat) (n : Nat) (hn : n ≤ fb.length) (sure : Nat) (most : Int) (cr : Bool) : call E (.func (.func 84) [] []) [.ptr 0 0, .lit (.int .i64 n)] (fB ff fb sure most cr)
    = some (.tup [], [fileB (.own 2 n 1 0 n) (min sure n) most cr, .dead, .arr true false true 1 ((fb.take n).map encB)]) := by
  rw [call_func E E84]
  have hmin : (if (n : Int) < (sure : Int) then (n : Int) else (sure : Int)) = ((min sure n : Nat) : Int) := by split <;> omega
  by_cases h : (n : Int) < (sure : Int)
  · have e : min sure n = n := by omega
    rw [e]
    have h' : n < sure := by omega
    simp [go_sem, ir84, fB, fileB, hn, h, h', purse_eq, List.range_succ]
  · have e : min sure n = sure := by omega
    rw [e]
    have h' : ¬ n < sure := by omega
    simp [go_sem, ir84, fB, fileB, hn, h, h', purse_eq, List.range_succ]
theorem fcut (ff : Bool) (fb : List Nat) (n : Nat) (hn : n ≤ fb.length) (sure : Nat) (most : Int) : call E (.func (.func 86) [] []) [.ptr 0 0, .lit (.int .i64 n)] (fB ff fb sure most false)
    = some (.lit (.int .i64 0), [fileB (.own 2 n 1 0 n) (min sure n) most false, .dead, .arr true false true 1 ((fb.take n).map encB)]) := by
  rw [call_func E E86]
  have h1 := bcheck1 ff fb sure most false
  have h2 := bsize1 ff fb sure most false
  have h3 := fkeep ff fb n hn sure most false
  have h4 : ¬ (n : Int) < 0 := by omega
  have h5 : ¬ (fb.length : Int) < (n : Int) := by omega
  have h6 : ¬ fb.length < n := by omega
  generalize fb.take n = fb' at *
  generalize min sure n = s' at *
  simp [fB, fileB] at h1 h2 h3
  simp [go_sem, ir86, fB, fileB, h1, h2, h3, h4, h5, h6, purse_eq, List.range_succ]
theorem oblocks1 (b : List Nat) (hb : ∀ c ∈ b, c < 256) (hl : b.length ≤ 1000000) (nl fu ff : Bool) (hnl : nl = false ∨ b = []) (fb : List Nat) (sure : Nat) (most : Int) :
    call E (.func (.func 111) [] [.ptr 0 0]) [.yld 1] [.box [.imm nl fu true (b.map encB)], .loop 0 none [(5, .ptr 2 0)] [16, 17] A42_0 B42_0, .box [.ptr 3 0], .box [.ptr 4 0, nilS, nilS, nilS], fileB (.own 5 fb.length 1 0 fb.length) sure most false, .arr true false ff 1 (fb.map encB)]
     = some (.tup [], oF nl fu ff b (scanB b).1 fb sure most) := by
  rw [call_func E E111]
  have h := open_loop b hb hl nl fu ff hnl fb sure most (b.length + 1) 0 0 [] (by omega) (by omega) trivial rfl rfl
  rw [show scanGo (b.length + 1) b 0 0 [] = scanB b from rfl] at h
  generalize oF nl fu ff b (scanB b).1 fb sure most = F at h ⊢
  simp [oB, atO, fileB, nilS] at h
  simp [go_sem, ir111, purse_eq, fileB, nilS]
  rw [run_inLoop']
  simp [go_sem, purse_eq, List.range_succ]
  exact h
theorem gopen (ff : Bool) (fb : List Nat) (hb : ∀ c ∈ fb, c < 256) (hl : fb.length ≤ 1000000) (sure : Nat) (most : Int) :
    call E (.func (.func 42) [] []) [.ptr 0 0] (fB ff fb sure most false)
      = some (.tup [.ptr 3 0, .lit (.int .i64 ((fb.length : Int) - (scanB fb).2.1)), .lit (.int .i64 0)],
        [fileB (.own 2 (scanB fb).2.1 1 0 (scanB fb).2.1) (min sure (scanB fb).2.1) most false, .dead, .arr true false true 1 ((fb.take (scanB fb).2.1).map encB)] ++
          (if (scanB fb).1 = [] then [.box [.ptr 0 0, nilS, nilS, nilS]] else [.box [.ptr 0 0, .own 4 (joined [] (allR (scanB fb).1)).length 3 0 (joined [] (allR (scanB fb).1)).length, .own 5 (scanB fb).1.length 2 0 (scanB fb).1.length, nilS], .arr true false false 3 ((joined [] (allR (scanB fb).1)).map encRun), .arr true false false 2 ((endsGo 0 0 (scanB fb).1).map encEnd)])) := by
  rw [call_func E E42]
  obtain ⟨f1, f2, f3, f4, f5⟩ := scanB_facts hb
  have hln := good_len _ 0 f1
  have h1 := fbytes true ff fb hl sure most false
  have h2 := blocks_spec false fb.isEmpty (fb.map encB)
  have h3 := oblocks1 fb hb hl false fb.isEmpty ff (.inl rfl) fb sure most
  have h4 := flen true ff fb (by intro h; cases h) sure most false
  have h5 := olast false ff (scanB fb).1 (by omega) fb sure most
  rw [← f2] at h5
  have h6 := fcut ff fb (scanB fb).2.1 f3 sure most
  have w : IntKind.wrap .i64 ((fb.length : Int) - ((scanB fb).2.1 : Int)) = (fb.length : Int) - (scanB fb).2.1 := wrap64 (by omega) (by omega)
  generalize hsc : scanB fb = sc at *
  obtain ⟨L, n, T⟩ := sc
  simp only [] at *
  generalize fb.take n = fb' at *
  generalize min sure n = s' at *
  simp [fF, fB, fileB, nilS] at h1 h4 h6
  by_cases hL : L = []
  · simp [oF, hL, fileB, nilS] at h3
    simp [lO, hL, fileB, endE, nilS] at h5
    simp [go_sem, ir42, fB, fileB, nilS, hL, h1, h2, h3, h4, h5, h6, w, purse_eq, List.range_succ]
  · simp [oF, hL, fileB, nilS] at h3
    simp [lO, hL, fileB, endE, nilS] at h5
    simp [go_sem, ir42, fB, fileB, nilS, hL, h1, h2, h3, h4, h5, h6, w, purse_eq, List.range_succ]
end Go.AM.R1
open Go Go.AM
namespace Go.AM.R1

theorem gsure0 (lq : Bool) (W) (most cr) : call E (.func (.func 29) [] []) [.ptr 0 0] (lS false false false lq [] W 0 most cr) = some (.lit (.int .i64 0), lS false false false lq [] W 0 most cr) := by
  rw [call_func E E29]
  by_cases hW : W = []
  · simp [go_sem, ir29, lS, hW, fileB, nilS, purse_eq, List.range_succ]
    rw [run_inLoop']
    simp [go_sem, purse_eq, List.range_succ, run_codeL E L29_0.eq_1]
  · simp [go_sem, ir29, lS, hW, fileB, nilS, purse_eq, List.range_succ]
    rw [run_inLoop']
    simp [go_sem, purse_eq, List.range_succ, run_codeL E L29_0.eq_1]
theorem ends_fold : ∀ (l : List Bk) (p : Nat) (t : Int), (endsGo p t l).foldl (fun _ e => e.2) t = t + totB l
  | [], p, t => by simp [endsGo, totB]
  | x :: l, p, t => by rw [endsGo, List.foldl_cons, ends_fold l, totB]; omega
theorem ends_le : ∀ (l : List Bk) (p : Nat) (t : Int), ∀ e ∈ endsGo p t l, e.1 ≤ p + (blksB l).length
  | [], p, t => by simp [endsGo]
  | x :: l, p, t => by
    intro e he
    rw [blksB_cons, List.length_append]
    rcases List.mem_cons.1 he with h | h
    · subst h; show p + _ ≤ _; omega
    · have := ends_le l _ _ e h; omega
theorem sure_loopA (ff lw : Bool) (nb sure nj : Nat) (most : Int) (cr : Bool) (B J : List (List AVal)) (es : List (Nat × Int)) (hl : es.length ≤ 1000000) (hs : ∀ e ∈ es, e.1 ≤ sure) (k : List Item) (R : Int → Option (AVal × Heap))
    (hS : call E (.func (.func 73) [] []) [.ptr 0 0] [fileB (.own 1 nb 1 0 nb) sure most cr, .arr true false ff 1 B] = some (.lit (.int .i64 sure), [fileB (.own 1 nb 1 0 nb) sure most cr, .arr true false ff 1 B]))
    (hk : ∀ τ t, lk 3 τ = .lit (.int .i64 t) → finK 5 [.tmp 2] (run E 5 k τ [.box [.ptr 1 0, .own 3 nj 3 0 nj, .own 4 es.length 2 0 es.length, nilS], fileB (.own 2 nb 1 0 nb) sure most cr, .arr true false ff 1 B, .arr true lw false 3 J, .arr true false false 2 (es.map encEnd)]) = R t) :
    ∀ (d i : Nat) (t : Int), i + d = es.length →
    finK 5 [.tmp 2] (run E 5 (.code L29_0 :: .inLoop [0, 3, 11, 12, 13] L29_0 :: .inBlock 0 :: k)
      [(0, .ptr 0 0), (3, .lit (.int .i64 t)), (11, .own 4 es.length 2 0 es.length), (12, .lit (.int .i64 es.length)), (13, .lit (.int .i64 i))]
      [.box [.ptr 1 0, .own 3 nj 3 0 nj, .own 4 es.length 2 0 es.length, nilS], fileB (.own 2 nb 1 0 nb) sure most cr, .arr true false ff 1 B, .arr true lw false 3 J, .arr true false false 2 (es.map encEnd)]) = R ((es.drop i).foldl (fun _ e => e.2) t) := by
  intro d
  induction d with
  | zero =>
    intro i t hi
    have : i = es.length := by omega
    subst this
    simp [go_sem, run_codeL E L29_0.eq_1]
    exact hk _ _ rfl
  | succ d ih =>
    intro i t hi
    have hlt : i < es.length := by omega
    have wi := wrapIdx (i := i) (by omega)
    have hx := hs es[i] (List.getElem_mem hlt)
    have ih2 := ih (i + 1) es[i].2 (by omega)
    rw [List.drop_eq_getElem_cons hlt, List.foldl_cons]
    generalize R _ = Q at ih2 ⊢
    simp [fileB, nilS] at hS ih2
    simp [go_sem, run_codeL E L29_0.eq_1, hlt, List.getElem?_eq_getElem hlt, encEnd, endE, fileB, nilS, hS, hx, wi, purse_eq, List.range_succ]
    rw [run_inLoop']
    simp [go_sem, purse_eq, List.range_succ]
    exact ih2
theorem sure_loopB (ff lw lq : Bool) (nb sure nj nw : Nat) (most : Int) (cr : Bool) (B J W : List (List AVal)) (es : List (Nat × Int)) (hl : es.length ≤ 1000000) (hs : ∀ e ∈ es, e.1 ≤ sure) (k : List Item) (R : Int → Option (AVal × Heap))
    (hS : call E (.func (.func 73) [] []) [.ptr 0 0] [fileB (.own 1 nb 1 0 nb) sure most cr, .arr true false ff 1 B] = some (.lit (.int .i64 sure), [fileB (.own 1 nb 1 0 nb) sure most cr, .arr true false ff 1 B]))
    (hk : ∀ τ t, lk 3 τ = .lit (.int .i64 t) → finK 6 [.tmp 2] (run E 6 k τ [.box [.ptr 1 0, .own 3 nj 3 0 nj, .own 4 es.length 2 0 es.length, .own 5 nw 3 0 nw], fileB (.own 2 nb 1 0 nb) sure most cr, .arr true false ff 1 B, .arr true lw false 3 J, .arr true false false 2 (es.map encEnd), .arr true lq false 3 W]) = R t) :
    ∀ (d i : Nat) (t : Int), i + d = es.length →
    finK 6 [.tmp 2] (run E 6 (.code L29_0 :: .inLoop [0, 3, 11, 12, 13] L29_0 :: .inBlock 0 :: k)
      [(0, .ptr 0 0), (3, .lit (.int .i64 t)), (11, .own 4 es.length 2 0 es.length), (12, .lit (.int .i64 es.length)), (13, .lit (.int .i64 i))]
      [.box [.ptr 1 0, .own 3 nj 3 0 nj, .own 4 es.length 2 0 es.length, .own 5 nw 3 0 nw], fileB (.own 2 nb 1 0 nb) sure most cr, .arr true false ff 1 B, .arr true lw false 3 J, .arr true false false 2 (es.map encEnd), .arr true lq false 3 W]) = R ((es.drop i).foldl (fun _ e => e.2) t) := by
  intro d
  induction d with
  | zero =>
    intro i t hi
    have : i = es.length := by omega
    subst this
    simp [go_sem, run_codeL E L29_0.eq_1]
    exact hk _ _ rfl
  | succ d ih =>
    intro i t hi
    have hlt : i < es.length := by omega
    have wi := wrapIdx (i := i) (by omega)
    have hx := hs es[i] (List.getElem_mem hlt)
    have ih2 := ih (i + 1) es[i].2 (by omega)
    rw [List.drop_eq_getElem_cons hlt, List.foldl_cons]
    generalize R _ = Q at ih2 ⊢
    simp [fileB, nilS] at hS ih2
    simp [go_sem, run_codeL E L29_0.eq_1, hlt, List.getElem?_eq_getElem hlt, encEnd, endE, fileB, nilS, hS, hx, wi, purse_eq, List.range_succ]
    rw [run_inLoop']
    simp [go_sem, purse_eq, List.range_succ]
    exact ih2
theorem gsure (ff lw lq : Bool) (L W) (hL : L ≠ []) (hl : L.length ≤ 1000000) (most cr) : call E (.func (.func 29) [] []) [.ptr 0 0] (lS true ff lw lq L W (blksB L).length most cr) = some (.lit (.int .i64 (totB L)), lS true ff lw lq L W (blksB L).length most cr) := by
  rw [call_func E E29]
  have hS := fsure true ff (blksB L) (blksB L).length most cr
  simp only [fF, if_true, fB] at hS
  have e1 := ends_fold L 0 0
  have e2 := fun e he => by have := ends_le L 0 0 e he; rwa [Nat.zero_add] at this
  have e3 := endsGo_length L 0 0
  rw [Int.zero_add] at e1
  rw [← e1]
  by_cases hW : W = []
  · simp [go_sem, ir29, lS, hW, hL, fileB, nilS, purse_eq, List.range_succ]
    rw [run_inLoop']
    simp [go_sem, purse_eq, List.range_succ]
    have h := fun k hk => sure_loopA ff lw (blksB L).length (blksB L).length (joined [] (allR L)).length most cr ((blksB L).map encB) ((joined [] (allR L)).map encRun) (endsGo 0 0 L) (by omega) e2 k (fun t => some (.lit (.int .i64 t), lS true ff lw lq L W (blksB L).length most cr)) hS hk (endsGo 0 0 L).length 0 0 (by omega)
    simp [hW, hL, lS, fileB, nilS, e3] at h
    refine h _ ?_
    intro τ t t3
    simp [go_sem, t3, purse_eq, List.range_succ]
  · simp [go_sem, ir29, lS, hW, hL, fileB, nilS, purse_eq, List.range_succ]
    rw [run_inLoop']
    simp [go_sem, purse_eq, List.range_succ]
    have h := fun k hk => sure_loopB ff lw lq (blksB L).length (blksB L).length (joined [] (allR L)).length W.length most cr ((blksB L).map encB) ((joined [] (allR L)).map encRun) (W.map encRun) (endsGo 0 0 L) (by omega) e2 k (fun t => some (.lit (.int .i64 t), lS true ff lw lq L W (blksB L).length most cr)) hS hk (endsGo 0 0 L).length 0 0 (by omega)
    simp [hW, hL, lS, fileB, nilS, e3] at h
    refine h _ ?_
    intro τ t t3
    simp [go_sem, t3, purse_eq, List.range_succ]
theorem fopen1 (ff : Bool) (fb : List Nat) (hl : fb.length ≤ 1000000) (sure : Nat) (most : Int) : call E (.func (.func 37) [] []) [.ptr 0 0] (fB ff fb sure most false)
    = some (.tup [.ptr 2 0, .lit (.int .i64 0)], fB ff fb sure most false ++ [fileB (.own 3 fb.length 1 0 fb.length) fb.length most false, .arr true false fb.isEmpty 1 (fb.map encB)]) := by
  rw [call_func E E37]
  have h1 := bsize1 ff fb sure most false
  have h2 := clone_spec fb ff (by omega)
  simp [fB, fileB] at h1
  simp [go_sem, ir37, fB, fileB, nilS, h1, h2, purse_eq, List.range_succ]
theorem fopen0 (most : Int) : call E (.func (.func 37) [] []) [.ptr 0 0] [fileB nilS 0 most false]
    = some (.tup [.ptr 1 0, .lit (.int .i64 0)], [fileB nilS 0 most false, fileB nilS 0 most false]) := by
  rw [call_func E E37]
  have h1 := nsize most false
  have h2 := bclone_nil true
  have h3 := bclone_nil false
  simp [fN, fileB, nilS] at h1 h2 h3
  simp [go_sem, ir37, fileB, nilS, h1, h2, h3, purse_eq, List.range_succ]
end Go.AM.R1
open Go Go.AM
namespace Go.AM.R1
/-! ### A log that is opened in a file that has crashed (as the texts Log11 to Log13, with the file's mark) -/
def lOC (lw : Bool) (ff : Bool) (L : List Bk) (fb : List Nat) (sure : Nat) (most : Int) : Heap :=
  if L = [] then [.box [.ptr 1 0, nilS, nilS, nilS], fileB (.own 2 fb.length 1 0 fb.length) sure most true, .arr true false ff 1 (fb.map encB)]
  else [.box [.ptr 1 0, .own 3 (joined [] (allR L)).length 3 0 (joined [] (allR L)).length, .own 4 L.length 2 0 L.length, nilS], fileB (.own 2 fb.length 1 0 fb.length) sure most true, .arr true false ff 1 (fb.map encB), .arr true lw false 3 ((joined [] (allR L)).map encRun), .arr true false false 2 ((endsGo 0 0 L).map encEnd)]
theorem owriteC (ff lw : Bool) (L W) (hW : W ≠ []) (hl : W.length ≤ 4096) (hc : chk W = 0) (hj : joined [] W = W) (hg : L ≠ [] → chk (allR L) = 0 ∧ (joined [] (allR L)).length ≤ 500000 ∧ joined [] (allR L) ≠ [] ∧ L.length ≤ 500000) (fb : List Nat) (sure most) (n : Nat) (T : Int) (fu : Bool) :
    call E (.func (.func 77) [] []) [.ptr 0 0, .imm false fu true (W.map encRun), .agg (endE n T)] (lOC lw ff L fb sure most)
      = some (.tup [], if L = [] then [.box [.ptr 1 0, .own 3 W.length 3 0 W.length, .own 4 1 2 0 1, nilS], fileB (.own 2 fb.length 1 0 fb.length) sure most true, .arr true false ff 1 (fb.map encB), .arr true false false 3 (W.map encRun), .arr true false false 2 [endE n T]]
        else [.box [.ptr 1 0, .own 5 (joined [] (allR L ++ W)).length 3 0 (joined [] (allR L ++ W)).length, .own 4 (L.length + 1) 2 0 (L.length + 1), nilS], fileB (.own 2 fb.length 1 0 fb.length) sure most true, .arr true false ff 1 (fb.map encB), .arr true true false 3 ((joined [] (allR L) ++ W).map encRun), .arr true false false 2 ((endsGo 0 0 L).map encEnd ++ [endE n T]), .arr true false false 3 ((joined [] (allR L ++ W)).map encRun)]) := by
  rw [call_func E E77]
  have hN := (chk_right hc).1
  have hok : ∀ r ∈ W, r.Ok := fun r hr => by have := hN r hr; exact ⟨by omega, by omega⟩
  have hsu := (chk_right hc).2
  have hr := rowsR W
  by_cases hL : L = []
  · have hJ := join_spec W (by omega) hok false false
    rw [joinGo_eq W 0 [] (by rw [posSum_of_right _ (fun r hr => by have := hN r hr; omega)]; omega), hj] at hJ
    have hbb : ¬ (70368744177664 < W.length * 24) := by omega
    simp [resV, resH, hW] at hJ
    simp [go_sem, ir77, lOC, hL, fileB, endE, nilS, hr, hW, hbb, hJ, purse_eq, List.range_succ]
  · obtain ⟨a1, a2, a3, a4⟩ := hg hL
    have hjc := joined_chk a1
    obtain ⟨hsum, hall⟩ := sum_joined hjc.1 hc
    have hsj := (chk_right hjc.1).2
    have hps := posSum_of_right (joined [] (allR L) ++ W) (fun x hx => by have := hall x hx; omega)
    rw [sumN_append] at hps
    have hokA : ∀ x ∈ joined [] (allR L) ++ W, x.Ok := fun x hx => by have := hall x hx; exact ⟨by omega, by omega⟩
    have hJ := join_spec (joined [] (allR L) ++ W) (by simp; omega) hokA false false
    rw [joinGo_eq _ 0 [] (by omega)] at hJ
    have hQn : joined [] (joined [] (allR L) ++ W) ≠ [] := joined_ne (fun x hx => (hall x hx).1) (by simp [hW])
    rw [joined_joined] at hJ hQn
    have hel := endsGo_length L 0 0
    have hbb : ¬ (70368744177664 < ((joined [] (allR L)).length + W.length) * 24) := by omega
    have hbe : ¬ (70368744177664 < (L.length + 1) * 16) := by omega
    have hpos := List.length_pos_iff.2 hL
    have hn0 : ¬ L.length = 0 := by omega
    simp only [lOC, hL, if_false]
    generalize joined [] (allR L ++ W) = Q at *
    generalize joined [] (allR L) = J at *
    generalize endsGo 0 0 L = es at *
    simp [resV, resH, hQn] at hJ
    simp [go_sem, ir77, hL, fileB, endE, nilS, hr, hW, hbb, hbe, hJ, hel, hn0, purse_eq, List.range_succ]
/-- What a round of Open sees. -/
def oHC (ff : Bool) (L : List Bk) (fb : List Nat) (sure : Nat) (most : Int) : Heap :=
  if L = [] then [.loop 0 none [(5, .ptr 1 0)] [16, 17] A42_0 B42_0, .box [.ptr 2 0], .box [.ptr 3 0, nilS, nilS, nilS], fileB (.own 4 fb.length 1 0 fb.length) sure most true, .arr true false ff 1 (fb.map encB)]
  else [.loop 0 none [(5, .ptr 1 0)] [16, 17] A42_0 B42_0, .box [.ptr 2 0], .box [.ptr 3 0, .own 5 (joined [] (allR L)).length 3 0 (joined [] (allR L)).length, .own 6 L.length 2 0 L.length, nilS], fileB (.own 4 fb.length 1 0 fb.length) sure most true, .arr true false ff 1 (fb.map encB), .arr true false false 3 ((joined [] (allR L)).map encRun), .arr true false false 2 ((endsGo 0 0 L).map encEnd)]
theorem oYC (ff : Bool) (L : List Bk) (x : Bk) (hW : x.2 ≠ []) (hl : x.2.length ≤ 4096) (hc : chk x.2 = 0) (hj : joined [] x.2 = x.2) (hg : L ≠ [] → chk (allR L) = 0 ∧ (joined [] (allR L)).length ≤ 500000 ∧ joined [] (allR L) ≠ [] ∧ L.length ≤ 500000) (fb : List Nat) (sure : Nat) (most : Int) (n : Nat) (T : Int) :
    call E (.yld 0) [.agg (encBk x), .agg (endE n T)] (oHC ff L fb sure most)
      = some (.lit (.bool true), if L = [] then [.loop 0 none [(5, .ptr 1 0)] [16, 17] A42_0 B42_0, .box [.ptr 2 0], .box [.ptr 3 0, .own 5 x.2.length 3 0 x.2.length, .own 6 1 2 0 1, nilS], fileB (.own 4 fb.length 1 0 fb.length) sure most true, .arr true false ff 1 (fb.map encB), .arr true false false 3 (x.2.map encRun), .arr true false false 2 [endE n T]]
        else [.loop 0 none [(5, .ptr 1 0)] [16, 17] A42_0 B42_0, .box [.ptr 2 0], .box [.ptr 3 0, .own 7 (joined [] (allR L ++ x.2)).length 3 0 (joined [] (allR L ++ x.2)).length, .own 6 (L.length + 1) 2 0 (L.length + 1), nilS], fileB (.own 4 fb.length 1 0 fb.length) sure most true, .arr true false ff 1 (fb.map encB), .arr true true false 3 ((joined [] (allR L) ++ x.2).map encRun), .arr true false false 2 ((endsGo 0 0 L).map encEnd ++ [endE n T]), .arr true false false 3 ((joined [] (allR L ++ x.2)).map encRun)]) := by
  have hw := owriteC ff false L x.2 hW hl hc hj hg fb sure most n T false
  by_cases hL : L = []
  · simp [lOC, hL, fileB, endE, nilS] at hw
    simp [go_sem, oHC, hL, encBk, fileB, endE, nilS, run_codeL E A42_0.eq_1, run_codeL E B42_0.eq_1, hw, purse_eq, List.range_succ]
  · simp [lOC, hL, fileB, endE, nilS] at hw
    simp [go_sem, oHC, hL, encBk, fileB, endE, nilS, run_codeL E A42_0.eq_1, run_codeL E B42_0.eq_1, hw, purse_eq, List.range_succ]
def oBC (nl fu ff : Bool) (b : List Nat) (acc : List Bk) (p : Nat) (t : Int) (fb : List Nat) (sure : Nat) (most : Int) : Heap :=
  if acc = [] then [.box [.imm nl fu true (b.map encB)], .loop 0 none [(5, .ptr 2 0)] [16, 17] A42_0 B42_0, .box [.ptr 3 0], .box [.ptr 4 0, nilS, nilS, nilS], fileB (.own 5 fb.length 1 0 fb.length) sure most true, .arr true false ff 1 (fb.map encB), .box [.lit (.int .i64 p), .lit (.int .i64 t)]]
  else [.box [.imm nl fu true (b.map encB)], .loop 0 none [(5, .ptr 2 0)] [16, 17] A42_0 B42_0, .box [.ptr 3 0], .box [.ptr 4 0, .own 6 (joined [] (allR acc)).length 3 0 (joined [] (allR acc)).length, .own 7 acc.length 2 0 acc.length, nilS], fileB (.own 5 fb.length 1 0 fb.length) sure most true, .arr true false ff 1 (fb.map encB),
    .arr true false false 3 ((joined [] (allR acc)).map encRun), .arr true false false 2 ((endsGo 0 0 acc).map encEnd), .box [.lit (.int .i64 p), .lit (.int .i64 t)]]
def oFC (nl fu ff : Bool) (b : List Nat) (acc : List Bk) (fb : List Nat) (sure : Nat) (most : Int) : Heap :=
  if acc = [] then [.box [.imm nl fu true (b.map encB)], .loop 0 none [(5, .ptr 2 0)] [16, 17] A42_0 B42_0, .box [.ptr 3 0], .box [.ptr 4 0, nilS, nilS, nilS], fileB (.own 5 fb.length 1 0 fb.length) sure most true, .arr true false ff 1 (fb.map encB)]
  else [.box [.imm nl fu true (b.map encB)], .loop 0 none [(5, .ptr 2 0)] [16, 17] A42_0 B42_0, .box [.ptr 3 0], .box [.ptr 4 0, .own 6 (joined [] (allR acc)).length 3 0 (joined [] (allR acc)).length, .own 7 acc.length 2 0 acc.length, nilS], fileB (.own 5 fb.length 1 0 fb.length) sure most true, .arr true false ff 1 (fb.map encB),
    .arr true false false 3 ((joined [] (allR acc)).map encRun), .arr true false false 2 ((endsGo 0 0 acc).map encEnd)]
theorem open_loopC (b : List Nat) (hb : ∀ c ∈ b, c < 256) (hl : b.length ≤ 1000000) (nl fu ff : Bool) (hnl : nl = false ∨ b = []) (fb : List Nat) (sure : Nat) (most : Int) :
    ∀ (d p : Nat) (t : Int) (acc : List Bk), b.length + 1 ≤ p + d → p ≤ b.length → Good 0 acc → p = (blksB acc).length → t = totB acc →
   finK 6 [] (run E 6 [.code L111_0, .inLoop [1000000, 0, 1, 3] L111_0, .inBlock 0]
     [(0, .yld 1), (1, .ptr 0 0), (3, .ptr (atO acc) 0)] (oBC nl fu ff b acc p t fb sure most))
    = some (.tup [], oFC nl fu ff b (scanGo d b p t acc).1 fb sure most) := by
  intro d
  induction d with
  | zero => intro p t acc hd hp; omega
  | succ d ih =>
    intro p t acc hd hp hga hpe hte
    have hta := good_tot acc 0 (by omega) (by omega) hga
    have hG := bget_spec (b.drop p) (fun c hc => hb c (List.mem_of_mem_drop hc)) (by simp; omega) nl (fu) (by rcases hnl with h | h; exact .inl h; subst h; exact .inr (by simp))
    rw [List.map_drop] at hG
    have hr := rowsB b
    have hfa := acc_facts hga (by omega)
    by_cases h : (getB (b.drop p)).2.2 = 0
    · obtain ⟨g1, g2, g3, g4, g5⟩ := get_good (fun c hc => hb c (List.mem_of_mem_drop hc)) h
      have gk := chkB_ok g1
      simp at g4
      by_cases h2 : (getB (b.drop p)).1.1 = t
      · have hn : scanGo (d + 1) b p t acc = scanGo d b (p + (getB (b.drop p)).2.1.toNat) (t + sumN (getB (b.drop p)).1.2) (acc ++ [(getB (b.drop p)).1]) := by
          rw [scanGo, if_pos ⟨h, h2⟩]
        rw [hn]
        clear hn
        have hT := ticks_spec (getB (b.drop p)).1.2 (by omega) (chkB_Ok g1) false false
        rw [ticks_eq, if_pos gk.2.2.2.1, gk.2.2.2.1] at hT
        have hs := (chk_right gk.2.2.2.1).2
        rw [h] at hG
        have hlen : (putBk (getB (b.drop p)).1).length = (getB (b.drop p)).2.1.toNat := by
          show (wholeB (numsN _ _)).length = _
          rw [← g5]; simp; omega
        have hgn : Good 0 (acc ++ [(getB (b.drop p)).1]) := by
          rw [good_append]
          refine ⟨hga, ?_, g1, g2, trivial⟩
          rw [Int.zero_add, ← hte, h2]
        have ih2 := ih (p + (getB (b.drop p)).2.1.toNat) (t + sumN (getB (b.drop p)).1.2) (acc ++ [(getB (b.drop p)).1]) (by omega) (by omega) hgn (by
          rw [blksB_append, List.length_append, ← hpe]
          show _ = p + (putBk (getB (b.drop p)).1 ++ []).length
          rw [List.append_nil, hlen]) (by rw [totB_append, ← hte]; simp [totB])
        have wp : IntKind.wrap .i64 ((p : Int) + (getB (b.drop p)).2.1) = ((p + (getB (b.drop p)).2.1.toNat : Nat) : Int) := by rw [wrap64 (by omega) (by omega)]; omega
        have wt : IntKind.wrap .i64 (t + sumN (getB (b.drop p)).1.2) = t + sumN (getB (b.drop p)).1.2 := by rw [wrap64 (by omega) (by omega)]
        have hR := gk.2.1
        have hY := oYC ff acc (getB (b.drop p)).1 gk.2.1 gk.2.2.1 gk.2.2.2.1 (joined_of_nodup17 (fun r hr => ((chk_right gk.2.2.2.1).1 r hr).1) gk.2.2.2.2.1) hfa fb sure most (p + (getB (b.drop p)).2.1.toNat) (t + sumN (getB (b.drop p)).1.2)
        have hends : endsGo 0 0 (acc ++ [(getB (b.drop p)).1]) = endsGo 0 0 acc ++ [(p + (getB (b.drop p)).2.1.toNat, t + sumN (getB (b.drop p)).1.2)] := by
          rw [endsGo_append]
          simp only [endsGo, Nat.zero_add, Int.zero_add, hlen, ← hpe, ← hte]
        have hallR : allR (acc ++ [(getB (b.drop p)).1]) = allR acc ++ (getB (b.drop p)).1.2 := by rw [allR_append]; simp [allR]
        have hne : acc ++ [(getB (b.drop p)).1] ≠ [] := by simp
        have hjn := joined_of_nodup17 (l := (getB (b.drop p)).1.2) (fun r hr => ((chk_right gk.2.2.2.1).1 r hr).1) gk.2.2.2.2.1
        simp only [oBC, hne, if_false, atO, hends, hallR, List.length_append, List.length_singleton, List.map_append, List.map_cons, List.map_nil] at ih2
        generalize oFC nl fu ff b _ fb sure most = F at *
        clear g5 hlen hgn hends hallR hne
        generalize getB (b.drop p) = g at *
        obtain ⟨⟨f, W⟩, m, e⟩ := g
        simp only [] at *
        subst h2
        simp [resV, resHl, hR] at hG
        by_cases ha0 : acc = []
        · subst ha0
          rw [show allR ([] : List Bk) = [] from rfl, List.nil_append, hjn] at ih2
          simp [oHC, encBk, fileB, endE, nilS] at hY
          simp [fileB, encEnd, endE, endsGo, nilS] at ih2
          simp [go_sem, run_codeL E L111_0.eq_1, hp, hr, take_allB, hG, hT, wp, wt, oBC, atO, fileB, purse_eq, hY, nilS]
          rw [run_inLoop']
          simp [go_sem, purse_eq, List.range_succ]
          simpa using ih2
        · simp [oHC, ha0, encBk, fileB, endE, nilS] at hY
          simp [fileB, encEnd, endE, nilS] at ih2
          simp [go_sem, run_codeL E L111_0.eq_1, hp, hr, take_allB, hG, hT, wp, wt, oBC, atO, ha0, fileB, purse_eq, hY, nilS]
          rw [run_inLoop']
          simp [go_sem, purse_eq, List.range_succ]
          simpa using ih2
      · have hn : scanGo (d + 1) b p t acc = (acc, p, t) := by
          rw [scanGo, if_neg (by intro q; exact h2 q.2)]
        rw [hn]
        clear hn
        rw [h] at hG
        have hR := gk.2.1
        clear g5
        generalize getB (b.drop p) = g at *
        obtain ⟨⟨f, W⟩, m, e⟩ := g
        simp only [] at *
        simp [resV, resHl, hR] at hG
        by_cases ha0 : acc = []
        · subst ha0
          simp [go_sem, run_codeL E L111_0.eq_1, hp, hr, take_allB, hG, oBC, oFC, atO, fileB, purse_eq, List.range_succ, h2, nilS]
        · simp [go_sem, run_codeL E L111_0.eq_1, hp, hr, take_allB, hG, oBC, oFC, atO, ha0, fileB, purse_eq, List.range_succ, h2, nilS]
    · have hn : scanGo (d + 1) b p t acc = (acc, p, t) := by
        rw [scanGo, if_neg (by intro q; exact h q.1)]
      rw [hn]
      clear hn
      obtain ⟨g1, g2⟩ := get_bad h
      generalize getB (b.drop p) = g at *
      obtain ⟨⟨f, W⟩, m, e⟩ := g
      simp only [Prod.mk.injEq] at *
      obtain ⟨g1, g3⟩ := g1
      subst g1 g2 g3
      simp [resV, resHl] at hG
      by_cases ha0 : acc = []
      · subst ha0
        simp [go_sem, run_codeL E L111_0.eq_1, hp, hr, take_allB, hG, oBC, oFC, atO, fileB, purse_eq, List.range_succ, h, nilS]
      · simp [go_sem, run_codeL E L111_0.eq_1, hp, hr, take_allB, hG, oBC, oFC, atO, ha0, fileB, purse_eq, List.range_succ, h, nilS]
theorem olastC (lw ff : Bool) (L : List Bk) (hl : L.length ≤ 1000000) (fb : List Nat) (sure : Nat) (most : Int) : call E (.func (.func 71) [] []) [.ptr 0 0] (lOC lw ff L fb sure most)
    = some (.agg (endE (blksB L).length (totB L)), lOC lw ff L fb sure most) := by
  rw [call_func E E71]
  by_cases hL : L = []
  · simp [go_sem, ir71, lOC, hL, fileB, nilS, purse_eq, List.range_succ, endE, blksB, totB]
  · have hp := List.length_pos_iff.2 hL
    have he := endsGo_last L hL 0 0
    simp only [Nat.zero_add, Int.zero_add] at he
    have hel := endsGo_length L 0 0
    have hi' : L.length - 1 < (endsGo 0 0 L).length := by omega
    have hx : (endsGo 0 0 L)[L.length - 1] = ((blksB L).length, totB L) := by simpa [List.getElem?_eq_getElem hi'] using he
    have w : IntKind.wrap .i64 ((L.length : Int) - 1) = ((L.length - 1 : Nat) : Int) := by rw [wrap64 (by omega) (by omega)]; omega
    have hlt : L.length - 1 < L.length := by omega
    have h0 : ¬ L.length = 0 := by omega
    clear he
    generalize L.length - 1 = i at *
    simp [go_sem, ir71, lOC, hL, fileB, nilS, purse_eq, List.range_succ, w, hlt, hel, hx, h0, encEnd, endE]
theorem oblocks1C (b : List Nat) (hb : ∀ c ∈ b, c < 256) (hl : b.length ≤ 1000000) (nl fu ff : Bool) (hnl : nl = false ∨ b = []) (fb : List Nat) (sure : Nat) (most : Int) :
    call E (.func (.func 111) [] [.ptr 0 0]) [.yld 1] [.box [.imm nl fu true (b.map encB)], .loop 0 none [(5, .ptr 2 0)] [16, 17] A42_0 B42_0, .box [.ptr 3 0], .box [.ptr 4 0, nilS, nilS, nilS], fileB (.own 5 fb.length 1 0 fb.length) sure most true, .arr true false ff 1 (fb.map encB)]
     = some (.tup [], oFC nl fu ff b (scanB b).1 fb sure most) := by
  rw [call_func E E111]
  have h := open_loopC b hb hl nl fu ff hnl fb sure most (b.length + 1) 0 0 [] (by omega) (by omega) trivial rfl rfl
  rw [show scanGo (b.length + 1) b 0 0 [] = scanB b from rfl] at h
  generalize oFC nl fu ff b (scanB b).1 fb sure most = F at h ⊢
  simp [oBC, atO, fileB, nilS] at h
  simp [go_sem, ir111, purse_eq, fileB, nilS]
  rw [run_inLoop']
  simp [go_sem, purse_eq, List.range_succ]
  exact h
theorem gopenC (ff : Bool) (fb : List Nat) (hb : ∀ c ∈ fb, c < 256) (hl : fb.length ≤ 1000000) (sure : Nat) (most : Int) :
    call E (.func (.func 42) [] []) [.ptr 0 0] (fB ff fb sure most true)
      = some (.tup [.lit (.pointer none), .lit (.int .i64 0), .lit (.int .i64 25)], fB ff fb sure most true) := by
  rw [call_func E E42]
  obtain ⟨f1, f2, f3, f4, f5⟩ := scanB_facts hb
  have hln := good_len _ 0 f1
  have h1 := fbytes true ff fb hl sure most true
  have h2 := blocks_spec false fb.isEmpty (fb.map encB)
  have h3 := oblocks1C fb hb hl false fb.isEmpty ff (.inl rfl) fb sure most
  have h4 := flen true ff fb (by intro h; cases h) sure most true
  have h5 := olastC false ff (scanB fb).1 (by omega) fb sure most
  rw [← f2] at h5
  have h6 : call E (.func (.func 86) [] []) [.ptr 0 0, .lit (.int .i64 (scanB fb).2.1)] (fB ff fb sure most true) = some (.lit (.int .i64 25), fB ff fb sure most true) := by
    rw [call_func E E86]
    have hc := bcheck1 ff fb sure most true
    simp [fB, fileB] at hc
    simp [go_sem, ir86, fB, fileB, hc, purse_eq, List.range_succ]
  have w : IntKind.wrap .i64 ((fb.length : Int) - ((scanB fb).2.1 : Int)) = (fb.length : Int) - (scanB fb).2.1 := wrap64 (by omega) (by omega)
  generalize hsc : scanB fb = sc at *
  obtain ⟨L, n, T⟩ := sc
  simp only [] at *
  simp [fF, fB, fileB, nilS] at h1 h4 h6
  by_cases hL : L = []
  · simp [oFC, hL, fileB, nilS] at h3
    simp [lOC, hL, fileB, endE, nilS] at h5
    simp [go_sem, ir42, fB, fileB, nilS, hL, h1, h2, h3, h4, h5, h6, w, purse_eq, List.range_succ]
  · simp [oFC, hL, fileB, nilS] at h3
    simp [lOC, hL, fileB, endE, nilS] at h5
    simp [go_sem, ir42, fB, fileB, nilS, hL, h1, h2, h3, h4, h5, h6, w, purse_eq, List.range_succ]
end Go.AM.R1
open Go Go.AM
namespace Go.AM.R1
/-! ### A crash that leaves some bytes of what is not sure, some of them turned -/
def xorAt (w : List Nat) (p : Nat) : List Nat → List Nat
  | [] => w
  | x :: g => xorAt (w.set p ((w[p]?.getD 0) ^^^ x)) (p + 1) g
theorem xorAt_length : ∀ (g w : List Nat) (p : Nat), (xorAt w p g).length = w.length
  | [], _, _ => rfl
  | x :: g, w, p => by rw [xorAt, xorAt_length g]; simp
theorem xorAt_eq : ∀ (g w : List Nat) (p : Nat), p + g.length ≤ w.length → xorAt w p g = w.take p ++ List.zipWith (· ^^^ ·) (w.drop p) g ++ w.drop (p + g.length)
  | [], w, p, h => by simp [xorAt]
  | x :: g, w, p, h => by
    simp only [List.length_cons] at h
    have hp : p < w.length := by omega
    rw [xorAt, xorAt_eq g _ (p + 1) (by simp; omega)]
    rw [List.drop_eq_getElem_cons hp, List.zipWith_cons_cons, List.getElem?_eq_getElem hp, Option.getD_some]
    rw [List.take_set, List.take_add_one, List.getElem?_eq_getElem hp, Option.toList_some]
    rw [List.set_append_right _ _ (by simp; omega)]
    rw [List.drop_set_of_lt (by omega), List.drop_set_of_lt (by omega)]
    simp [List.length_take, Nat.min_eq_left (show p ≤ w.length by omega)]
    rw [show p + 1 + g.length = p + (g.length + 1) from by omega]
theorem ixor_u8' {c d : Nat} (hc : c < 256) (hd : d < 256) : ixor .u8 (c : Int) (d : Int) = ((c ^^^ d : Nat) : Int) := by
  have e : (BitVec.ofInt 8 (c : Int) ^^^ BitVec.ofInt 8 (d : Int)).toNat = c ^^^ d := by
    rw [BitVec.toNat_xor, BitVec.ofInt_natCast, BitVec.ofInt_natCast, BitVec.toNat_ofNat, BitVec.toNat_ofNat, Nat.mod_eq_of_lt (by omega), Nat.mod_eq_of_lt (by omega)]
  have hx : c ^^^ d < 2 ^ 8 := Nat.xor_lt_two_pow (by omega) (by omega)
  unfold ixor
  show IntKind.wrap .u8 ((BitVec.ofInt 8 (c : Int) ^^^ BitVec.ofInt 8 (d : Int)).toNat : Int) = _
  rw [e, wrap8, Nat.mod_eq_of_lt (by omega)]
theorem crash_loop (g : List Nat) (hg : ∀ c ∈ g, c < 256) (n sure : Nat) (hn : n ≤ 1000000) (hs : sure + g.length ≤ n) (most : Int) (nl fu : Bool) (k : List Item) (R : List Nat → Option (AVal × Heap))
    (hk : ∀ τ w, lk 0 τ = .ptr 0 0 → finK 2 [.tmp 6] (run E 2 k τ [fileB (.own 2 n 1 0 n) sure most false, .dead, .arr true false true 1 (w.map encB)]) = R w) :
    ∀ (d i : Nat) (w : List Nat), i + d = g.length → w.length = n → (∀ c ∈ w, c < 256) →
   finK 2 [.tmp 6] (run E 2 (.code L41_0 :: .inLoop [0, 47, 48, 49] L41_0 :: .inBlock 0 :: k)
     [(0, .ptr 0 0), (47, .imm nl fu true (g.map encB)), (48, .lit (.int .i64 g.length)), (49, .lit (.int .i64 i))]
     [fileB (.own 2 n 1 0 n) sure most false, .dead, .arr true false true 1 (w.map encB)]) = R (xorAt w (sure + i) (g.drop i)) := by
  intro d
  induction d with
  | zero =>
    intro i w hi hw hb
    have : i = g.length := by omega
    subst this
    simp [go_sem, run_codeL E L41_0.eq_1, xorAt]
    exact hk _ _ rfl
  | succ d ih =>
    intro i w hi hw hb
    have hlt : i < g.length := by omega
    have wi := wrapIdx (i := i) (by omega)
    have hq : sure + i < w.length := by omega
    have hq2 : sure + i < n := by omega
    have ws : IntKind.wrap .i64 ((sure : Int) + (i : Int)) = ((sure + i : Nat) : Int) := by rw [wrap64 (by omega) (by omega)]; omega
    have hx := ixor_u8' (hb _ (List.getElem_mem hq)) (hg _ (List.getElem_mem hlt))
    rw [List.drop_eq_getElem_cons hlt, xorAt, List.getElem?_eq_getElem hq, Option.getD_some]
    have hxl : w[sure + i] ^^^ g[i] < 2 ^ 8 := Nat.xor_lt_two_pow (by have := hb _ (List.getElem_mem hq); omega) (by have := hg _ (List.getElem_mem hlt); omega)
    have ih2 := ih (i + 1) (w.set (sure + i) (w[sure + i] ^^^ g[i])) (by omega) (by simpa using hw) (by
      intro c hc
      rcases List.mem_or_eq_of_mem_set hc with h | h
      · exact hb c h
      · rw [h]; omega)
    rw [show sure + (i + 1) = sure + i + 1 from by omega] at ih2
    rw [List.map_set] at ih2
    generalize R _ = Q at ih2 ⊢
    generalize hsi : sure + i = q at *
    generalize hc2 : w[q] ^^^ g[i] = c2 at *
    simp [encB, fileB] at ih2
    simp [go_sem, run_codeL E L41_0.eq_1, hlt, List.getElem?_eq_getElem hlt, List.getElem?_eq_getElem hq, fileB, wi, ws, hq2, hx, hw, encB, purse_eq, List.range_succ]
    rw [run_inLoop']
    simp [go_sem, purse_eq, List.range_succ]
    simpa [encB] using ih2
theorem crash_spec (ff : Bool) (fb : List Nat) (hb : ∀ c ∈ fb, c < 256) (hl : fb.length ≤ 1000000) (sure : Nat) (most : Int) (g : List Nat) (hg : ∀ c ∈ g, c < 256) (hgl : g.length ≤ 1000000) (left : Nat) (h1 : left ≤ g.length) (h2 : sure + left ≤ fb.length) (nl fu : Bool) :
    call E (.func (.func 41) [] []) [.ptr 0 0, .lit (.int .i64 left), .imm nl fu true (g.map encB)] (fB ff fb sure most false)
      = some (.lit (.int .i64 0), [fileB (.own 2 (sure + left) 1 0 (sure + left)) sure most true, .dead, .arr true false true 1 ((xorAt (fb.take (sure + left)) sure (g.take left)).map encB)]) := by
  rw [call_func E E41]
  have c1 := bcheck1 ff fb sure most false
  have c2 := bsize1 ff fb sure most false
  have c3 := fkeep ff fb (sure + left) h2 sure most false
  rw [show min sure (sure + left) = sure from by omega] at c3
  have w1 : IntKind.wrap .i64 ((fb.length : Int) - (sure : Int)) = fb.length - sure := wrap64 (by omega) (by omega)
  have w2 : IntKind.wrap .i64 ((sure : Int) + (left : Int)) = ((sure + left : Nat) : Int) := by rw [wrap64 (by omega) (by omega)]; omega
  have h3 : ¬ ((fb.length : Int) - sure < left) := by omega
  have h00 : ¬ ((left : Int) < 0) := by omega
  have hmin : (if (g.length : Int) < (left : Int) then (g.length : Int) else (left : Int)) = left := by rw [if_neg (by omega)]
  have hmin2 : (if g.length < left then (g.length : Int) else (left : Int)) = left := by rw [if_neg (by omega)]
  have hr := rowsB g
  have hlt : (g.take left).length = left := by simp; omega
  have hloop := crash_loop (g.take left) (fun c hc => hg c (List.mem_of_mem_take hc)) (sure + left) sure (by omega) (by omega) most nl (fu && decide (left = g.length)) (.code (.seq (.reg [⟨none, some 72, .copy (.t 0)⟩, ⟨none, some 73, .nilCheck (.t 72)⟩, ⟨none, some 74, .fieldA 3 (.t 73)⟩, ⟨none, none, .store 1 (.t 74) (.c (.lit (.bool true)))⟩] [] []) (.seq (.reg [⟨none, some 6, .copy (.c (.lit (.int .i64 0)))⟩] [] []) .ret)) :: []) (fun w => some (.lit (.int .i64 0), [fileB (.own 2 (sure + left) 1 0 (sure + left)) sure most true, .dead, .arr true false true 1 (w.map encB)]))
    (fun τ w t => by simp [go_sem, t, fileB, purse_eq, List.range_succ]) left 0 (fb.take (sure + left)) (by omega) (by simp; omega) (fun c hc => hb c (List.mem_of_mem_take hc))
  simp only [Nat.add_zero, List.drop_zero, hlt] at hloop
  rw [List.map_take] at hloop
  rw [← hloop]
  rw [List.map_take]
  clear hloop
  rw [List.map_take] at c3
  simp [fB, fileB] at c1 c2 c3
  simp [go_sem, ir41, fB, fileB, c1, c2, c3, w1, w2, h3, h00, hmin, hmin2, hr, h1, purse_eq, List.range_succ]
  rw [run_inLoop']
  simp [go_sem, purse_eq, List.range_succ]
theorem crash_range (ff : Bool) (fb : List Nat) (hl : fb.length ≤ 1000000) (sure : Nat) (hs : sure ≤ fb.length) (most : Int) (left : Int) (h : left < 0 ∨ (fb.length : Int) - sure < left) (nl fu : Bool) :
    call E (.func (.func 41) [] []) [.ptr 0 0, .lit (.int .i64 left), .imm nl fu true []] (fB ff fb sure most false) = some (.lit (.int .i64 10), fB ff fb sure most false) := by
  rw [call_func E E41]
  have c1 := bcheck1 ff fb sure most false
  have c2 := bsize1 ff fb sure most false
  have w1 : IntKind.wrap .i64 ((fb.length : Int) - (sure : Int)) = fb.length - sure := wrap64 (by omega) (by omega)
  simp [fB, fileB] at c1 c2
  by_cases h0 : left < 0
  · simp [go_sem, ir41, fB, fileB, c1, c2, w1, h0, purse_eq, List.range_succ]
  · have h3 : (fb.length : Int) - sure < left := by omega
    simp [go_sem, ir41, fB, fileB, c1, c2, w1, h0, h3, purse_eq, List.range_succ]
end Go.AM.R1
open Go Go.AM
namespace Go.AM.R1
/-! ### What is left of a block that was turned, or cut off, is none -/
def tb (x : Int) (i : Nat) : Bool := decide (x / 2 ^ i % 2 = 1)
theorem turned_get {P w : List Nat} {f : Int} {R : List Run} (hP : P = wholeB (numsN f R)) (hc : chkB f R = 0) (hPb : ∀ c ∈ P, c < 256) {fr t : Nat} (ht : t ≤ 32)
    (hI : Inv P (putN (bytesN (numsN f R)).length).length fr t t w true) (hle : 8 * (putN (bytesN (numsN f R)).length).length + fr + t ≤ 8 * P.length) : getB w = ((0, []), 0, 18) := by
  have hPl := inside_65536 hc
  have hWl := whole_len (numsN f R)
  rw [← hP] at hWl
  obtain ⟨h1, h2, h3, ⟨B, e1, e2, e3, e4⟩, h5⟩ := hI
  have hPt : P.take (putN (bytesN (numsN f R)).length).length = putN (bytesN (numsN f R)).length := by
    rw [hP]; unfold wholeB sealB
    rw [List.append_assoc, List.take_append_of_le_length (Nat.le_refl _), List.take_length]
  have hw : w = putN (bytesN (numsN f R)).length ++ w.drop (putN (bytesN (numsN f R)).length).length := by
    conv => lhs; rw [← List.take_append_drop (putN (bytesN (numsN f R)).length).length w, h3, hPt]
  have hg : getN w = ((bytesN (numsN f R)).length, (putN (bytesN (numsN f R)).length).length, 0) := by
    rw [hw]; exact get_put (by omega) _
  have hs : sizeB w = ((w.length : Int), 0) := by
    unfold sizeB
    rw [hg, if_neg (by simp), if_neg (by simp; omega)]
    simp; omega
  have hoP : openE P = 0 := by
    rw [seal_take _ (by omega)]
    have : P.take (P.length - 4) = putN (bytesN (numsN f R)).length ++ bytesN (numsN f R) := by
      rw [hP, whole_len]
      unfold wholeB sealB
      rw [List.take_append_of_le_length (by simp <;> omega), List.take_of_length_le (by simp)]
    rw [this, hP]; rfl
  have how : openE w ≠ 0 := fun how => by
    have hdt : (((bitsL P).drop (8 * (putN (bytesN (numsN f R)).length).length + fr)).take t).length = t := by
      rw [List.length_take, List.length_drop, bitsL_length]; omega
    have hsplit : bitsL P = (bitsL P).take (8 * (putN (bytesN (numsN f R)).length).length + fr) ++ ((bitsL P).drop (8 * (putN (bytesN (numsN f R)).length).length + fr)).take t ++ (bitsL P).drop (8 * (putN (bytesN (numsN f R)).length).length + fr + t) := by
      generalize 8 * (putN (bytesN (numsN f R)).length).length + fr = g
      rw [List.append_assoc, show (bitsL P).drop (g + t) = ((bitsL P).drop g).drop t from by rw [List.drop_drop], List.take_append_drop, List.take_append_drop]
    have hBB := sealed_burst hPb h2 (by omega) (by omega) hoP how hsplit e1 (by omega) (by omega)
    obtain ⟨j, -, hj⟩ := e3 rfl
    rw [hBB] at hj
    exact hj rfl
  have ho18 : openE w = 18 := by
    unfold openE at how ⊢
    rw [if_neg (by omega)] at how ⊢
    split
    · rename_i hq; rw [if_pos hq] at how; exact absurd rfl how
    · rfl
  unfold getB
  rw [hs, if_neg (by simp), if_neg (by simp)]
  simp only [Int.toNat_natCast]
  rw [List.take_length, ho18, if_pos (by simp)]
theorem cut_get {f : Int} {R : List Run} (hc : chkB f R = 0) (hm : (bytesN (numsN f R)).length < 16384) {j : Nat} (hj : j < (wholeB (numsN f R)).length) : getB ((wholeB (numsN f R)).take j) = ((0, []), 0, 13) := by
  have hWl := whole_len (numsN f R)
  have hPt : wholeB (numsN f R) = putN (bytesN (numsN f R)).length ++ (bytesN (numsN f R) ++ tailN (crc (putN (bytesN (numsN f R)).length ++ bytesN (numsN f R))).toNat) := by
    unfold wholeB sealB; rw [List.append_assoc]
  by_cases h : (putN (bytesN (numsN f R)).length).length ≤ j
  · have hg : getN ((wholeB (numsN f R)).take j) = ((bytesN (numsN f R)).length, (putN (bytesN (numsN f R)).length).length, 0) := by
      rw [hPt, List.take_append, List.take_of_length_le h]
      exact get_put (by omega) _
    have hs : sizeB ((wholeB (numsN f R)).take j) = (((wholeB (numsN f R)).length : Int), 0) := by
      unfold sizeB
      rw [hg, if_neg (by simp), if_neg (by have := inside_65536 hc; simp; omega), hWl]
    unfold getB
    rw [hs, if_neg (by simp), if_pos (by simp; omega)]
  · have hg : (getN ((wholeB (numsN f R)).take j)) = (0, 0, 13) := by
      generalize (bytesN (numsN f R)).length = m at *
      rw [hPt, List.take_append_of_le_length (by omega)]
      have hl2 := putN_length 1 m (by omega)
      rcases Nat.lt_or_ge m 128 with h2 | h2
      · rw [putN_small h2] at h ⊢
        simp at h
        subst h
        rfl
      · rw [putN_big h2] at h hl2 ⊢
        rw [putN_small (by omega)] at h hl2 ⊢
        simp at h
        rcases Nat.lt_or_ge j 1 with h3 | h3
        · have : j = 0 := by omega
          subst this; rfl
        · have : j = 1 := by omega
          subst this
          simp only [List.take_succ_cons, List.take_zero, getN, getGo]
          rw [if_neg (by omega), if_neg (by omega), if_neg (by omega)]
    unfold getB sizeB
    rw [hg]
    simp

theorem scan_tail (b w : List Nat) (hw : (getB w).2.2 ≠ 0) : ∀ (l : List Bk) (d p : Nat) (t : Int) (acc : List Bk), l.length + 1 ≤ d → Good t l → (b.drop p) = blksB l ++ w → scanGo d b p t acc = (acc ++ l, p + (blksB l).length, t + totB l) := by
  intro l
  induction l with
  | nil =>
    intro d p t acc hd hg hp
    obtain ⟨d, rfl⟩ : ∃ e, d = e + 1 := ⟨d - 1, by simp at hd; omega⟩
    rw [show blksB [] = [] from rfl, List.nil_append] at hp
    rw [scanGo, hp, if_neg (by intro q; exact hw q.1)]
    simp [blksB, totB]
  | cons x l ih =>
    intro d p t acc hd hg hp
    obtain ⟨d, rfl⟩ : ∃ e, d = e + 1 := ⟨d - 1, by simp at hd; omega⟩
    obtain ⟨g1, g2, g3, g4⟩ := hg
    have hG := get_of_put g2 g3 (blksB l ++ w)
    rw [blksB_cons, List.append_assoc] at hp
    rw [scanGo, hp]
    show (if (getB (wholeB (numsN x.1 x.2) ++ (blksB l ++ w))).2.2 = 0 ∧ (getB (wholeB (numsN x.1 x.2) ++ (blksB l ++ w))).1.1 = t then _ else _) = _
    rw [show putBk x = wholeB (numsN x.1 x.2) from rfl, hG]
    simp only []
    rw [if_pos ⟨trivial, g1⟩]
    rw [ih d (p + ((wholeB (numsN x.1 x.2)).length : Int).toNat) (t + sumN x.2) _ (by simp at hd; omega) g4 (by
      rw [Int.toNat_natCast, ← List.drop_drop, hp]; show List.drop (wholeB (numsN x.1 x.2)).length (wholeB (numsN x.1 x.2) ++ _) = _; rw [List.drop_left])]
    simp [totB, blksB_cons, putBk, List.length_append]
    omega
theorem scanB_tail {l : List Bk} (h : Good 0 l) {w : List Nat} (hw : (getB w).2.2 ≠ 0) : scanB (blksB l ++ w) = (l, (blksB l).length, totB l) := by
  have := good_len l 0 h
  have := scan_tail (blksB l ++ w) w hw l ((blksB l ++ w).length + 1) 0 0 [] (by simp; omega) h rfl
  simpa [scanB] using this
def headN (x : Bk) : Nat := (putN (bytesN (numsN x.1 x.2)).length).length
theorem short_get {x : Bk} (hc : chkB x.1 x.2 = 0) (hm : (bytesN (numsN x.1 x.2)).length < 16384) {w : List Nat} (hl : w.length < (putBk x).length) (hh : w.take (headN x) = ((putBk x).take w.length).take (headN x)) : (getB w).2.2 ≠ 0 := by
  have hWl := whole_len (numsN x.1 x.2)
  have hPt : putBk x = putN (bytesN (numsN x.1 x.2)).length ++ (bytesN (numsN x.1 x.2) ++ tailN (crc (putN (bytesN (numsN x.1 x.2)).length ++ bytesN (numsN x.1 x.2))).toNat) := by
    show wholeB _ = _
    unfold wholeB sealB; rw [List.append_assoc]
  by_cases h : headN x ≤ w.length
  · have hw : w = putN (bytesN (numsN x.1 x.2)).length ++ w.drop (headN x) := by
      conv => lhs; rw [← List.take_append_drop (headN x) w, hh, List.take_take, Nat.min_eq_left h, hPt]
      rw [show headN x = (putN (bytesN (numsN x.1 x.2)).length).length from rfl, List.take_left]
    have hg : getN w = ((bytesN (numsN x.1 x.2)).length, headN x, 0) := by
      rw [hw]; exact get_put (by omega) _
    have hs : sizeB w = (((putBk x).length : Int), 0) := by
      unfold sizeB
      rw [hg, if_neg (by simp), if_neg (by have := inside_65536 hc; simp; omega)]
      show ((((headN x + _ + 4 : Nat)) : Int), (0 : Int)) = _
      rw [show (putBk x).length = (wholeB (numsN x.1 x.2)).length from rfl, hWl]
      rfl
    unfold getB
    rw [hs, if_neg (by simp), if_pos (by simp; omega)]
    simp
  · have e : w = (putBk x).take w.length := by
      have := hh
      rwa [List.take_of_length_le (by omega), List.take_of_length_le (by simp; omega)] at this
    rw [e, show putBk x = wholeB (numsN x.1 x.2) from rfl, cut_get hc hm (by rw [show wholeB (numsN x.1 x.2) = putBk x from rfl]; exact hl)]
    simp
theorem headN_le {x : Bk} (hc : chkB x.1 x.2 = 0) (hm : (bytesN (numsN x.1 x.2)).length < 16384) : headN x + 4 ≤ (putBk x).length ∧ 1 ≤ headN x ∧ headN x ≤ 2 := by
  have hWl := whole_len (numsN x.1 x.2)
  have hpl2 := putN_length 1 (bytesN (numsN x.1 x.2)).length (by omega)
  have hpl1 := List.length_pos_iff.2 (putN_pos (bytesN (numsN x.1 x.2)).length)
  unfold headN
  rw [show (putBk x).length = (wholeB (numsN x.1 x.2)).length from rfl]
  omega
theorem first_byte {x : Bk} (hm : (bytesN (numsN x.1 x.2)).length < 16384) : ∃ c rest, putBk x = c :: rest ∧ (headN x = if 127 < c then 2 else 1) := by
  show ∃ c rest, wholeB (numsN x.1 x.2) = c :: rest ∧ _
  have hpl2 := putN_length 1 (bytesN (numsN x.1 x.2)).length (by omega)
  unfold wholeB sealB headN
  generalize (bytesN (numsN x.1 x.2)).length = m at *
  rcases Nat.lt_or_ge m 128 with h2 | h2
  · refine ⟨m, _, by rw [putN_small h2]; rfl, ?_⟩
    rw [putN_small h2]; simp; omega
  · refine ⟨m % 128 + 128, _, by rw [putN_big h2]; rfl, ?_⟩
    rw [putN_big h2] at hpl2 ⊢
    have := List.length_pos_iff.2 (putN_pos (m / 128))
    simp at hpl2 ⊢
    omega
theorem few_bytes {x : Bk} (hc : chkB x.1 x.2 = 0) (h : x.2.length ≤ 12) : (bytesN (numsN x.1 x.2)).length < 16384 := by
  obtain ⟨g1, g2, g3, g4, g5, g6⟩ := chkB_ok hc
  have hm5 := bytes_len5 (numsN x.1 x.2) (nums_lt g1 g3 (chk_right g4).1)
  have hnl : (numsN x.1 x.2).length = 2 * x.2.length + 2 := by simp only [numsN, List.length_cons, runN_length]
  omega
theorem zip_zero : ∀ (P : List Nat) (n : Nat), P.length ≤ n → List.zipWith (· ^^^ ·) P (List.replicate n 0) = P
  | [], _, _ => by simp
  | c :: P, 0, h => by simp at h
  | c :: P, n + 1, h => by rw [List.replicate_succ, List.zipWith_cons_cons, zip_zero P n (by simpa using h), Nat.xor_zero]
theorem zip_set : ∀ (P g : List Nat) (q v : Nat) (hq : q < P.length) (hg : q < g.length), List.zipWith (· ^^^ ·) P (g.set q (g[q] ^^^ v)) = (List.zipWith (· ^^^ ·) P g).set q ((List.zipWith (· ^^^ ·) P g)[q]'(by simp; omega) ^^^ v)
  | c :: P, e :: g, 0, v, _, _ => by simp [Nat.xor_assoc]
  | c :: P, e :: g, q + 1, v, hq, hg => by simp at hq hg; simp [zip_set P g q v hq hg]
end Go.AM.R1
open Go Go.AM
namespace Go.AM.R1
/-! ### Bits are turned -/
set_option maxHeartbeats 2000000
theorem rec_loopA (P : List Nat) (hPl : P.length ≤ 100000) (xl xf xb : Int) (hx : 0 ≤ xb ∧ xb ≤ 4294967295) (tk : Int) (n nl nb nr ne nf no s2 so : Nat) (q1 q2 q3 q4 q5 q6 q7 q8 q9 q10 q11 q12 : Bool) (Ff Rr Ee Oo Ll Bb : List (List AVal)) (gl head many fr t : Nat) (hgl : P.length ≤ gl ∧ gl ≤ 100000) (hm : 8 * head + many = 8 * P.length) (hfr : fr < many) (ht : t = min 32 (many - fr)) (hh : head ≤ 2) (k : List Item) (R : Option (AVal × Heap))
    (hk : ∀ g turned τ, Inv P head fr t t (List.zipWith (· ^^^ ·) P g) turned → g.length = gl → (∀ c ∈ g, c < 256) → lk 5 τ = .ptr 0 0 → lk 7 τ = .ptr 1 0 → lk 10 τ = nilS → lk 12 τ = .lit (.int .i64 tk) → lk 13 τ = .lit (.int .i64 n) → lk 14 τ = .ptr 6 0 → lk 17 τ = .own 8 nl 3 0 nl → lk 19 τ = .own 9 nb 1 0 nb → lk 21 τ = .own 10 g.length 1 0 g.length → lk 22 τ = .lit (.bool turned) →
      finK 0 [.tmp 6] (run E 0 k τ [.box [.lit (.int .i64 xl), .lit (.int .i64 xf), .lit (.int .u32 xb)], .box [.ptr 2 0, .own 4 nr 3 0 nr, .own 5 ne 2 0 ne, nilS], fileB (.own 3 nf 1 0 nf) s2 100000 false, .arr true q1 q2 1 Ff, .arr true q3 q4 3 Rr, .arr true q5 q6 2 Ee, fileB (.own 7 no 1 0 no) so 100000 false, .arr true q7 q8 1 Oo, .arr true q9 q10 3 Ll, .arr true q11 q12 1 Bb, .arr true false false 1 ((g).map encB)]) = R) :
    ∀ (d i : Nat) (g : List Nat) (turned : Bool), i + d = t → Inv P head fr t i (List.zipWith (· ^^^ ·) P g) turned → g.length = gl → (∀ c ∈ g, c < 256) →
   finK 0 [.tmp 6] (run E 0 (.code L5_1 :: .inLoop [1000000, 5, 7, 10, 12, 13, 14, 17, 19, 20, 21, 22, 23, 24, 25] L5_1 :: .inBlock 2 :: k)
     [(5, .ptr 0 0), (7, .ptr 1 0), (10, nilS), (12, .lit (.int .i64 tk)), (13, .lit (.int .i64 n)), (14, .ptr 6 0), (17, .own 8 nl 3 0 nl), (19, .own 9 nb 1 0 nb), (20, .lit (.int .i64 head)), (21, .own 10 (g).length 1 0 (g).length), (22, .lit (.bool turned)), (23, .lit (.int .i64 many)), (24, .lit (.int .i64 fr)), (25, .lit (.int .i64 i))]
     [.box [.lit (.int .i64 xl), .lit (.int .i64 xf), .lit (.int .u32 xb)], .box [.ptr 2 0, .own 4 nr 3 0 nr, .own 5 ne 2 0 ne, nilS], fileB (.own 3 nf 1 0 nf) s2 100000 false, .arr true q1 q2 1 Ff, .arr true q3 q4 3 Rr, .arr true q5 q6 2 Ee, fileB (.own 7 no 1 0 no) so 100000 false, .arr true q7 q8 1 Oo, .arr true q9 q10 3 Ll, .arr true q11 q12 1 Bb, .arr true false false 1 ((g).map encB)]) = R := by
  intro d
  induction d with
  | zero =>
    intro i g turned hi hI hgl1 hgb
    have : i = t := by omega
    subst this
    have w1 : IntKind.wrap .i64 ((fr : Int) + (i : Int)) = (fr : Int) + (i : Int) := wrap64 (by omega) (by omega)
    by_cases h32 : (i : Int) < 32
    · have hend : ¬ ((fr : Int) + (i : Int) < (many : Int)) := by omega
      simp [go_sem, run_codeL E L5_1.eq_1, h32, w1, hend]
      exact hk g turned _ hI hgl1 hgb rfl rfl rfl rfl rfl rfl rfl rfl rfl rfl
    · simp [go_sem, run_codeL E L5_1.eq_1, h32]
      exact hk g turned _ hI hgl1 hgb rfl rfl rfl rfl rfl rfl rfl rfl rfl rfl
  | succ d ih =>
    intro i g turned hi hI hgl1 hgb
    have h32 : (i : Int) < 32 := by omega
    have hend : (fr : Int) + (i : Int) < (many : Int) := by omega
    have w1 : IntKind.wrap .i64 ((fr : Int) + (i : Int)) = (fr : Int) + (i : Int) := wrap64 (by omega) (by omega)
    have w2 := wrapIdx (i := i) (by omega)
    have hmin : min i 32 = i := by omega
    have hp : (0 : Int) < 2 ^ i := Int.pow_pos (by omega)
    have hfd : xb.fdiv (2 ^ i) = xb / 2 ^ i := Int.fdiv_eq_ediv_of_nonneg _ (by omega)
    have hrange : 0 ≤ xb / 2 ^ i ∧ xb / 2 ^ i ≤ 4294967295 := ⟨Int.ediv_nonneg hx.1 (by omega), by have := Int.ediv_le_self (2 ^ i) hx.1; omega⟩
    have hand := iand_one hrange.1 hrange.2
    have hlt0 : ¬ (i : Int) < 0 := by omega
    have hzl : (List.zipWith (· ^^^ ·) P g).length = P.length := by simp; omega
    cases htb : tb xb i with
    | false =>
      have hbit : ¬ xb / 2 ^ i % 2 = 1 := by simpa [tb] using htb
      have ih2 := ih (i + 1) g turned (by omega) (inv_skip hI) hgl1 hgb
      simp [fileB, nilS] at ih2 w2
      simp [go_sem, run_codeL E L5_1.eq_1, h32, hend, w1, w2, hmin, hfd, hand, hbit, hlt0, fileB, nilS, purse_eq, List.range_succ]
      rw [run_inLoop']
      simp [go_sem, purse_eq, List.range_succ]
      exact ih2
    | true =>
      have hbit : xb / 2 ^ i % 2 = 1 := by simpa [tb] using htb
      have hq0 : head + (fr + i) / 8 < P.length := by omega
      have hq : head + (fr + i) / 8 < g.length := by omega
      have hIf := inv_flip hI (by omega) (by omega) (by rw [hzl]; exact hq0)
      rw [← zip_set P g _ _ hq0 hq] at hIf
      have hb8 : (fr + i) % 8 < 8 := by omega
      have h2p : 2 ^ ((fr + i) % 8) < 2 ^ 8 := Nat.pow_lt_pow_right (by omega) hb8
      have hcb := hgb _ (List.getElem_mem hq)
      have hxl : g[head + (fr + i) / 8] ^^^ 2 ^ ((fr + i) % 8) < 2 ^ 8 := Nat.xor_lt_two_pow (by omega) h2p
      have ih2 := ih (i + 1) _ true (by omega) hIf (by simpa using hgl1) (by
        intro c hc
        rcases List.mem_or_eq_of_mem_set hc with h | h
        · exact hgb c h
        · rw [h]; omega)
      have d1 : ((fr : Int) + (i : Int)).tdiv 8 = (((fr + i) / 8 : Nat) : Int) := by rw [Int.tdiv_eq_ediv_of_nonneg (by omega)]; omega
      have d2 : ((fr : Int) + (i : Int)).tmod 8 = (((fr + i) % 8 : Nat) : Int) := by rw [Int.tmod_eq_emod_of_nonneg (by omega)]; omega
      have w3 : IntKind.wrap .i64 (((fr + i) / 8 : Nat) : Int) = (((fr + i) / 8 : Nat) : Int) := wrap64 (by omega) (by omega)
      have w4 : IntKind.wrap .i64 ((head : Int) + (((fr + i) / 8 : Nat) : Int)) = ((head + (fr + i) / 8 : Nat) : Int) := by rw [wrap64 (by omega) (by omega)]; omega
      have hx := ixor_u8' hcb (d := 2 ^ ((fr + i) % 8)) (by omega)
      have w5 := wrap8 (2 ^ ((fr + i) % 8))
      rw [Nat.mod_eq_of_lt (show 2 ^ ((fr + i) % 8) < 256 by omega)] at w5
      have hm8 : min ((fr + i) % 8) 8 = (fr + i) % 8 := by omega
      have hms := List.map_set (f := encB) (l := g) (i := head + (fr + i) / 8) (a := g[head + (fr + i) / 8] ^^^ 2 ^ ((fr + i) % 8))
      have hpn : (((2 ^ ((fr + i) % 8) : Nat)) : Int) = 2 ^ ((fr + i) % 8) := by simp
      rw [hpn] at hx w5
      have hne8 : ¬ ((((fr + i) % 8 : Nat)) : Int) < 0 := by omega
      rw [hms] at ih2
      simp only [List.length_set] at ih2
      clear hIf hI hms
      generalize hqq : head + (fr + i) / 8 = q at *
      generalize hc2 : g[q] ^^^ 2 ^ ((fr + i) % 8) = c2 at *
      generalize hdd : (fr + i) / 8 = dd at *
      generalize hbb : (fr + i) % 8 = bb at *
      simp [encB, fileB, nilS] at ih2 w2
      simp [go_sem, run_codeL E L5_1.eq_1, h32, hend, w1, w2, hmin, hfd, hand, hbit, hlt0, d1, d2, w3, w4, hq, hm8, w5, hx, hne8, encB, List.getElem?_eq_getElem hq, fileB, nilS, purse_eq, List.range_succ]
      rw [run_inLoop']
      simp [go_sem, purse_eq, List.range_succ]
      simpa [encB] using ih2
theorem rec_loopA0 (P : List Nat) (hPl : P.length ≤ 100000) (xl xf xb : Int) (hx : 0 ≤ xb ∧ xb ≤ 4294967295) (tk : Int) (n nl nb nr ne nf no s2 so : Nat) (q1 q2 q3 q4 q5 q6 q7 q8 q9 q10 q11 q12 : Bool) (Ff Rr Ee Oo Ll Bb : List (List AVal)) (gl head many fr : Nat) (hgl : P.length ≤ gl ∧ gl ≤ 100000) (hPb : ∀ c ∈ P, c < 256) (hm : 8 * head + many = 8 * P.length) (hfr : fr < many) (hh : head ≤ 2) (k : List Item) (R : Option (AVal × Heap))
    (hk : ∀ g turned τ, Inv P head fr (min 32 (many - fr)) (min 32 (many - fr)) (List.zipWith (· ^^^ ·) P g) turned → g.length = gl → (∀ c ∈ g, c < 256) → lk 5 τ = .ptr 0 0 → lk 7 τ = .ptr 1 0 → lk 10 τ = nilS → lk 12 τ = .lit (.int .i64 tk) → lk 13 τ = .lit (.int .i64 n) → lk 14 τ = .ptr 6 0 → lk 17 τ = .own 8 nl 3 0 nl → lk 19 τ = .own 9 nb 1 0 nb → lk 21 τ = .own 10 g.length 1 0 g.length → lk 22 τ = .lit (.bool turned) →
      finK 0 [.tmp 6] (run E 0 k τ [.box [.lit (.int .i64 xl), .lit (.int .i64 xf), .lit (.int .u32 xb)], .box [.ptr 2 0, .own 4 nr 3 0 nr, .own 5 ne 2 0 ne, nilS], fileB (.own 3 nf 1 0 nf) s2 100000 false, .arr true q1 q2 1 Ff, .arr true q3 q4 3 Rr, .arr true q5 q6 2 Ee, fileB (.own 7 no 1 0 no) so 100000 false, .arr true q7 q8 1 Oo, .arr true q9 q10 3 Ll, .arr true q11 q12 1 Bb, .arr true false false 1 ((g).map encB)]) = R) :
   finK 0 [.tmp 6] (run E 0 (.code L5_1 :: .inLoop [1000000, 5, 7, 10, 12, 13, 14, 17, 19, 20, 21, 22, 23, 24, 25] L5_1 :: .inBlock 2 :: k)
     [(5, .ptr 0 0), (7, .ptr 1 0), (10, nilS), (12, .lit (.int .i64 tk)), (13, .lit (.int .i64 n)), (14, .ptr 6 0), (17, .own 8 nl 3 0 nl), (19, .own 9 nb 1 0 nb), (20, .lit (.int .i64 head)), (21, .own 10 gl 1 0 gl), (22, .lit (.bool false)), (23, .lit (.int .i64 many)), (24, .lit (.int .i64 fr)), (25, .lit (.int .i64 0))]
     [.box [.lit (.int .i64 xl), .lit (.int .i64 xf), .lit (.int .u32 xb)], .box [.ptr 2 0, .own 4 nr 3 0 nr, .own 5 ne 2 0 ne, nilS], fileB (.own 3 nf 1 0 nf) s2 100000 false, .arr true q1 q2 1 Ff, .arr true q3 q4 3 Rr, .arr true q5 q6 2 Ee, fileB (.own 7 no 1 0 no) so 100000 false, .arr true q7 q8 1 Oo, .arr true q9 q10 3 Ll, .arr true q11 q12 1 Bb, .arr true false false 1 (List.replicate gl [.lit (.int .u8 0)])]) = R := by
  have h := rec_loopA P hPl xl xf xb hx tk n nl nb nr ne nf no s2 so q1 q2 q3 q4 q5 q6 q7 q8 q9 q10 q11 q12 Ff Rr Ee Oo Ll Bb gl head many fr (min 32 (many - fr)) hgl hm hfr rfl hh k R hk (min 32 (many - fr)) 0 (List.replicate gl 0) false (by omega) (by rw [zip_zero _ _ hgl.1]; exact inv_start P hPb head fr _ (by omega)) (by simp) (fun c hc => by have := List.eq_of_mem_replicate hc; omega)
  simpa [encB] using h
theorem rec_loopB (P : List Nat) (hPl : P.length ≤ 100000) (xl xf xb : Int) (hx : 0 ≤ xb ∧ xb ≤ 4294967295) (tk : Int) (n nl nb nr ne nf no s2 so na : Nat) (q1 q2 q3 q4 q5 q6 q7 q8 q9 q10 q11 q12 q13 q14 : Bool) (Ff Rr Ee Oo Ll Bb Aa : List (List AVal)) (gl head many fr t : Nat) (hgl : P.length ≤ gl ∧ gl ≤ 100000) (hm : 8 * head + many = 8 * P.length) (hfr : fr < many) (ht : t = min 32 (many - fr)) (hh : head ≤ 2) (k : List Item) (R : Option (AVal × Heap))
    (hk : ∀ g turned τ, Inv P head fr t t (List.zipWith (· ^^^ ·) P g) turned → g.length = gl → (∀ c ∈ g, c < 256) → lk 5 τ = .ptr 0 0 → lk 7 τ = .ptr 1 0 → lk 10 τ = .own 6 na 3 0 na → lk 12 τ = .lit (.int .i64 tk) → lk 13 τ = .lit (.int .i64 n) → lk 14 τ = .ptr 7 0 → lk 17 τ = .own 9 nl 3 0 nl → lk 19 τ = .own 10 nb 1 0 nb → lk 21 τ = .own 11 g.length 1 0 g.length → lk 22 τ = .lit (.bool turned) →
      finK 0 [.tmp 6] (run E 0 k τ [.box [.lit (.int .i64 xl), .lit (.int .i64 xf), .lit (.int .u32 xb)], .box [.ptr 2 0, .own 4 nr 3 0 nr, .own 5 ne 2 0 ne, nilS], fileB (.own 3 nf 1 0 nf) s2 100000 false, .arr true q1 q2 1 Ff, .arr true q3 q4 3 Rr, .arr true q5 q6 2 Ee, .arr true q13 q14 3 Aa, fileB (.own 8 no 1 0 no) so 100000 false, .arr true q7 q8 1 Oo, .arr true q9 q10 3 Ll, .arr true q11 q12 1 Bb, .arr true false false 1 ((g).map encB)]) = R) :
    ∀ (d i : Nat) (g : List Nat) (turned : Bool), i + d = t → Inv P head fr t i (List.zipWith (· ^^^ ·) P g) turned → g.length = gl → (∀ c ∈ g, c < 256) →
   finK 0 [.tmp 6] (run E 0 (.code L5_1 :: .inLoop [1000000, 5, 7, 10, 12, 13, 14, 17, 19, 20, 21, 22, 23, 24, 25] L5_1 :: .inBlock 2 :: k)
     [(5, .ptr 0 0), (7, .ptr 1 0), (10, .own 6 na 3 0 na), (12, .lit (.int .i64 tk)), (13, .lit (.int .i64 n)), (14, .ptr 7 0), (17, .own 9 nl 3 0 nl), (19, .own 10 nb 1 0 nb), (20, .lit (.int .i64 head)), (21, .own 11 (g).length 1 0 (g).length), (22, .lit (.bool turned)), (23, .lit (.int .i64 many)), (24, .lit (.int .i64 fr)), (25, .lit (.int .i64 i))]
     [.box [.lit (.int .i64 xl), .lit (.int .i64 xf), .lit (.int .u32 xb)], .box [.ptr 2 0, .own 4 nr 3 0 nr, .own 5 ne 2 0 ne, nilS], fileB (.own 3 nf 1 0 nf) s2 100000 false, .arr true q1 q2 1 Ff, .arr true q3 q4 3 Rr, .arr true q5 q6 2 Ee, .arr true q13 q14 3 Aa, fileB (.own 8 no 1 0 no) so 100000 false, .arr true q7 q8 1 Oo, .arr true q9 q10 3 Ll, .arr true q11 q12 1 Bb, .arr true false false 1 ((g).map encB)]) = R := by
  intro d
  induction d with
  | zero =>
    intro i g turned hi hI hgl1 hgb
    have : i = t := by omega
    subst this
    have w1 : IntKind.wrap .i64 ((fr : Int) + (i : Int)) = (fr : Int) + (i : Int) := wrap64 (by omega) (by omega)
    by_cases h32 : (i : Int) < 32
    · have hend : ¬ ((fr : Int) + (i : Int) < (many : Int)) := by omega
      simp [go_sem, run_codeL E L5_1.eq_1, h32, w1, hend]
      exact hk g turned _ hI hgl1 hgb rfl rfl rfl rfl rfl rfl rfl rfl rfl rfl
    · simp [go_sem, run_codeL E L5_1.eq_1, h32]
      exact hk g turned _ hI hgl1 hgb rfl rfl rfl rfl rfl rfl rfl rfl rfl rfl
  | succ d ih =>
    intro i g turned hi hI hgl1 hgb
    have h32 : (i : Int) < 32 := by omega
    have hend : (fr : Int) + (i : Int) < (many : Int) := by omega
    have w1 : IntKind.wrap .i64 ((fr : Int) + (i : Int)) = (fr : Int) + (i : Int) := wrap64 (by omega) (by omega)
    have w2 := wrapIdx (i := i) (by omega)
    have hmin : min i 32 = i := by omega
    have hp : (0 : Int) < 2 ^ i := Int.pow_pos (by omega)
    have hfd : xb.fdiv (2 ^ i) = xb / 2 ^ i := Int.fdiv_eq_ediv_of_nonneg _ (by omega)
    have hrange : 0 ≤ xb / 2 ^ i ∧ xb / 2 ^ i ≤ 4294967295 := ⟨Int.ediv_nonneg hx.1 (by omega), by have := Int.ediv_le_self (2 ^ i) hx.1; omega⟩
    have hand := iand_one hrange.1 hrange.2
    have hlt0 : ¬ (i : Int) < 0 := by omega
    have hzl : (List.zipWith (· ^^^ ·) P g).length = P.length := by simp; omega
    cases htb : tb xb i with
    | false =>
      have hbit : ¬ xb / 2 ^ i % 2 = 1 := by simpa [tb] using htb
      have ih2 := ih (i + 1) g turned (by omega) (inv_skip hI) hgl1 hgb
      simp [fileB, nilS] at ih2 w2
      simp [go_sem, run_codeL E L5_1.eq_1, h32, hend, w1, w2, hmin, hfd, hand, hbit, hlt0, fileB, nilS, purse_eq, List.range_succ]
      rw [run_inLoop']
      simp [go_sem, purse_eq, List.range_succ]
      exact ih2
    | true =>
      have hbit : xb / 2 ^ i % 2 = 1 := by simpa [tb] using htb
      have hq0 : head + (fr + i) / 8 < P.length := by omega
      have hq : head + (fr + i) / 8 < g.length := by omega
      have hIf := inv_flip hI (by omega) (by omega) (by rw [hzl]; exact hq0)
      rw [← zip_set P g _ _ hq0 hq] at hIf
      have hb8 : (fr + i) % 8 < 8 := by omega
      have h2p : 2 ^ ((fr + i) % 8) < 2 ^ 8 := Nat.pow_lt_pow_right (by omega) hb8
      have hcb := hgb _ (List.getElem_mem hq)
      have hxl : g[head + (fr + i) / 8] ^^^ 2 ^ ((fr + i) % 8) < 2 ^ 8 := Nat.xor_lt_two_pow (by omega) h2p
      have ih2 := ih (i + 1) _ true (by omega) hIf (by simpa using hgl1) (by
        intro c hc
        rcases List.mem_or_eq_of_mem_set hc with h | h
        · exact hgb c h
        · rw [h]; omega)
      have d1 : ((fr : Int) + (i : Int)).tdiv 8 = (((fr + i) / 8 : Nat) : Int) := by rw [Int.tdiv_eq_ediv_of_nonneg (by omega)]; omega
      have d2 : ((fr : Int) + (i : Int)).tmod 8 = (((fr + i) % 8 : Nat) : Int) := by rw [Int.tmod_eq_emod_of_nonneg (by omega)]; omega
      have w3 : IntKind.wrap .i64 (((fr + i) / 8 : Nat) : Int) = (((fr + i) / 8 : Nat) : Int) := wrap64 (by omega) (by omega)
      have w4 : IntKind.wrap .i64 ((head : Int) + (((fr + i) / 8 : Nat) : Int)) = ((head + (fr + i) / 8 : Nat) : Int) := by rw [wrap64 (by omega) (by omega)]; omega
      have hx := ixor_u8' hcb (d := 2 ^ ((fr + i) % 8)) (by omega)
      have w5 := wrap8 (2 ^ ((fr + i) % 8))
      rw [Nat.mod_eq_of_lt (show 2 ^ ((fr + i) % 8) < 256 by omega)] at w5
      have hm8 : min ((fr + i) % 8) 8 = (fr + i) % 8 := by omega
      have hms := List.map_set (f := encB) (l := g) (i := head + (fr + i) / 8) (a := g[head + (fr + i) / 8] ^^^ 2 ^ ((fr + i) % 8))
      have hpn : (((2 ^ ((fr + i) % 8) : Nat)) : Int) = 2 ^ ((fr + i) % 8) := by simp
      rw [hpn] at hx w5
      have hne8 : ¬ ((((fr + i) % 8 : Nat)) : Int) < 0 := by omega
      rw [hms] at ih2
      simp only [List.length_set] at ih2
      clear hIf hI hms
      generalize hqq : head + (fr + i) / 8 = q at *
      generalize hc2 : g[q] ^^^ 2 ^ ((fr + i) % 8) = c2 at *
      generalize hdd : (fr + i) / 8 = dd at *
      generalize hbb : (fr + i) % 8 = bb at *
      simp [encB, fileB, nilS] at ih2 w2
      simp [go_sem, run_codeL E L5_1.eq_1, h32, hend, w1, w2, hmin, hfd, hand, hbit, hlt0, d1, d2, w3, w4, hq, hm8, w5, hx, hne8, encB, List.getElem?_eq_getElem hq, fileB, nilS, purse_eq, List.range_succ]
      rw [run_inLoop']
      simp [go_sem, purse_eq, List.range_succ]
      simpa [encB] using ih2
theorem rec_loopB0 (P : List Nat) (hPl : P.length ≤ 100000) (xl xf xb : Int) (hx : 0 ≤ xb ∧ xb ≤ 4294967295) (tk : Int) (n nl nb nr ne nf no s2 so na : Nat) (q1 q2 q3 q4 q5 q6 q7 q8 q9 q10 q11 q12 q13 q14 : Bool) (Ff Rr Ee Oo Ll Bb Aa : List (List AVal)) (gl head many fr : Nat) (hgl : P.length ≤ gl ∧ gl ≤ 100000) (hPb : ∀ c ∈ P, c < 256) (hm : 8 * head + many = 8 * P.length) (hfr : fr < many) (hh : head ≤ 2) (k : List Item) (R : Option (AVal × Heap))
    (hk : ∀ g turned τ, Inv P head fr (min 32 (many - fr)) (min 32 (many - fr)) (List.zipWith (· ^^^ ·) P g) turned → g.length = gl → (∀ c ∈ g, c < 256) → lk 5 τ = .ptr 0 0 → lk 7 τ = .ptr 1 0 → lk 10 τ = .own 6 na 3 0 na → lk 12 τ = .lit (.int .i64 tk) → lk 13 τ = .lit (.int .i64 n) → lk 14 τ = .ptr 7 0 → lk 17 τ = .own 9 nl 3 0 nl → lk 19 τ = .own 10 nb 1 0 nb → lk 21 τ = .own 11 g.length 1 0 g.length → lk 22 τ = .lit (.bool turned) →
      finK 0 [.tmp 6] (run E 0 k τ [.box [.lit (.int .i64 xl), .lit (.int .i64 xf), .lit (.int .u32 xb)], .box [.ptr 2 0, .own 4 nr 3 0 nr, .own 5 ne 2 0 ne, nilS], fileB (.own 3 nf 1 0 nf) s2 100000 false, .arr true q1 q2 1 Ff, .arr true q3 q4 3 Rr, .arr true q5 q6 2 Ee, .arr true q13 q14 3 Aa, fileB (.own 8 no 1 0 no) so 100000 false, .arr true q7 q8 1 Oo, .arr true q9 q10 3 Ll, .arr true q11 q12 1 Bb, .arr true false false 1 ((g).map encB)]) = R) :
   finK 0 [.tmp 6] (run E 0 (.code L5_1 :: .inLoop [1000000, 5, 7, 10, 12, 13, 14, 17, 19, 20, 21, 22, 23, 24, 25] L5_1 :: .inBlock 2 :: k)
     [(5, .ptr 0 0), (7, .ptr 1 0), (10, .own 6 na 3 0 na), (12, .lit (.int .i64 tk)), (13, .lit (.int .i64 n)), (14, .ptr 7 0), (17, .own 9 nl 3 0 nl), (19, .own 10 nb 1 0 nb), (20, .lit (.int .i64 head)), (21, .own 11 gl 1 0 gl), (22, .lit (.bool false)), (23, .lit (.int .i64 many)), (24, .lit (.int .i64 fr)), (25, .lit (.int .i64 0))]
     [.box [.lit (.int .i64 xl), .lit (.int .i64 xf), .lit (.int .u32 xb)], .box [.ptr 2 0, .own 4 nr 3 0 nr, .own 5 ne 2 0 ne, nilS], fileB (.own 3 nf 1 0 nf) s2 100000 false, .arr true q1 q2 1 Ff, .arr true q3 q4 3 Rr, .arr true q5 q6 2 Ee, .arr true q13 q14 3 Aa, fileB (.own 8 no 1 0 no) so 100000 false, .arr true q7 q8 1 Oo, .arr true q9 q10 3 Ll, .arr true q11 q12 1 Bb, .arr true false false 1 (List.replicate gl [.lit (.int .u8 0)])]) = R := by
  have h := rec_loopB P hPl xl xf xb hx tk n nl nb nr ne nf no s2 so na q1 q2 q3 q4 q5 q6 q7 q8 q9 q10 q11 q12 q13 q14 Ff Rr Ee Oo Ll Bb Aa gl head many fr (min 32 (many - fr)) hgl hm hfr rfl hh k R hk (min 32 (many - fr)) 0 (List.replicate gl 0) false (by omega) (by rw [zip_zero _ _ hgl.1]; exact inv_start P hPb head fr _ (by omega)) (by simp) (fun c hc => by have := List.eq_of_mem_replicate hc; omega)
  simpa [encB] using h
end Go.AM.R1
open Go Go.AM
namespace Go.AM.R1
theorem cut0B (C : List Nat) (m : Nat) : cutE (C.map encB) 0 m = (C.take m).map encB := by
  unfold cutE; simp
theorem cutmB (C : List Nat) (m p : Nat) (h : m ≤ p) : cutE (C.map encB) m (p - m) = ((C.take p).drop m).map encB := by
  unfold cutE; rw [show m + (p - m) = p by omega, List.map_drop, List.map_take]
end Go.AM.R1
open Go Go.AM
namespace Go.AM.R1

theorem all_right_append {A B : List Run} : (A ++ B).all right = (A.all right && B.all right) := List.all_append
end Go.AM.R1
open Go Go.AM
namespace Go.AM.R1

def cutB (l : List Bk) (a b : Int) : List Run × Int :=
  if a < 0 ∨ b < a ∨ totB l < b then ([], 10) else if a = b then ([], 0) else (joined [] (betweenGo a b 0 (allR l)), 0)
theorem expand_allR_len {l : List Bk} {t : Int} (g : Good t l) : ((expand (allR l)).length : Int) = totB l := by
  rw [expand_length _ fun r hr => by have := good_nonneg g r hr; omega, allR_sum]
theorem take_drop_mid {α : Type} (P A S : List α) {a b : Nat} (h1 : P.length ≤ a) (h2 : a ≤ b) (h3 : b ≤ P.length + A.length) :
    ((P ++ (A ++ S)).take b).drop a = (A.take (b - P.length)).drop (a - P.length) := by
  rw [List.take_append, List.take_of_length_le (show P.length ≤ b by omega), List.drop_append, List.drop_eq_nil_of_le h1, List.nil_append, List.take_append_of_le_length (by omega)]
/-- The blocks from one on. -/
def midB (l : List Bk) (f c : Nat) : List Bk := (l.drop f).take c
theorem mid_split (l : List Bk) (f c : Nat) : l = l.take f ++ (midB l f c ++ (l.drop f).drop c) := by
  unfold midB; rw [List.take_append_drop, List.take_append_drop]
theorem mid_good {l : List Bk} (hg : Good 0 l) (f c : Nat) : Good (totB (l.take f)) (midB l f c) := by
  have h := hg
  rw [mid_split l f c, good_append, good_append] at h
  have := h.2.1
  rwa [Int.zero_add] at this
theorem mid_tot {l : List Bk} {f c : Nat} (h : f + c ≤ l.length) : totB (midB l f c) = totB (l.take (f + c)) - totB (l.take f) := by
  have : l.take (f + c) = l.take f ++ midB l f c := by unfold midB; rw [List.take_add]
  rw [this, totB_append]; omega
theorem cut_mid {l : List Bk} (hg : Good 0 l) {f c : Nat} (hf : f + c ≤ l.length) {a b : Int} (h1 : totB (l.take f) ≤ a) (h2 : a ≤ b) (h3 : b ≤ totB (l.take (f + c))) :
    cutRuns (allR (midB l f c)) (a - totB (l.take f)) (b - totB (l.take f)) = (joined [] (betweenGo a b 0 (allR l)), 0) := by
  have hm := mid_good hg f c
  have ht := tot_take_le l f hg
  have hmt := mid_tot hf
  have hck := good_chk ht.1 ht.2 hm
  have hnn : ∀ r ∈ allR (midB l f c), 0 ≤ r.N := fun r hr => by have := good_nonneg hm r hr; omega
  have hnl : ∀ r ∈ allR l, 0 ≤ r.N := fun r hr => by have := good_nonneg hg r hr; omega
  unfold cutRuns
  rw [if_neg (by simp [hck]), if_neg (by rw [allR_sum]; omega)]
  congr 1
  rw [cut_law _ hnn, cut_law _ hnl]
  congr 1
  have e : expand (allR l) = expand (allR (l.take f)) ++ (expand (allR (midB l f c)) ++ expand (allR ((l.drop f).drop c))) := by
    conv => lhs; rw [mid_split l f c]
    rw [allR_append, allR_append, expand_append, expand_append]
  have l1 := expand_allR_len (good_take l 0 f hg)
  have l2 := expand_allR_len hm
  rw [e, take_drop_mid _ _ _ (by omega) (by omega) (by omega)]
  congr 1
  · omega
  · congr 1; omega
end Go.AM.R1
open Go Go.AM
namespace Go.AM.R1

end Go.AM.R1
open Go Go.AM
namespace Go.AM.R1
/-- The document's log in a heap. -/
def rL (most : Int) (a b : Nat) (fx fy fz : Bool) (X Y : List (List AVal)) (L : List Bk) : Heap :=
  [.box [.ptr 1 0, .own 4 L.length 2 0 L.length, nilS], .box [.lit (.int .i64 most), .own 2 a 1 0 a, .own 3 b 1 0 b, .lit (.bool false)], .arr true false fx 1 X, .arr true false fy 1 Y, .arr true fz L.isEmpty 2 (L.map encBk)]
end Go.AM.R1
open Go Go.AM
namespace Go.AM.R1
/-! ### What is sure, in general -/
def sureOf (s : Nat) (L : List Bk) : Int := (endsGo 0 0 L).foldl (fun a e => if e.1 ≤ s then e.2 else a) 0
def rsG (s : Nat) : Nat → Int → List Bk → Int
  | _, a, [] => a
  | p, a, x :: r => rsG s (p + (putBk x).length) (if p + (putBk x).length ≤ s then a + sumN x.2 else a) r
theorem rsG_eq (s : Nat) : ∀ (l : List Bk) (p : Nat) (t a : Int), (p ≤ s → a = t) → rsG s p a l = (endsGo p t l).foldl (fun a e => if e.1 ≤ s then e.2 else a) a
  | [], p, t, a, _ => rfl
  | x :: l, p, t, a, h => by
    rw [rsG, endsGo, List.foldl_cons]
    by_cases hp : p + (putBk x).length ≤ s
    · rw [if_pos hp, if_pos hp, h (by omega)]
      exact rsG_eq s l _ _ _ (fun _ => rfl)
    · rw [if_neg hp, if_neg hp]
      exact rsG_eq s l _ _ _ (fun q => absurd q hp)
theorem sureG_loopA (ff lw : Bool) (nb sure nj : Nat) (most : Int) (cr : Bool) (B J : List (List AVal)) (es : List (Nat × Int)) (hl : es.length ≤ 1000000) (k : List Item) (R : Int → Option (AVal × Heap))
    (hS : call E (.func (.func 73) [] []) [.ptr 0 0] [fileB (.own 1 nb 1 0 nb) sure most cr, .arr true false ff 1 B] = some (.lit (.int .i64 sure), [fileB (.own 1 nb 1 0 nb) sure most cr, .arr true false ff 1 B]))
    (hk : ∀ τ t, lk 3 τ = .lit (.int .i64 t) → finK 5 [.tmp 2] (run E 5 k τ [.box [.ptr 1 0, .own 3 nj 3 0 nj, .own 4 es.length 2 0 es.length, nilS], fileB (.own 2 nb 1 0 nb) sure most cr, .arr true false ff 1 B, .arr true lw false 3 J, .arr true false false 2 (es.map encEnd)]) = R t) :
    ∀ (d i : Nat) (t : Int), i + d = es.length →
    finK 5 [.tmp 2] (run E 5 (.code L29_0 :: .inLoop [0, 3, 11, 12, 13] L29_0 :: .inBlock 0 :: k)
      [(0, .ptr 0 0), (3, .lit (.int .i64 t)), (11, .own 4 es.length 2 0 es.length), (12, .lit (.int .i64 es.length)), (13, .lit (.int .i64 i))]
      [.box [.ptr 1 0, .own 3 nj 3 0 nj, .own 4 es.length 2 0 es.length, nilS], fileB (.own 2 nb 1 0 nb) sure most cr, .arr true false ff 1 B, .arr true lw false 3 J, .arr true false false 2 (es.map encEnd)]) = R ((es.drop i).foldl (fun a e => if e.1 ≤ sure then e.2 else a) t) := by
  intro d
  induction d with
  | zero =>
    intro i t hi
    have : i = es.length := by omega
    subst this
    simp [go_sem, run_codeL E L29_0.eq_1]
    exact hk _ _ rfl
  | succ d ih =>
    intro i t hi
    have hlt : i < es.length := by omega
    have wi := wrapIdx (i := i) (by omega)
    by_cases hx : es[i].1 ≤ sure
    · have ih2 := ih (i + 1) es[i].2 (by omega)
      rw [List.drop_eq_getElem_cons hlt, List.foldl_cons, if_pos hx]
      generalize R _ = Q at ih2 ⊢
      simp [fileB, nilS] at hS ih2
      simp [go_sem, run_codeL E L29_0.eq_1, hlt, List.getElem?_eq_getElem hlt, encEnd, endE, fileB, nilS, hS, hx, wi, purse_eq, List.range_succ]
      rw [run_inLoop']
      simp [go_sem, purse_eq, List.range_succ]
      exact ih2
    · have ih2 := ih (i + 1) t (by omega)
      rw [List.drop_eq_getElem_cons hlt, List.foldl_cons, if_neg hx]
      generalize R _ = Q at ih2 ⊢
      simp [fileB, nilS] at hS ih2
      simp [go_sem, run_codeL E L29_0.eq_1, hlt, List.getElem?_eq_getElem hlt, encEnd, endE, fileB, nilS, hS, hx, wi, purse_eq, List.range_succ]
      rw [run_inLoop']
      simp [go_sem, purse_eq, List.range_succ]
      exact ih2
theorem sureG_loopB (ff lw lq : Bool) (nb sure nj nw : Nat) (most : Int) (cr : Bool) (B J W : List (List AVal)) (es : List (Nat × Int)) (hl : es.length ≤ 1000000) (k : List Item) (R : Int → Option (AVal × Heap))
    (hS : call E (.func (.func 73) [] []) [.ptr 0 0] [fileB (.own 1 nb 1 0 nb) sure most cr, .arr true false ff 1 B] = some (.lit (.int .i64 sure), [fileB (.own 1 nb 1 0 nb) sure most cr, .arr true false ff 1 B]))
    (hk : ∀ τ t, lk 3 τ = .lit (.int .i64 t) → finK 6 [.tmp 2] (run E 6 k τ [.box [.ptr 1 0, .own 3 nj 3 0 nj, .own 4 es.length 2 0 es.length, .own 5 nw 3 0 nw], fileB (.own 2 nb 1 0 nb) sure most cr, .arr true false ff 1 B, .arr true lw false 3 J, .arr true false false 2 (es.map encEnd), .arr true lq false 3 W]) = R t) :
    ∀ (d i : Nat) (t : Int), i + d = es.length →
    finK 6 [.tmp 2] (run E 6 (.code L29_0 :: .inLoop [0, 3, 11, 12, 13] L29_0 :: .inBlock 0 :: k)
      [(0, .ptr 0 0), (3, .lit (.int .i64 t)), (11, .own 4 es.length 2 0 es.length), (12, .lit (.int .i64 es.length)), (13, .lit (.int .i64 i))]
      [.box [.ptr 1 0, .own 3 nj 3 0 nj, .own 4 es.length 2 0 es.length, .own 5 nw 3 0 nw], fileB (.own 2 nb 1 0 nb) sure most cr, .arr true false ff 1 B, .arr true lw false 3 J, .arr true false false 2 (es.map encEnd), .arr true lq false 3 W]) = R ((es.drop i).foldl (fun a e => if e.1 ≤ sure then e.2 else a) t) := by
  intro d
  induction d with
  | zero =>
    intro i t hi
    have : i = es.length := by omega
    subst this
    simp [go_sem, run_codeL E L29_0.eq_1]
    exact hk _ _ rfl
  | succ d ih =>
    intro i t hi
    have hlt : i < es.length := by omega
    have wi := wrapIdx (i := i) (by omega)
    by_cases hx : es[i].1 ≤ sure
    · have ih2 := ih (i + 1) es[i].2 (by omega)
      rw [List.drop_eq_getElem_cons hlt, List.foldl_cons, if_pos hx]
      generalize R _ = Q at ih2 ⊢
      simp [fileB, nilS] at hS ih2
      simp [go_sem, run_codeL E L29_0.eq_1, hlt, List.getElem?_eq_getElem hlt, encEnd, endE, fileB, nilS, hS, hx, wi, purse_eq, List.range_succ]
      rw [run_inLoop']
      simp [go_sem, purse_eq, List.range_succ]
      exact ih2
    · have ih2 := ih (i + 1) t (by omega)
      rw [List.drop_eq_getElem_cons hlt, List.foldl_cons, if_neg hx]
      generalize R _ = Q at ih2 ⊢
      simp [fileB, nilS] at hS ih2
      simp [go_sem, run_codeL E L29_0.eq_1, hlt, List.getElem?_eq_getElem hlt, encEnd, endE, fileB, nilS, hS, hx, wi, purse_eq, List.range_succ]
      rw [run_inLoop']
      simp [go_sem, purse_eq, List.range_succ]
      exact ih2
theorem sureG (fo ff lw lq : Bool) (L W) (hfo : fo = false → L = []) (hl : L.length ≤ 1000000) (sure most cr) : call E (.func (.func 29) [] []) [.ptr 0 0] (lS fo ff lw lq L W sure most cr) = some (.lit (.int .i64 (sureOf sure L)), lS fo ff lw lq L W sure most cr) := by
  rw [call_func E E29]
  by_cases hL : L = []
  · subst hL
    have e0 : sureOf sure [] = 0 := rfl
    rw [e0]
    by_cases hW : W = []
    · cases fo
      · simp [go_sem, ir29, lS, hW, fileB, nilS, purse_eq, List.range_succ]
        rw [run_inLoop']
        simp [go_sem, purse_eq, List.range_succ, run_codeL E L29_0.eq_1]
      · simp [go_sem, ir29, lS, hW, fileB, nilS, purse_eq, List.range_succ]
        rw [run_inLoop']
        simp [go_sem, purse_eq, List.range_succ, run_codeL E L29_0.eq_1]
    · cases fo
      · simp [go_sem, ir29, lS, hW, fileB, nilS, purse_eq, List.range_succ]
        rw [run_inLoop']
        simp [go_sem, purse_eq, List.range_succ, run_codeL E L29_0.eq_1]
      · simp [go_sem, ir29, lS, hW, fileB, nilS, purse_eq, List.range_succ]
        rw [run_inLoop']
        simp [go_sem, purse_eq, List.range_succ, run_codeL E L29_0.eq_1]
  · have := foT hfo hL
    subst this
    have hS := fsure true ff (blksB L) sure most cr
    simp only [fF, if_true, fB] at hS
    have e3 := endsGo_length L 0 0
    have e1 : sureOf sure L = ((endsGo 0 0 L).drop 0).foldl (fun a e => if e.1 ≤ sure then e.2 else a) 0 := rfl
    rw [e1]
    by_cases hW : W = []
    · simp [go_sem, ir29, lS, hW, hL, fileB, nilS, purse_eq, List.range_succ]
      rw [run_inLoop']
      simp [go_sem, purse_eq, List.range_succ]
      have h := fun k hk => sureG_loopA ff lw (blksB L).length sure (joined [] (allR L)).length most cr ((blksB L).map encB) ((joined [] (allR L)).map encRun) (endsGo 0 0 L) (by omega) k (fun t => some (.lit (.int .i64 t), lS true ff lw lq L W sure most cr)) hS hk (endsGo 0 0 L).length 0 0 (by omega)
      simp [hW, hL, lS, fileB, nilS, e3] at h
      refine h _ ?_
      intro τ t t3
      simp [go_sem, t3, purse_eq, List.range_succ]
    · simp [go_sem, ir29, lS, hW, hL, fileB, nilS, purse_eq, List.range_succ]
      rw [run_inLoop']
      simp [go_sem, purse_eq, List.range_succ]
      have h := fun k hk => sureG_loopB ff lw lq (blksB L).length sure (joined [] (allR L)).length W.length most cr ((blksB L).map encB) ((joined [] (allR L)).map encRun) (W.map encRun) (endsGo 0 0 L) (by omega) k (fun t => some (.lit (.int .i64 t), lS true ff lw lq L W sure most cr)) hS hk (endsGo 0 0 L).length 0 0 (by omega)
      simp [hW, hL, lS, fileB, nilS, e3] at h
      refine h _ ?_
      intro τ t t3
      simp [go_sem, t3, purse_eq, List.range_succ]
end Go.AM.R1
open Go Go.AM
namespace Go.AM.R1
theorem fadd_nil (fo ff : Bool) (fb : List Nat) (hfo : fo = false → fb = []) (sure : Nat) (most : Int) (hl : fb.length ≤ 1000000) (nl fu : Bool) : call E (.func (.func 83) [] []) [.ptr 0 0, .imm nl fu true []] (fF fo ff fb sure most false)
    = some (.tup [], fF fo ff fb sure most false) := by
  rw [call_func E E83]
  cases fo
  · have := hfo rfl
    subst this
    simp [go_sem, ir83, fF, fB, fileB, nilS, purse_eq, List.range_succ]
  · simp [go_sem, ir83, fF, fB, fileB, nilS, purse_eq, List.range_succ]
theorem fappend_nil (fo ff : Bool) (fb : List Nat) (hfo : fo = false → fb = []) (sure : Nat) (most : Int) (hm : 0 ≤ most ∧ most ≤ 67108864) (hl : fb.length ≤ 1000000) (hs : (fb.length : Int) ≤ most) (nl fu : Bool) :
    call E (.func (.func 40) [] []) [.ptr 0 0, .imm nl fu true []] (fF fo ff fb sure most false)
      = some (.lit (.int .i64 0), fF fo ff fb sure most false) := by
  rw [call_func E E40]
  have h1 := fcheck fo ff fb sure most false
  have h2 := fsize fo ff fb hfo sure most false
  have h3 := fadd_nil fo ff fb hfo sure most hl nl fu
  have w : IntKind.wrap .i64 (most - (fb.length : Int)) = most - fb.length := by rw [wrap64 (by omega) (by omega)]
  have h5 : ¬ most - (fb.length : Int) < 0 := by omega
  have h6 : ¬ most < (fb.length : Int) := by omega
  cases fo <;> simp [fF, fB, fileB, nilS] at h1 h2 h3 <;> simp [go_sem, ir40, fF, fB, fileB, nilS, h1, h2, h3, w, h5, h6, purse_eq, List.range_succ]
/-- Any bytes put behind what a file has. -/
theorem fapp (fo ff : Bool) (fb : List Nat) (hfo : fo = false → fb = []) (sure : Nat) (most : Int) (hm : 0 ≤ most ∧ most ≤ 67108864) (b : List Nat) (hl : fb.length + b.length ≤ 1000000) (hs : (fb.length : Int) + b.length ≤ most) (nl fu : Bool) (hnl : nl = false ∨ b = []) :
    call E (.func (.func 40) [] []) [.ptr 0 0, .imm nl fu true (b.map encB)] (fF fo ff fb sure most false)
      = some (.lit (.int .i64 0), fF (fo || !b.isEmpty) (ff && b.isEmpty) (fb ++ b) sure most false) := by
  by_cases hb : b = []
  · subst hb
    have := fappend_nil fo ff fb hfo sure most hm (by simpa using hl) (by simpa using hs) nl fu
    simpa using this
  · have hn : nl = false := by rcases hnl with h | h; exact h; exact absurd h hb
    subst hn
    have h := fappend fo ff fb hfo sure most hm false b hb hl fu
    rw [if_neg (by simp), if_neg (by omega)] at h
    have he : b.isEmpty = false := by simpa using hb
    simpa [he] using h
end Go.AM.R1
open Go Go.AM
namespace Go.AM.R1
/-! ### The document's file, as a play goes on: what is sure, and nothing else -/
def rF (so fa : Bool) (fb : List Nat) (most : Int) : Heap := if so = true then [.box [.lit (.int .i64 most), .own 1 fb.length 1 0 fb.length, nilS, .lit (.bool false)], .arr true false fa 1 (fb.map encB)] else [.box [.lit (.int .i64 most), nilS, nilS, .lit (.bool false)]]
end Go.AM.R1
open Go Go.AM
namespace Go.AM.R1
/-! ### The document's log in a play -/
def rSA (fa fz : Bool) (L : List Bk) (n : Nat) (X : List (List AVal)) (most : Int) : Heap :=
  [.box [.ptr 1 0, .own 3 L.length 2 0 L.length, nilS], .box [.lit (.int .i64 most), .own 2 n 1 0 n, nilS, .lit (.bool false)], .arr true false fa 1 X, .arr true fz false 2 (L.map encBk)]
def rSB (fa fz lq : Bool) (L : List Bk) (n nw : Nat) (X Wr : List (List AVal)) (most : Int) : Heap :=
  [.box [.ptr 1 0, .own 3 L.length 2 0 L.length, .own 4 nw 3 0 nw], .box [.lit (.int .i64 most), .own 2 n 1 0 n, nilS, .lit (.bool false)], .arr true false fa 1 X, .arr true fz false 2 (L.map encBk), .arr true lq false 3 Wr]
end Go.AM.R1
open Go Go.AM
namespace Go.AM.R1
/-- The document's log, as a play goes on. -/
def rS (so fa fz lq : Bool) (L : List Bk) (W : List Run) (most : Int) : Heap :=
  if L = [] then
    (if so = false then (if W = [] then [.box [.ptr 1 0, nilS, nilS], .box [.lit (.int .i64 most), nilS, nilS, .lit (.bool false)]] else [.box [.ptr 1 0, nilS, .own 2 W.length 3 0 W.length], .box [.lit (.int .i64 most), nilS, nilS, .lit (.bool false)], .arr true lq false 3 (W.map encRun)])
     else (if W = [] then [.box [.ptr 1 0, nilS, nilS], .box [.lit (.int .i64 most), .own 2 0 1 0 0, nilS, .lit (.bool false)], .arr true false fa 1 []] else [.box [.ptr 1 0, nilS, .own 3 W.length 3 0 W.length], .box [.lit (.int .i64 most), .own 2 0 1 0 0, nilS, .lit (.bool false)], .arr true false fa 1 [], .arr true lq false 3 (W.map encRun)]))
  else (if W = [] then rSA fa fz L (blksB L).length ((blksB L).map encB) most else rSB fa fz lq L (blksB L).length W.length ((blksB L).map encB) (W.map encRun) most)
theorem sureOf_all (L : List Bk) : sureOf (blksB L).length L = totB L := by
  have h : ∀ (es : List (Nat × Int)) (a : Int) (s : Nat), (∀ e ∈ es, e.1 ≤ s) → es.foldl (fun a e => if e.1 ≤ s then e.2 else a) a = es.foldl (fun _ e => e.2) a := by
    intro es
    induction es with
    | nil => intro a s _; rfl
    | cons e es ih => intro a s hs; rw [List.foldl_cons, List.foldl_cons, if_pos (hs e (by simp)), ih _ _ fun x hx => hs x (by simp [hx])]
  unfold sureOf
  rw [h _ _ _ (fun e he => by have := ends_le L 0 0 e he; omega), ends_fold]
  omega
end Go.AM.R1
open Go Go.AM
namespace Go.AM.R1
/-- With what waited before still lying there. -/
def rSJ (so fa fz lo : Bool) (L : List Bk) (W0 W : List Run) (most : Int) : Heap :=
  if L = [] then
    (if so = false then [.box [.ptr 1 0, nilS, .own 3 W.length 3 0 W.length], .box [.lit (.int .i64 most), nilS, nilS, .lit (.bool false)], .arr true lo false 3 (W0.map encRun), .arr true true false 3 (W.map encRun)]
     else [.box [.ptr 1 0, nilS, .own 4 W.length 3 0 W.length], .box [.lit (.int .i64 most), .own 2 0 1 0 0, nilS, .lit (.bool false)], .arr true false fa 1 [], .arr true lo false 3 (W0.map encRun), .arr true true false 3 (W.map encRun)])
  else [.box [.ptr 1 0, .own 3 L.length 2 0 L.length, .own 5 W.length 3 0 W.length], .box [.lit (.int .i64 most), .own 2 (blksB L).length 1 0 (blksB L).length, nilS, .lit (.bool false)], .arr true false fa 1 ((blksB L).map encB), .arr true fz false 2 (L.map encBk), .arr true lo false 3 (W0.map encRun), .arr true true false 3 (W.map encRun)]
end Go.AM.R1
open Go Go.AM
namespace Go.AM.R1
/-- A Flush of the document's log with nothing waiting. -/
def pf0 (so fa fz : Bool) (L : List Bk) (most : Int) : Heap :=
  if L = [] then (if so = false then rS true true fz false [] [] most else [.box [.ptr 1 0, nilS, nilS], .box [.lit (.int .i64 most), .own 3 0 1 0 0, nilS, .lit (.bool false)], .arr true false fa 1 [], .arr true false true 1 []])
  else [.box [.ptr 1 0, .own 3 L.length 2 0 L.length, nilS], .box [.lit (.int .i64 most), .own 4 (blksB L).length 1 0 (blksB L).length, nilS, .lit (.bool false)], .arr true false fa 1 ((blksB L).map encB), .arr true fz false 2 (L.map encBk), .arr true false false 1 ((blksB L).map encB)]
end Go.AM.R1
open Go Go.AM
namespace Go.AM.R1
/-- A file with something not yet sure. -/
def rF2 (so fa : Bool) (fb pb : List Nat) (most : Int) : Heap := if so = true then [.box [.lit (.int .i64 most), .own 1 fb.length 1 0 fb.length, .own 2 pb.length 1 0 pb.length, .lit (.bool false)], .arr true false fa 1 (fb.map encB), .arr true false false 1 (pb.map encB)] else [.box [.lit (.int .i64 most), nilS, .own 1 pb.length 1 0 pb.length, .lit (.bool false)], .arr true false false 1 (pb.map encB)]
end Go.AM.R1
open Go Go.AM
namespace Go.AM.R1
/-- What a Flush of the document's log leaves that wrote a block. -/
def pfH (so fa fz : Bool) (L : List Bk) (W : List Run) (most : Int) : Heap :=
  if L = [] then
    (if so = false then [.box [.ptr 1 0, .own 3 1 2 0 1, nilS], .box [.lit (.int .i64 most), .own 4 (putBk (0, W)).length 1 0 (putBk (0, W)).length, nilS, .lit (.bool false)], .arr true true false 3 (W.map encRun), .arr true false false 2 [encBk (0, W)], .arr true false false 1 ((putBk (0, W)).map encB)]
     else [.box [.ptr 1 0, .own 4 1 2 0 1, nilS], .box [.lit (.int .i64 most), .own 5 (putBk (0, W)).length 1 0 (putBk (0, W)).length, nilS, .lit (.bool false)], .arr true false fa 1 [], .arr true true false 3 (W.map encRun), .arr true false false 2 [encBk (0, W)], .arr true false false 1 ((putBk (0, W)).map encB)])
  else [.box [.ptr 1 0, .own 3 (L.length + 1) 2 0 (L.length + 1), nilS], .box [.lit (.int .i64 most), .own 5 (blksB L ++ putBk (totB L, W)).length 1 0 (blksB L ++ putBk (totB L, W)).length, nilS, .lit (.bool false)], .arr true false fa 1 ((blksB L).map encB), .arr true fz false 2 (L.map encBk ++ [encBk (totB L, W)]), .arr true true false 3 (W.map encRun), .arr true false false 1 ((blksB L ++ putBk (totB L, W)).map encB)]
end Go.AM.R1
open Go Go.AM
namespace Go.AM.R1

/-! ### Few of a list -/
theorem fewRow_loop (l : List RowV) (nl fu : Bool) (i : Nat) (hi : i < l.length) (hr : l[i].l.length ≤ 12) (rest : List Item) (R : Bool → Option (AVal × Heap))
    (hk : ∀ τ, lk 0 τ = .imm nl fu true (l.map encRow) → lk 3 τ = .lit (.int .i64 i) → finK 0 [.tmp 2] (run E 0 rest τ []) = R true) (hf : R false = some (.lit (.bool false), [])) :
    ∀ (d j : Nat), j + d = l[i].l.length →
    finK 0 [.tmp 2] (run E 0 (.code L17_1 :: .inLoop [1000000, 0, 3, 4] L17_1 :: .inBlock 2 :: rest) [(0, .imm nl fu true (l.map encRow)), (3, .lit (.int .i64 i)), (4, .lit (.int .i64 j))] []) = R ((l[i].l.drop j).all fun x => decide (x.N ≤ 1000000)) := by
  intro d
  induction d with
  | zero =>
    intro j hj
    have : j = l[i].l.length := by omega
    subst this
    simp [go_sem, run_codeL E L17_1.eq_1, hi, List.getElem?_eq_getElem hi, encRow]
    exact hk _ rfl rfl
  | succ d ih =>
    intro j hj
    have hlt : j < l[i].l.length := by omega
    have wi := wrapIdx (i := j) (by omega)
    rw [List.drop_eq_getElem_cons hlt, List.all_cons]
    by_cases h : l[i].l[j].N ≤ 1000000
    · have h' : ¬ 1000000 < l[i].l[j].N := by omega
      have ih2 := ih (j + 1) (by omega)
      rw [decide_eq_true h, Bool.true_and]
      simp [go_sem, run_codeL E L17_1.eq_1, hi, List.getElem?_eq_getElem hi, hlt, List.getElem?_eq_getElem hlt, encRun, encRow, h', wi, purse_eq]
      rw [run_inLoop']
      simp [go_sem, purse_eq]
      simpa [encRow] using ih2
    · have h' : 1000000 < l[i].l[j].N := by omega
      rw [decide_eq_false h, Bool.false_and, hf]
      simp [go_sem, run_codeL E L17_1.eq_1, hi, List.getElem?_eq_getElem hi, hlt, List.getElem?_eq_getElem hlt, encRun, encRow, h', purse_eq]
def fewA (l : List RowV) : Bool := decide (l.length ≤ 40) && l.all fun r => fewR r.l
theorem fewA_loop (l : List RowV) (nl fu : Bool) :
    ∀ (d i : Nat), i + d = min l.length 41 →
    finK 0 [.tmp 2] (run E 0 [.code L17_0, .inLoop [1000000, 0, 3] L17_0, .inBlock 0, .code (.seq (.reg [⟨none, some 42, .copy (.t 0)⟩, ⟨none, some 43, .len (.t 42)⟩, ⟨none, some 44, .bin .leq (.t 43) (.c (.lit (.int .i64 40)))⟩, ⟨none, some 2, .copy (.t 44)⟩] [] []) .ret)] [(0, .imm nl fu true (l.map encRow)), (3, .lit (.int .i64 i))] [])
      = some (.lit (.bool (decide (l.length ≤ 40) && (l.drop i).all fun r => fewR r.l)), []) := by
  intro d
  induction d with
  | zero =>
    intro i hi
    have hle : ¬ (i < l.length ∧ i < 41) := by omega
    by_cases h40 : l.length ≤ 40
    · have : i = l.length := by omega
      subst this
      simp [go_sem, run_codeL E L17_0.eq_1, h40]
      omega
    · have : i = 41 := by omega
      subst this
      have h1 : (41 : Int) < (l.length : Int) ∨ (l.length : Int) = 41 := by omega
      have h40' : ¬ (l.length : Int) ≤ 40 := by omega
      by_cases h2 : (41 : Int) < (l.length : Int)
      · simp [go_sem, run_codeL E L17_0.eq_1, h2, h40, h40']
      · simp [go_sem, run_codeL E L17_0.eq_1, h2, h40, h40']
  | succ d ih =>
    intro i hi
    have hlt : i < l.length := by omega
    have hlt' : (i : Int) < 41 := by omega
    have hlt2 : i < 41 := by omega
    have wi := wrapIdx (i := i) (by omega)
    have ih2 := ih (i + 1) (by omega)
    rw [List.drop_eq_getElem_cons hlt, List.all_cons]
    by_cases hl : l[i].l.length ≤ 12
    · have hl' : ¬ (12 : Int) < (l[i].l.length : Int) := by omega
      have hl2 : ¬ 12 < l[i].l.length := by omega
      have hf : fewR l[i].l = (l[i].l.drop 0).all fun x => decide (x.N ≤ 1000000) := by simp [fewR, hl]
      rw [hf]
      simp [go_sem, run_codeL E L17_0.eq_1, hlt, hlt', hlt2, List.getElem?_eq_getElem hlt, encRow, hl', hl2, purse_eq]
      rw [run_inLoop']
      simp [go_sem, purse_eq]
      have h := fun rest hk => fewRow_loop l nl fu i hlt hl rest (fun b => some (.lit (.bool (decide (l.length ≤ 40) && (b && (l.drop (i + 1)).all fun r => fewR r.l))), [])) hk (by simp) l[i].l.length 0 (by omega)
      simp [encRow] at h ih2
      refine h _ ?_
      intro τ t0 t3
      simp [go_sem, t0, t3, wi, purse_eq]
      rw [run_inLoop']
      simp [go_sem, purse_eq, t0]
      exact ih2
    · have hl' : (12 : Int) < (l[i].l.length : Int) := by omega
      have hl2 : 12 < l[i].l.length := by omega
      have hf : fewR l[i].l = false := by simp [fewR, hl]
      rw [hf]
      simp [go_sem, run_codeL E L17_0.eq_1, hlt, hlt', hlt2, List.getElem?_eq_getElem hlt, encRow, hl', hl2, purse_eq]
theorem fewA_spec (l : List RowV) (nl fu : Bool) : call E (.func (.func 17) [] []) [.imm nl fu true (l.map encRow)] [] = some (.lit (.bool (fewA l)), []) := by
  rw [call_func E E17]
  have h := fewA_loop l nl fu (min l.length 41) 0 (by omega)
  simp at h
  simp [go_sem, ir17, purse_eq]
  rw [run_inLoop']
  simp [go_sem, purse_eq]
  exact h
end Go.AM.R1
open Go Go.AM
namespace Go.AM.R1

/-! ### What an act does -/
theorem gdoes0 (fo ff lw lq : Bool) (L) (hfo : fo = false → L = []) (sure most) (nl fu : Bool) : call E (.func (.func 22) [] []) [.ptr 0 0, .agg [.imm nl fu true []]] (lS fo ff lw lq L [] sure most false)
    = some (.lit (.int .i64 0), lS fo ff lw lq L [] (blksB L).length most false) := by
  rw [call_func E E22]
  have h := gflush0 fo ff lw lq L hfo sure most false
  simp only [Bool.false_eq_true, if_false] at h
  by_cases hL : L = []
  · cases fo <;> simp [lS, hL, fileB, nilS] at h <;> simp [go_sem, ir22, lS, hL, h, fileB, nilS, purse_eq, List.range_succ]
  · have := foT hfo hL
    subst this
    simp [lS, hL, fileB, nilS] at h
    simp [go_sem, ir22, lS, hL, h, fileB, nilS, purse_eq, List.range_succ]
theorem gdoesF (fo ff lw lq : Bool) (L W) (hfo : fo = false → L = []) (hW : W ≠ []) (hc : chkB (totB L) W = 0) (hj : joined [] W = W) (hd : ∀ r ∈ W, 0 ≤ r.Drive ∧ r.Drive ≤ 4294967295) (ht : 0 ≤ totB L ∧ totB L ≤ 1073741824)
    (hg : L ≠ [] → chk (allR L) = 0 ∧ (joined [] (allR L)).length ≤ 500000 ∧ joined [] (allR L) ≠ [] ∧ L.length ≤ 500000) (hb : (blksB L).length ≤ 900000) (sure : Nat) (most : Int) (hm : 0 ≤ most ∧ most ≤ 67108864) (nl fu : Bool) :
    call E (.func (.func 22) [] []) [.ptr 0 0, .agg [.imm nl fu true []]] (lS fo ff lw lq L W sure most false)
      = some (if most < ((blksB L).length : Int) + (putBk (totB L, W)).length then (.lit (.int .i64 15), lS fo ff lw true L W sure most false) else (.lit (.int .i64 0), flH fo lw L W most)) := by
  rw [call_func E E22]
  have h := gflush fo ff lw lq L W hfo hW hc hj hd ht hg hb sure most hm false
  simp only [Bool.false_eq_true, if_false] at h
  by_cases h4 : most < ((blksB L).length : Int) + (putBk (totB L, W)).length
  · simp only [h4, if_true] at h ⊢
    by_cases hL : L = []
    · cases fo <;> simp [lS, hL, hW, fileB, nilS] at h <;> simp [go_sem, ir22, lS, hL, hW, h, fileB, nilS, purse_eq, List.range_succ]
    · have := foT hfo hL
      subst this
      simp [lS, hL, hW, fileB, nilS] at h
      simp [go_sem, ir22, lS, hL, hW, h, fileB, nilS, purse_eq, List.range_succ]
  · simp only [h4, if_false] at h ⊢
    by_cases hL : L = []
    · subst hL
      cases fo <;> simp [lS, flH, hW, fileB, nilS] at h <;> simp [go_sem, ir22, lS, flH, hW, h, fileB, nilS, purse_eq, List.range_succ]
    · have := foT hfo hL
      subst this
      simp [lS, flH, hL, hW, fileB, nilS] at h
      simp [go_sem, ir22, lS, flH, hL, hW, h, fileB, nilS, purse_eq, List.range_succ]
theorem gdoesA (fo ff lw lq : Bool) (L) (W r : List Run) (hr : r ≠ []) (hfo : fo = false → L = []) (hlL : L.length ≤ 1000000) (hlW : W.length ≤ 4096) (hcW : chk W = 0) (ht : 0 ≤ totB L ∧ totB L ≤ 1073741824) (hlr : r.length ≤ 900000) (hok : ∀ x ∈ r, x.Ok) (sure most) (nl fu : Bool) :
    call E (.func (.func 22) [] []) [.ptr 0 0, .agg [.imm nl fu true (r.map encRun)]] (lS fo ff lw lq L W sure most false)
      = some (.lit (.int .i64 (appE L W r)), if chk r ≠ 0 then lS fo ff lw lq L W sure most false else if appE L W r ≠ 0 then lS fo ff lw true L W sure most false else if W = [] then lS fo ff lw false L (joined [] (W ++ r)) sure most false else lSJ fo ff lw L W (joined [] (W ++ r)) sure most false) := by
  rw [call_func E E22]
  have h := gappend fo ff lw lq L W r hfo hlL hlW hcW ht hlr hok sure most false nl fu
  have hJ : chk r = 0 → joined [] (W ++ r) ≠ [] := fun hc => joined_ne (fun x hx => ((sum_joined hcW hc).2 x hx).1) (by simp [hr])
  have hp : r.length ≠ 0 := fun q => hr (List.length_eq_zero_iff.1 q)
  by_cases hc : chk r = 0
  · have hJ := hJ hc
    by_cases ha : appE L W r = 0
    · generalize appE L W r = a at h ha ⊢
      subst ha
      by_cases hW : W = []
      · simp only [hc, hW, ne_eq, not_true_eq_false, if_false, if_true] at h hJ ⊢
        generalize joined [] ([] ++ r) = Q at *
        by_cases hL : L = []
        · cases fo <;> simp [lS, hL, hJ, fileB, nilS] at h <;> simp [go_sem, ir22, lS, hL, hJ, hr, hp, h, fileB, nilS, purse_eq, List.range_succ]
        · have := foT hfo hL
          subst this
          simp [lS, hL, hJ, fileB, nilS] at h
          simp [go_sem, ir22, lS, hL, hJ, hr, hp, h, fileB, nilS, purse_eq, List.range_succ]
      · simp only [hc, hW, ne_eq, not_true_eq_false, if_false, if_true] at h hJ ⊢
        generalize joined [] (W ++ r) = Q at *
        by_cases hL : L = []
        · cases fo <;> simp [lS, lSJ, hL, hW, hJ, fileB, nilS] at h <;> simp [go_sem, ir22, lS, lSJ, hL, hW, hJ, hr, hp, h, fileB, nilS, purse_eq, List.range_succ]
        · have := foT hfo hL
          subst this
          simp [lS, lSJ, hL, hW, hJ, fileB, nilS] at h
          simp [go_sem, ir22, lS, lSJ, hL, hW, hJ, hr, hp, h, fileB, nilS, purse_eq, List.range_succ]
    · generalize appE L W r = a at *
      simp only [hc, ha, ne_eq, not_true_eq_false, not_false_eq_true, if_false, if_true] at h ⊢
      by_cases hL : L = []
      · by_cases hW : W = []
        · cases fo <;> simp [lS, hL, hW, fileB, nilS] at h <;> simp [go_sem, ir22, lS, hL, hW, hr, hp, h, fileB, nilS, purse_eq, List.range_succ]
        · cases fo <;> simp [lS, hL, hW, fileB, nilS] at h <;> simp [go_sem, ir22, lS, hL, hW, hr, hp, h, fileB, nilS, purse_eq, List.range_succ]
      · have := foT hfo hL
        subst this
        by_cases hW : W = []
        · simp [lS, hL, hW, fileB, nilS] at h
          simp [go_sem, ir22, lS, hL, hW, hr, hp, h, fileB, nilS, purse_eq, List.range_succ]
        · simp [lS, hL, hW, fileB, nilS] at h
          simp [go_sem, ir22, lS, hL, hW, hr, hp, h, fileB, nilS, purse_eq, List.range_succ]
  · generalize appE L W r = a at *
    simp only [hc, ne_eq, not_true_eq_false, not_false_eq_true, if_false, if_true] at h ⊢
    by_cases hL : L = []
    · by_cases hW : W = []
      · cases fo <;> simp [lS, hL, hW, fileB, nilS] at h <;> simp [go_sem, ir22, lS, hL, hW, hr, hp, h, fileB, nilS, purse_eq, List.range_succ]
      · cases fo <;> simp [lS, hL, hW, fileB, nilS] at h <;> simp [go_sem, ir22, lS, hL, hW, hr, hp, h, fileB, nilS, purse_eq, List.range_succ]
    · have := foT hfo hL
      subst this
      by_cases hW : W = []
      · simp [lS, hL, hW, fileB, nilS] at h
        simp [go_sem, ir22, lS, hL, hW, hr, hp, h, fileB, nilS, purse_eq, List.range_succ]
      · simp [lS, hL, hW, fileB, nilS] at h
        simp [go_sem, ir22, lS, hL, hW, hr, hp, h, fileB, nilS, purse_eq, List.range_succ]
end Go.AM.R1
open Go Go.AM
namespace Go.AM.R1

/-! ### What holds at each act -/
structure FInv (most : Int) (i : Nat) (L : List Bk) (W : List Run) : Prop where
  good : Good 0 L
  ck : chk W = 0
  jo : joined [] W = W
  dr : ∀ r ∈ W, 0 ≤ r.Drive ∧ r.Drive ≤ 4294967295
  ln : W.length ≤ 12 * i
  su : totB L + sumN W ≤ 12000000 * i
  bs : ((blksB L).length : Int) ≤ most
theorem FInv.tot {most i L W} (h : FInv most i L W) : 0 ≤ totB L ∧ totB L ≤ 1073741824 := by
  have := good_tot L 0 (by omega) (by omega) h.good
  omega
theorem FInv.sum {most i L W} (h : FInv most i L W) : 0 ≤ sumN W ∧ sumN W ≤ 1073741824 := (chk_right h.ck).2
theorem FInv.pos {most i L W} (h : FInv most i L W) (hW : W ≠ []) : 0 < sumN W := by
  cases W with
  | nil => exact absurd rfl hW
  | cons x xs =>
    have h1 := (chk_right h.ck).1 x (by simp)
    have h4 := expand_length xs (fun y hy => by have := (chk_right h.ck).1 y (by simp [hy]); omega)
    rw [show sumN (x :: xs) = x.N + sumN xs from rfl]
    omega
theorem FInv.chkB {most i L W} (h : FInv most i L W) (hi : i ≤ 85) (hW : W ≠ []) : chkB (totB L) W = 0 := by
  have h1 := h.tot
  have h2 := h.sum
  have h3 := h.ln
  have h4 := h.su
  have hdup : dup W = false := tidy_dup17 (chk_all h.ck) (by have := tidy_joined W [] ⟨by simp, by simp⟩; rwa [h.jo] at this)
  unfold R1.chkB
  rw [if_neg (by omega), if_neg hW, if_neg (by omega), if_neg (by simp [h.ck]), if_neg (by simp [hdup]), if_neg (by omega)]
theorem FInv.succ {most i L W} (h : FInv most i L W) : FInv most (i + 1) L W := by
  have h3 := h.ln
  have h4 := h.su
  exact ⟨h.good, h.ck, h.jo, h.dr, by omega, by omega, h.bs⟩
theorem FInv.flush {most i L W} (h : FInv most i L W) (hi : i ≤ 85) (hW : W ≠ []) (hm : ¬ most < ((blksB L).length : Int) + (putBk (totB L, W)).length) : FInv most (i + 1) (L ++ [(totB L, W)]) [] := by
  have h4 := h.su
  have hc := h.chkB hi hW
  refine ⟨(good_append L _ 0).2 ⟨h.good, ?_⟩, rfl, rfl, by simp, by simp, ?_, ?_⟩
  · simp only [Int.zero_add]
    exact ⟨rfl, hc, h.dr, trivial⟩
  · rw [totB_append]
    simp [totB, sumN]
    omega
  · rw [blksB_append, List.length_append]
    rw [show blksB [(totB L, W)] = putBk (totB L, W) from by simp [blksB]]
    omega
theorem FInv.app {most i L W} (h : FInv most i L W) (hi : i < 85) {r : List Run} (hr : chk r = 0) (hl : r.length ≤ 12) (hn : ∀ x ∈ r, x.N ≤ 1000000) (hf : ∀ x ∈ r, x.Fit) : FInv most (i + 1) L (joined [] (W ++ r)) ∧ appE L W r = 0 := by
  have h3 := h.ln
  have h4 := h.su
  obtain ⟨h5, h6⟩ := sum_joined h.ck hr
  have hps := posSum_le r 1000000 (by omega) hn
  have hpr := posSum_of_right r (fun x hx => by have := h6 x (by simp [hx]); omega)
  have hjl := joined_length (W ++ r) []
  simp at hjl
  have hsr := (chk_right hr).2
  have hsw := h.sum
  have ht := h.tot
  have hc : chk (W ++ r) = 0 := by
    unfold chk
    rw [if_pos (by rw [List.all_append, chk_all_right h.ck, chk_all_right hr]; rfl), if_neg (by rw [sumN_append]; omega)]
  refine ⟨⟨h.good, (joined_chk hc).1, joined_self _, joined_drive ?_, by omega, by omega, h.bs⟩, ?_⟩
  · intro x hx
    rcases List.mem_append.1 hx with q | q
    · exact h.dr x q
    · exact (hf x q).2.2
  · unfold appE
    rw [if_neg (by simp [hr]), if_neg (by omega)]
theorem good_byte : ∀ (l : List Bk) (t : Int), Good t l → ∀ c ∈ blksB l, c < 256
  | [], _, _ => by simp [blksB]
  | x :: l, t, g => by
    intro c hc
    rw [blksB_cons] at hc
    rcases List.mem_append.1 hc with h | h
    · obtain ⟨h1, h2, h3, h4, h5, h6⟩ := chkB_ok g.2.1
      have hn := nums_bytes g.2.1
      exact wholeB_byte (numsN x.1 x.2) (fun n hn => by have := nums_lt h1 h3 (chk_right h4).1 n hn; omega) (by omega) c h
    · exact good_byte l _ g.2.2.2 c h
theorem chk_not15 (r : List Run) : chk r ≠ 15 := by
  unfold chk
  split
  · split <;> omega
  · omega
end Go.AM.R1
open Go Go.AM
namespace Go.AM.R1
/-! ### What was appended, and what there is -/
theorem joined_of_expand {l m : List Run} (h : expand l = expand m) : joined [] l = joined [] m := by
  rw [← joined_expand l, ← joined_expand m, h]
structure BInv (i : Nat) (L : List Bk) (W A : List Run) : Prop where
  fi : FInv 100000 i L W
  nb : (blksB L).length ≤ 20 * L.length + 10 * (allR L).length
  nl : L.length ≤ i
  nr : (allR L).length + W.length ≤ 12 * i
  ca : chk A = 0
  la : A.length ≤ 12 * i
  ex : expand A = expand (allR L ++ W)
  su : sumN A = totB L + sumN W
theorem BInv.succ {i L W A} (h : BInv i L W A) : BInv (i + 1) L W A := by
  obtain ⟨h1, h2, h3, h4, h5, h6, h7, h8⟩ := h
  exact ⟨h1.succ, h2, by omega, by omega, h5, by omega, h7, h8⟩
theorem putBk_len10 {x : Bk} (h : chkB x.1 x.2 = 0) : (putBk x).length ≤ 20 + 10 * x.2.length := by
  obtain ⟨h1, h2, h3, h4, h5, h6⟩ := chkB_ok h
  have := bytes_len5 (numsN x.1 x.2) (nums_lt h1 h3 (chk_right h4).1)
  have e : (numsN x.1 x.2).length = 2 * x.2.length + 2 := by simp only [numsN, List.length_cons, runN_length]
  have h7 := whole_len (numsN x.1 x.2)
  have h8 := putN_len64 (n := (bytesN (numsN x.1 x.2)).length) (by omega)
  have hp : (putN (bytesN (numsN x.1 x.2)).length).length ≤ 6 := by
    have := putN_length 4 (bytesN (numsN x.1 x.2)).length (by omega)
    omega
  rw [show putBk x = wholeB (numsN x.1 x.2) from rfl]
  omega
theorem BInv.room {i L W A} (h : BInv i L W A) (hi : i ≤ 85) (hW : W ≠ []) : ¬ (100000 : Int) < ((blksB L).length : Int) + (putBk (totB L, W)).length := by
  have h1 := putBk_len10 (x := (totB L, W)) (h.fi.chkB hi hW)
  have h2 := h.nb
  have h3 := h.nl
  have h4 := h.nr
  simp only [] at h1
  omega
theorem BInv.flush {i L W A} (h : BInv i L W A) (hi : i ≤ 85) (hW : W ≠ []) : BInv (i + 1) (L ++ [(totB L, W)]) [] A := by
  have h1 := putBk_len10 (x := (totB L, W)) (h.fi.chkB hi hW)
  have h2 := h.nb
  have h3 := h.nl
  have h4 := h.nr
  have h6 := h.la
  have e : allR (L ++ [(totB L, W)]) = allR L ++ W := by simp [allR]
  refine ⟨h.fi.flush hi hW (h.room hi hW), ?_, by simp; omega, ?_, h.ca, by omega, ?_, ?_⟩
  · rw [e, blksB_append, List.length_append, List.length_append, List.length_append, show blksB [(totB L, W)] = putBk (totB L, W) from by simp [blksB]]
    simp only [List.length_cons, List.length_nil] at *
    omega
  · rw [e]; simp; omega
  · rw [e, List.append_nil]; exact h.ex
  · rw [totB_append, h.su]; simp [totB, sumN]
theorem BInv.app {i L W A} (h : BInv i L W A) (hi : i < 85) {r : List Run} (hr : chk r = 0) (hl : r.length ≤ 12) (hn : ∀ x ∈ r, x.N ≤ 1000000) (hf : ∀ x ∈ r, x.Fit) : BInv (i + 1) L (joined [] (W ++ r)) (A ++ r) ∧ appE L W r = 0 := by
  obtain ⟨f1, f2⟩ := h.fi.app hi hr hl hn hf
  have h3 := h.nl
  have h4 := h.nr
  have h6 := h.la
  have hsu := h.su
  have hfs := f1.su
  obtain ⟨h5, h5'⟩ := sum_joined h.fi.ck hr
  have hjl := joined_length (W ++ r) []
  simp at hjl
  have ht := h.fi.tot
  have hc : chk (W ++ r) = 0 := by
    unfold chk
    rw [if_pos (by rw [List.all_append, chk_all_right h.fi.ck, chk_all_right hr]; rfl), if_neg (by rw [sumN_append]; omega)]
  refine ⟨⟨f1, h.nb, by omega, by omega, ?_, by simp; omega, ?_, ?_⟩, f2⟩
  · unfold chk
    rw [if_pos (by rw [List.all_append, chk_all_right h.ca, chk_all_right hr]; rfl), if_neg (by rw [sumN_append]; omega)]
  · rw [expand_append, h.ex, expand_append, expand_append, (joined_chk hc).2.2, expand_append, List.append_assoc]
  · rw [sumN_append]; omega
end Go.AM.R1
open Go Go.AM
namespace Go.AM.R1
def lG (ff lw lq : Bool) (L : List Bk) (W : List Run) (most : Int) : Heap := if L = [] then lS false false false lq [] W 0 most false else lS true ff lw lq L W (blksB L).length most false
def ixP (L : List Bk) (W : List Run) : Nat := if L = [] then (if W = [] then 2 else 3) else (if W = [] then 5 else 6)
/-- The document's log from a place of the heap on. -/
def rSn (n : Nat) (so fa fz lq : Bool) (L : List Bk) (W : List Run) (most : Int) : Heap :=
  if L = [] then
    (if so = false then (if W = [] then [.box [.ptr (n + 1) 0, nilS, nilS], .box [.lit (.int .i64 most), nilS, nilS, .lit (.bool false)]] else [.box [.ptr (n + 1) 0, nilS, .own (n + 2) W.length 3 0 W.length], .box [.lit (.int .i64 most), nilS, nilS, .lit (.bool false)], .arr true lq false 3 (W.map encRun)])
     else (if W = [] then [.box [.ptr (n + 1) 0, nilS, nilS], .box [.lit (.int .i64 most), .own (n + 2) 0 1 0 0, nilS, .lit (.bool false)], .arr true false fa 1 []] else [.box [.ptr (n + 1) 0, nilS, .own (n + 3) W.length 3 0 W.length], .box [.lit (.int .i64 most), .own (n + 2) 0 1 0 0, nilS, .lit (.bool false)], .arr true false fa 1 [], .arr true lq false 3 (W.map encRun)]))
  else (if W = [] then [.box [.ptr (n + 1) 0, .own (n + 3) L.length 2 0 L.length, nilS], .box [.lit (.int .i64 most), .own (n + 2) (blksB L).length 1 0 (blksB L).length, nilS, .lit (.bool false)], .arr true false fa 1 ((blksB L).map encB), .arr true fz false 2 (L.map encBk)]
    else [.box [.ptr (n + 1) 0, .own (n + 3) L.length 2 0 L.length, .own (n + 4) W.length 3 0 W.length], .box [.lit (.int .i64 most), .own (n + 2) (blksB L).length 1 0 (blksB L).length, nilS, .lit (.bool false)], .arr true false fa 1 ((blksB L).map encB), .arr true fz false 2 (L.map encBk), .arr true lq false 3 (W.map encRun)])
end Go.AM.R1
