/- The law SeekFinds of package magnetolaw18 returns true for every input, and its arguments read as before. -/
import Derived.Test.YtppdlldajaihbaaSeekFinds1
import Derived.Laws.Strings
import Derived.ProofKit
set_option linter.unusedVariables false
set_option linter.unusedSimpArgs false
open Go Go.AM
namespace Go.AM.R1

/-! ### Numbers, got -/
def getGo (i acc : Nat) : List Nat → Nat × Nat × Int
  | [] => (0, 0, 13)
  | x :: r => if i = 9 ∧ 1 < x then (0, 0, 10) else if x = 0 ∧ 0 < i then (0, 0, 11) else if x < 128 then (acc + x % 128 * 128 ^ i, i + 1, 0) else getGo (i + 1) (acc + x % 128 * 128 ^ i) r
def getN (b : List Nat) : Nat × Nat × Int := getGo 0 0 b
theorem iand_127 (x : Nat) (h : x < 256) : iand .u8 (x : Int) 127 = ((x % 128 : Nat) : Int) := by
  have e : (BitVec.ofInt 8 (x : Int) &&& BitVec.ofInt 8 127).toNat = x % 128 := by
    rw [BitVec.toNat_and, BitVec.toNat_ofInt, BitVec.toNat_ofInt]
    have h1 : ((x : Int) % ((2 ^ 8 : Nat) : Int)).toNat = x := by simp; omega
    have h2 : ((127 : Int) % ((2 ^ 8 : Nat) : Int)).toNat = 127 := by decide
    rw [h1, h2, show 127 = 2 ^ 7 - 1 from rfl, Nat.and_two_pow_sub_one_eq_mod]
  unfold iand
  show IntKind.wrap .u8 ((BitVec.ofInt 8 (x : Int) &&& BitVec.ofInt 8 127).toNat : Int) = _
  rw [e, wrap8]
  omega
theorem ior_add {i acc m : Nat} (h : acc < 2 ^ i) (h2 : acc + m * 2 ^ i < 18446744073709551616) : ior .u64 (acc : Int) ((m * 2 ^ i : Nat) : Int) = ((acc + m * 2 ^ i : Nat) : Int) := by
  have e : (BitVec.ofInt 64 (acc : Int) ||| BitVec.ofInt 64 ((m * 2 ^ i : Nat) : Int)).toNat = acc + m * 2 ^ i := by
    rw [BitVec.toNat_or, BitVec.ofInt_natCast, BitVec.ofInt_natCast, BitVec.toNat_ofNat, BitVec.toNat_ofNat, Nat.mod_eq_of_lt (by omega), Nat.mod_eq_of_lt (by omega)]
    have := Nat.shiftLeft_add_eq_or_of_lt h m
    rw [Nat.shiftLeft_eq] at this
    rw [Nat.or_comm, ← this]; omega
  unfold ior
  show IntKind.wrap .u64 ((BitVec.ofInt 64 (acc : Int) ||| BitVec.ofInt 64 ((m * 2 ^ i : Nat) : Int)).toNat : Int) = _
  rw [e, wrap_u64 h2]
theorem pow128 (i : Nat) : (128 : Nat) ^ i = 2 ^ (7 * i) := by rw [Nat.pow_mul]
theorem get_bound {i acc x : Nat} (h9 : i ≤ 9) (ha : acc < 128 ^ i) (hx : i = 9 → x ≤ 1) : acc + x % 128 * 128 ^ i < 18446744073709551616 := by
  have hm : x % 128 ≤ 127 := by omega
  rcases Nat.lt_or_ge i 9 with h | h
  · have h2 : x % 128 * 128 ^ i ≤ 127 * 128 ^ i := Nat.mul_le_mul_right _ hm
    have h3 : 128 ^ i ≤ 128 ^ 8 := Nat.pow_le_pow_right (by omega) (by omega)
    omega
  · have : i = 9 := by omega
    subst this
    have h2 : x % 128 * 128 ^ 9 ≤ 1 * 128 ^ 9 := Nat.mul_le_mul_right _ (by have := hx rfl; omega)
    omega
theorem get_next {i acc x : Nat} (ha : acc < 128 ^ i) : acc + x % 128 * 128 ^ i < 128 ^ (i + 1) := by
  have hm : x % 128 ≤ 127 := by omega
  have h2 : x % 128 * 128 ^ i ≤ 127 * 128 ^ i := Nat.mul_le_mul_right _ hm
  rw [Nat.pow_succ]
  omega
theorem vget_loop (b : List Nat) (hb : ∀ c ∈ b, c < 256) (hl : b.length ≤ 1099511627775) (nl fu : Bool) (k : List Item) (R : Nat × Nat × Int → Option (AVal × Heap))
    (hk : ∀ (n kk : Nat) (e : Int) τ, lk 5 τ = .lit (.int .u64 (n : Nat)) → lk 6 τ = .lit (.int .i64 e) → lk 7 τ = .lit (.int .i64 (kk : Nat)) → finK 0 [.tmp 2, .tmp 3, .tmp 4] (run E 0 k τ []) = R (if e = 0 then (n, kk, 0) else (0, 0, e))) :
    ∀ (d i acc : Nat), i + d = b.length → i ≤ 9 → acc < 128 ^ i →
   finK 0 [.tmp 2, .tmp 3, .tmp 4] (run E 0 (.code L127_0 :: .inLoop [5, 6, 7, 10, 11, 12] L127_0 :: .inBlock 0 :: k)
     [(5, .lit (.int .u64 acc)), (6, .lit (.int .i64 13)), (7, .lit (.int .i64 0)), (10, .imm nl fu true (b.map encB)), (11, .lit (.int .i64 b.length)), (12, .lit (.int .i64 i))] []) = R (getGo i acc (b.drop i)) := by
  intro d
  induction d with
  | zero =>
    intro i acc hi h9 ha
    have : i = b.length := by omega
    subst this
    simp [go_sem, run_codeL E L127_0.eq_1, getGo]
    exact hk acc 0 13 _ rfl rfl rfl
  | succ d ih =>
    intro i acc hi h9 ha
    have hlt : i < b.length := by omega
    have hx := hb _ (List.getElem_mem hlt)
    have w2 := wrapIdx (i := i) (by omega)
    rw [List.drop_eq_getElem_cons hlt, getGo]
    by_cases c1 : i = 9 ∧ 1 < b[i]
    · rw [if_pos c1]
      obtain ⟨rfl, c1b⟩ := c1
      have c1c : (1 : Int) < (b[9] : Nat) := by omega
      have hlt' : (9 : Int) < b.length := by omega
      simp [go_sem, run_codeL E L127_0.eq_1, hlt, hlt', List.getElem?_eq_getElem hlt, encB, c1c]
      have hk' := hk acc 0 10
      simp at hk'
      exact hk' _ rfl rfl rfl
    · rw [if_neg c1]
      have c1' : ¬ ((i : Int) = 9 ∧ (1 : Int) < (b[i] : Nat)) := by omega
      by_cases c2 : b[i] = 0 ∧ 0 < i
      · rw [if_pos c2]
        obtain ⟨c2a, c2b⟩ := c2
        have hk' := hk acc 0 11
        simp at hk'
        by_cases c3 : i = 9
        · subst c3
          have hlt' : (9 : Int) < b.length := by omega
          simp [go_sem, run_codeL E L127_0.eq_1, hlt, hlt', List.getElem?_eq_getElem hlt, encB, c2a]
          exact hk' _ rfl rfl rfl
        · have c3' : ¬ (i : Int) = 9 := by omega
          simp [go_sem, run_codeL E L127_0.eq_1, hlt, List.getElem?_eq_getElem hlt, encB, c2a, c2b, c3']
          exact hk' _ rfl rfl rfl
      · rw [if_neg c2]
        have hbd := get_bound (x := b[i]) h9 ha (by omega)
        have hnx := get_next (x := b[i]) ha
        have e1 := iand_127 b[i] hx
        have e2 : IntKind.wrap .u64 ((b[i] % 128 : Nat) : Int) = ((b[i] % 128 : Nat) : Int) := wrap_u64 (by omega)
        have e3 : IntKind.wrap .i64 (7 * (i : Int)) = ((7 * i : Nat) : Int) := by rw [wrap64 (by omega) (by omega)]; omega
        have e4 : min (7 * i) 64 = 7 * i := by omega
        rw [pow128] at hbd hnx ha ⊢
        have e5 : IntKind.wrap .u64 (((b[i] % 128 : Nat) : Int) * 2 ^ (7 * i)) = ((b[i] % 128 * 2 ^ (7 * i) : Nat) : Int) := by
          rw [show ((b[i] % 128 : Nat) : Int) * 2 ^ (7 * i) = ((b[i] % 128 * 2 ^ (7 * i) : Nat) : Int) from by simp, wrap_u64 (by omega)]
        have e6 := ior_add (m := b[i] % 128) ha hbd
        have hsh : ¬ ((7 * i : Nat) : Int) < 0 := by omega
        rw [show ((7 * i : Nat) : Int) = 7 * (i : Int) from by omega] at e3 hsh
        have e7 : (7 * (i : Int)).toNat = 7 * i := by omega
        by_cases c3 : i = 9
        · subst c3
          have hx1 : b[9] = 1 := by omega
          have hlt' : (9 : Int) < b.length := by omega
          rw [hx1] at hbd e6 ⊢
          have f1 : iand .u8 1 127 = 1 := by decide
          have f2 : IntKind.wrap .u64 1 = 1 := by decide
          have f3 : IntKind.wrap .i64 63 = 63 := by decide
          have f4 : IntKind.wrap .u64 9223372036854775808 = 9223372036854775808 := by decide
          have f5 : IntKind.wrap .i64 10 = 10 := by decide
          have hk' := hk (acc + 9223372036854775808) 10 0
          simp at e6 hk'
          simp [go_sem, run_codeL E L127_0.eq_1, hlt, hlt', List.getElem?_eq_getElem hlt, encB, hx1, f1, f2, f3, f4, f5, e6]
          exact hk' _ rfl rfl rfl
        · have c3' : ¬ (i : Int) = 9 := by omega
          by_cases c4 : b[i] = 0
          · have hi0 : i = 0 := by omega
            subst hi0
            have ha0 : acc = 0 := by simp at ha; omega
            subst ha0
            have hlt' : (0 : Int) < b.length := by omega
            have f1 : iand .u8 0 127 = 0 := by decide
            have f2 : IntKind.wrap .u64 0 = 0 := by decide
            have f3 : IntKind.wrap .i64 0 = 0 := by decide
            have f5 : IntKind.wrap .i64 1 = 1 := by decide
            have f6 : ior .u64 0 0 = 0 := by decide
            have hk' := hk 0 1 0
            simp at hk'
            rw [c4]
            simp [go_sem, run_codeL E L127_0.eq_1, hlt, hlt', List.getElem?_eq_getElem hlt, encB, c4, f1, f2, f3, f5, f6]
            exact hk' _ rfl rfl rfl
          · have c4' : ¬ ((b[i] : Nat) : Int) = 0 := by omega
            by_cases c5 : b[i] < 128
            · rw [if_pos c5]
              have c5' : ((b[i] : Nat) : Int) < 128 := by omega
              simp only [Int.natCast_emod] at e1 e2 e5 e6
              simp at e1 e2 e3 e5 e6 w2
              simp [go_sem, run_codeL E L127_0.eq_1, hlt, List.getElem?_eq_getElem hlt, encB, c3', c4, c4', c5, c5', w2, e1, e2, e3, e4, e5, e6, e7, hsh]
              have hk' := hk (acc + b[i] % 128 * 2 ^ (7 * i)) (i + 1) 0
              simp at hk'
              exact hk' _ rfl rfl rfl
            · rw [if_neg c5]
              have c5' : ¬ ((b[i] : Nat) : Int) < 128 := by omega
              have ih2 := ih (i + 1) (acc + b[i] % 128 * 2 ^ (7 * i)) (by omega) (by omega) (by rw [pow128] at hnx ⊢; exact hnx)
              simp only [Int.natCast_emod] at e1 e2 e5 e6
              simp at e1 e2 e3 e5 e6 w2 ih2
              simp [go_sem, run_codeL E L127_0.eq_1, hlt, List.getElem?_eq_getElem hlt, encB, c3', c4, c4', c5, c5', w2, e1, e2, e3, e4, e5, e6, e7, hsh]
              rw [run_inLoop']
              simp [go_sem, purse_eq]
              simpa [encB] using ih2

theorem vget_spec (b : List Nat) (hb : ∀ c ∈ b, c < 256) (hl : b.length ≤ 1099511627775) (nl fu : Bool) :
    call E (.func (.func 127) [] []) [.imm nl fu true (b.map encB)] [] = some (.tup [.lit (.int .u64 (getN b).1), .lit (.int .i64 (getN b).2.1), .lit (.int .i64 (getN b).2.2)], []) := by
  rw [call_func E E127]
  have h := vget_loop b hb hl nl fu [.code (.seq (.seq (.reg [⟨none, some 44, .copy (.t 6)⟩, ⟨none, some 45, .bin .neq (.t 44) (.c (.lit (.int .i64 0)))⟩] [] []) (.cond (.t 45) (.seq (.reg [⟨none, some 46, .copy (.t 6)⟩, ⟨none, some 2, .copy (.c (.lit (.int .u64 0)))⟩, ⟨none, some 3, .copy (.c (.lit (.int .i64 0)))⟩, ⟨none, some 4, .copy (.t 46)⟩] [] []) .ret) .skip)) (.seq (.reg [⟨none, some 47, .copy (.t 5)⟩, ⟨none, some 48, .copy (.t 7)⟩, ⟨none, some 2, .copy (.t 47)⟩, ⟨none, some 3, .copy (.t 48)⟩, ⟨none, some 4, .copy (.c (.lit (.int .i64 0)))⟩] [] []) .ret)), .inScope]
    (fun r => some (.tup [.lit (.int .u64 r.1), .lit (.int .i64 r.2.1), .lit (.int .i64 r.2.2)], [])) ?_ b.length 0 0 (by omega) (by omega) (by simp)
  · simp [go_sem, ir127]
    rw [run_inLoop']
    simp [go_sem, purse_eq]
    simpa [getN] using h
  · intro n kk e τ t5 t6 t7
    by_cases he : e = 0
    · subst he
      simp [go_sem, t5, t6, t7]
    · simp [go_sem, t5, t6, t7, he]
end Go.AM.R1
open Go Go.AM
namespace Go.AM.R1

theorem tmod128' (x : Nat) : ((x : Nat) : Int).tmod 128 = ((x % 128 : Nat) : Int) := by rw [Int.tmod_eq_emod_of_nonneg (by omega)]; omega
theorem rget_loop (b : List Nat) (hb : ∀ c ∈ b, c < 256) (hl : b.length ≤ 1099511627775) (nl fu : Bool) (k : List Item) (R : Nat × Nat × Int → Option (AVal × Heap))
    (hR : ∀ r, R r = some (.tup [.lit (.int .u64 r.1), .lit (.int .i64 r.2.1), .lit (.int .i64 r.2.2)], []))
    (hk : ∀ τ, finK 0 [.tmp 2, .tmp 3, .tmp 4] (run E 0 k τ []) = R (0, 0, 13)) :
    ∀ (d i acc : Nat), i + d = b.length → i ≤ 9 → acc < 128 ^ i →
   finK 0 [.tmp 2, .tmp 3, .tmp 4] (run E 0 (.code L149_0 :: .inLoop [0, 5, 6, 7] L149_0 :: .inBlock 0 :: k)
     [(0, .imm nl fu true (b.map encB)), (5, .lit (.int .u64 acc)), (6, .lit (.int .u64 ((128 ^ i : Nat) : Int))), (7, .lit (.int .i64 i))] []) = R (getGo i acc (b.drop i)) := by
  intro d
  induction d with
  | zero =>
    intro i acc hi h9 ha
    have : i = b.length := by omega
    subst this
    simp [go_sem, run_codeL E L149_0.eq_1, getGo]
    exact hk _
  | succ d ih =>
    intro i acc hi h9 ha
    have hlt : i < b.length := by omega
    have hx := hb _ (List.getElem_mem hlt)
    have w2 := wrapIdx (i := i) (by omega)
    rw [List.drop_eq_getElem_cons hlt, getGo]
    by_cases c1 : i = 9 ∧ 1 < b[i]
    · rw [if_pos c1, hR]
      obtain ⟨rfl, c1b⟩ := c1
      have c1c : (1 : Int) < (b[9] : Nat) := by omega
      have hlt' : (9 : Int) < b.length := by omega
      simp [go_sem, run_codeL E L149_0.eq_1, hlt, hlt', List.getElem?_eq_getElem hlt, encB, c1c]
    · rw [if_neg c1]
      by_cases c2 : b[i] = 0 ∧ 0 < i
      · rw [if_pos c2, hR]
        obtain ⟨c2a, c2b⟩ := c2
        by_cases c3 : i = 9
        · subst c3
          have hlt' : (9 : Int) < b.length := by omega
          simp [go_sem, run_codeL E L149_0.eq_1, hlt, hlt', List.getElem?_eq_getElem hlt, encB, c2a]
        · have c3' : ¬ (i : Int) = 9 := by omega
          simp [go_sem, run_codeL E L149_0.eq_1, hlt, List.getElem?_eq_getElem hlt, encB, c2a, c2b, c3']
      · rw [if_neg c2]
        have hbd := get_bound (x := b[i]) h9 ha (by omega)
        have hnx := get_next (x := b[i]) ha
        have e1 := tmod128' b[i]
        have e2 : IntKind.wrap .u64 ((b[i] % 128 : Nat) : Int) = ((b[i] % 128 : Nat) : Int) := wrap_u64 (by omega)
        have e3 : IntKind.wrap .u64 (((128 ^ i : Nat) : Int) * ((b[i] % 128 : Nat) : Int)) = ((b[i] % 128 * 128 ^ i : Nat) : Int) := by
          rw [show ((128 ^ i : Nat) : Int) * ((b[i] % 128 : Nat) : Int) = ((b[i] % 128 * 128 ^ i : Nat) : Int) from by rw [Nat.mul_comm]; simp, wrap_u64 (by omega)]
        have e4 : IntKind.wrap .u64 ((acc : Int) + ((b[i] % 128 * 128 ^ i : Nat) : Int)) = ((acc + b[i] % 128 * 128 ^ i : Nat) : Int) := by
          rw [show (acc : Int) + ((b[i] % 128 * 128 ^ i : Nat) : Int) = ((acc + b[i] % 128 * 128 ^ i : Nat) : Int) from by omega, wrap_u64 (by omega)]
        by_cases c3 : i = 9
        · subst c3
          have hx1 : b[9] = 1 := by omega
          have hlt' : (9 : Int) < b.length := by omega
          rw [hx1] at hbd e3 e4 ⊢
          have f2 : IntKind.wrap .u64 1 = 1 := by decide
          have f3 : IntKind.wrap .u64 1180591620717411303424 = 0 := by decide
          have f5 : IntKind.wrap .i64 10 = 10 := by decide
          have f6 : IntKind.wrap .u64 9223372036854775808 = 9223372036854775808 := by decide
          simp at e3 e4
          simp [hR, go_sem, run_codeL E L149_0.eq_1, hlt, hlt', List.getElem?_eq_getElem hlt, encB, hx1, f2, f3, f5, f6, e3, e4, show (1 : Int).tmod 128 = 1 from rfl]
        · have c3' : ¬ (i : Int) = 9 := by omega
          have hp : (128 : Nat) ^ (i + 1) ≤ 128 ^ 9 := Nat.pow_le_pow_right (by omega) (by omega)
          have e5 : IntKind.wrap .u64 (((128 ^ i : Nat) : Int) * 128) = ((128 ^ (i + 1) : Nat) : Int) := by
            rw [show ((128 ^ i : Nat) : Int) * 128 = ((128 ^ (i + 1) : Nat) : Int) from by rw [Nat.pow_succ]; simp, wrap_u64 (by omega)]
          by_cases c5 : b[i] < 128
          · rw [if_pos c5]
            have c5' : ((b[i] : Nat) : Int) < 128 := by omega
            by_cases c4 : b[i] = 0
            · have hi0 : i = 0 := by omega
              subst hi0
              have ha0 : acc = 0 := by simp at ha; omega
              subst ha0
              rw [c4] at e2 e3 e4 ⊢
              have hlt' : (0 : Int) < b.length := by omega
              have f5 : IntKind.wrap .i64 1 = 1 := by decide
              have f2 : IntKind.wrap .u64 128 = 128 := by decide
              simp at e2 e3 e4
              simp [hR, go_sem, run_codeL E L149_0.eq_1, hlt, hlt', List.getElem?_eq_getElem hlt, encB, c4, e2, e3, e4, f2, f5]
            · have c4' : ¬ ((b[i] : Nat) : Int) = 0 := by omega
              simp only [Int.natCast_emod] at e1 e2 e3 e4
              simp at e1 e2 e3 e4 e5 w2
              simp [hR, go_sem, run_codeL E L149_0.eq_1, hlt, List.getElem?_eq_getElem hlt, encB, c3', c4, c4', c5, c5', w2, e1, e2, e3, e4, e5]
          · rw [if_neg c5]
            have c5' : ¬ ((b[i] : Nat) : Int) < 128 := by omega
            have c4 : ¬ b[i] = 0 := by omega
            have c4' : ¬ ((b[i] : Nat) : Int) = 0 := by omega
            have ih2 := ih (i + 1) (acc + b[i] % 128 * 128 ^ i) (by omega) (by omega) hnx
            simp only [Int.natCast_emod] at e1 e2 e3 e4
            simp at e1 e2 e3 e4 e5 w2 ih2
            simp [go_sem, run_codeL E L149_0.eq_1, hlt, List.getElem?_eq_getElem hlt, encB, c3', c4, c4', c5, c5', w2, e1, e2, e3, e4, e5]
            rw [run_inLoop']
            simp [go_sem, purse_eq]
            simpa [encB] using ih2
theorem rget_spec (b : List Nat) (hb : ∀ c ∈ b, c < 256) (hl : b.length ≤ 1099511627775) (nl fu : Bool) :
    call E (.func (.func 149) [] []) [.imm nl fu true (b.map encB)] [] = some (.tup [.lit (.int .u64 (getN b).1), .lit (.int .i64 (getN b).2.1), .lit (.int .i64 (getN b).2.2)], []) := by
  rw [call_func E E149]
  have h := rget_loop b hb hl nl fu [.code (.seq (.reg [⟨none, some 2, .copy (.c (.lit (.int .u64 0)))⟩, ⟨none, some 3, .copy (.c (.lit (.int .i64 0)))⟩, ⟨none, some 4, .copy (.c (.lit (.int .i64 13)))⟩] [] []) .ret)]
    (fun r => some (.tup [.lit (.int .u64 r.1), .lit (.int .i64 r.2.1), .lit (.int .i64 r.2.2)], [])) (fun _ => rfl) (by intro τ; simp [go_sem]) b.length 0 0 (by omega) (by omega) (by simp)
  simp [go_sem, ir149]
  rw [run_inLoop']
  simp [go_sem, purse_eq]
  simpa [getN] using h
end Go.AM.R1
open Go Go.AM
namespace Go.AM.R1

/-! ### What is put is got, and what is got was put -/
theorem get_put_gen (r : List Nat) : ∀ (d m i acc : Nat), m < 128 ^ (d + 1) → i ≤ 9 → (i = 0 ∨ m ≠ 0) → acc + m * 128 ^ i < 18446744073709551616 → getGo i acc (putN m ++ r) = (acc + m * 128 ^ i, i + (putN m).length, 0)
  | 0, m, i, acc, hm, h9, h0, hb => by
    rw [putN_small (by omega)]
    simp only [List.cons_append, List.nil_append, getGo, List.length_cons, List.length_nil]
    have c1 : ¬ (i = 9 ∧ 1 < m) := by
      rintro ⟨rfl, h⟩
      have : 2 * 128 ^ 9 ≤ m * 128 ^ 9 := Nat.mul_le_mul_right _ h
      omega
    rw [if_neg c1, if_neg (by omega), if_pos (by omega), Nat.mod_eq_of_lt (by omega)]
  | d + 1, m, i, acc, hm, h9, h0, hb => by
    rcases Nat.lt_or_ge m 128 with h | h
    · exact get_put_gen r 0 m i acc (by omega) h9 h0 hb
    · rw [putN_big h]
      simp only [List.cons_append, getGo, List.length_cons]
      have hi : i < 9 := by
        rcases Nat.lt_or_ge i 9 with h2 | h2
        · exact h2
        · have : i = 9 := by omega
          subst this
          have : 128 * 128 ^ 9 ≤ m * 128 ^ 9 := Nat.mul_le_mul_right _ h
          omega
      rw [if_neg (by omega), if_neg (by omega), if_neg (by omega)]
      have e : acc + (m % 128 + 128) % 128 * 128 ^ i + m / 128 * 128 ^ (i + 1) = acc + m * 128 ^ i := by
        rw [Nat.pow_succ, show (m % 128 + 128) % 128 = m % 128 from by omega]
        have h1 : m / 128 * (128 ^ i * 128) = (128 * (m / 128)) * 128 ^ i := by
          rw [Nat.mul_comm (128 ^ i) 128, ← Nat.mul_assoc, Nat.mul_comm (m / 128) 128]
        rw [h1, Nat.add_assoc, ← Nat.add_mul, Nat.mod_add_div]
      have ih := get_put_gen r d (m / 128) (i + 1) (acc + (m % 128 + 128) % 128 * 128 ^ i) (by rw [Nat.pow_succ] at hm; omega) (by omega) (.inr (by omega)) (by rw [e]; exact hb)
      rw [ih, e]
      congr 2; omega
theorem get_put {n : Nat} (h : n < 18446744073709551616) (r : List Nat) : getN (putN n ++ r) = (n, (putN n).length, 0) := by
  have := get_put_gen r 9 n 0 0 (by omega) (by omega) (.inl rfl) (by simpa using h)
  simpa [getN] using this
theorem put_get_gen : ∀ (b : List Nat) (i acc n k : Nat), (∀ c ∈ b, c < 256) → i ≤ 9 → acc < 128 ^ i → getGo i acc b = (n, k, 0) →
    ∃ m, b = putN m ++ b.drop (k - i) ∧ n = acc + m * 128 ^ i ∧ k = i + (putN m).length ∧ (0 < i → m ≠ 0) ∧ n < 18446744073709551616
  | [], i, acc, n, k, _, _, _, h => by simp [getGo] at h
  | x :: r, i, acc, n, k, hb, h9, ha, h => by
    have hx := hb x (by simp)
    rw [getGo] at h
    split at h
    · simp at h
    · rename_i c1
      split at h
      · simp at h
      · rename_i c2
        have hbd := get_bound (x := x) h9 ha (by omega)
        split at h
        · rename_i c3
          simp only [Prod.mk.injEq] at h
          obtain ⟨h1, h2, -⟩ := h
          refine ⟨x, ?_, ?_, ?_, ?_, ?_⟩
          · rw [putN_small c3, ← h2, show i + 1 - i = 1 from by omega]; rfl
          · rw [← h1, Nat.mod_eq_of_lt c3]
          · rw [putN_small c3, ← h2]; rfl
          · omega
          · rw [← h1]; exact hbd
        · rename_i c3
          have hi : i < 9 := by omega
          obtain ⟨m, e1, e2, e3, e4, e5⟩ := put_get_gen r (i + 1) _ n k (fun c hc => hb c (by simp [hc])) (by omega) (get_next ha) h
          have hm := e4 (by omega)
          have hk : i + 1 ≤ k := by omega
          refine ⟨x % 128 + m * 128, ?_, ?_, ?_, ?_, e5⟩
          · rw [putN_big (by omega), show (x % 128 + m * 128) % 128 + 128 = x from by omega, show (x % 128 + m * 128) / 128 = m from by omega, show k - i = (k - (i + 1)) + 1 from by omega]
            simp only [List.cons_append, List.drop_succ_cons]
            rw [← e1]
          · rw [e2, Nat.pow_succ, Nat.add_mul, Nat.mul_assoc m 128, Nat.mul_comm 128 (128 ^ i)]; omega
          · rw [putN_big (by omega), show (x % 128 + m * 128) / 128 = m from by omega, List.length_cons]; omega
          · omega
theorem put_get {b : List Nat} {n k : Nat} (hb : ∀ c ∈ b, c < 256) (h : getN b = (n, k, 0)) : b = putN n ++ b.drop k ∧ k = (putN n).length ∧ n < 18446744073709551616 := by
  obtain ⟨m, e1, e2, e3, -, e5⟩ := put_get_gen b 0 0 n k hb (by omega) (by simp) h
  simp at e2 e3 e1
  subst e2
  exact ⟨by simpa using e1, e3, e5⟩
theorem getGo_bad : ∀ (b : List Nat) (i acc : Nat), (getGo i acc b).2.2 ≠ 0 → (getGo i acc b).1 = 0 ∧ (getGo i acc b).2.1 = 0
  | [], _, _, _ => ⟨rfl, rfl⟩
  | x :: r, i, acc, h => by
    rw [getGo] at h ⊢
    split
    · exact ⟨rfl, rfl⟩
    · rename_i c1
      rw [if_neg c1] at h
      split
      · exact ⟨rfl, rfl⟩
      · rename_i c2
        rw [if_neg c2] at h
        split
        · rename_i c3
          rw [if_pos c3] at h; simp at h
        · rename_i c3
          rw [if_neg c3] at h
          exact getGo_bad r _ _ h
/-- The numbers of bytes. -/
def allGo : Nat → List Nat → Nat → List Nat → List Nat × Nat × Int
  | 0, _, _, acc => (acc, 0, 0)
  | d + 1, b, p, acc => if b.length ≤ p then (acc, 0, 0) else if (getN (b.drop p)).2.2 = 0 then allGo d b (p + (getN (b.drop p)).2.1) (acc ++ [(getN (b.drop p)).1]) else ([], p, (getN (b.drop p)).2.2)
def allN (b : List Nat) : List Nat × Nat × Int := allGo b.length b 0 []
theorem get_ok {b : List Nat} (hb : ∀ c ∈ b, c < 256) (h : (getN b).2.2 = 0) : b = putN (getN b).1 ++ b.drop (getN b).2.1 ∧ (getN b).2.1 = (putN (getN b).1).length ∧ (getN b).1 < 18446744073709551616 :=
  put_get hb (by rw [← h])
theorem all_ok : ∀ (d : Nat) (b : List Nat) (p : Nat) (acc l : List Nat) (q : Nat), (∀ c ∈ b, c < 256) → b.length ≤ p + d → allGo d b p acc = (l, q, 0) → ∃ l', l = acc ++ l' ∧ b.drop p = bytesN l' ∧ (∀ n ∈ l', n < 18446744073709551616) ∧ q = 0
  | 0, b, p, acc, l, q, hb, hd, h => by
    simp only [allGo, Prod.mk.injEq] at h
    exact ⟨[], by simp [h.1], by rw [List.drop_eq_nil_of_le (by omega)]; rfl, by simp, h.2.1.symm⟩
  | d + 1, b, p, acc, l, q, hb, hd, h => by
    rw [allGo] at h
    split at h
    · simp only [Prod.mk.injEq] at h
      exact ⟨[], by simp [h.1], by rw [List.drop_eq_nil_of_le (by omega)]; rfl, by simp, h.2.1.symm⟩
    · split at h
      · rename_i h1 h2
        obtain ⟨e1, e2, e3⟩ := get_ok (fun c hc => hb c (List.mem_of_mem_drop hc)) h2
        have hpos := List.length_pos_iff.2 (putN_pos (getN (b.drop p)).1)
        obtain ⟨l', f1, f2, f3, f4⟩ := all_ok d b _ _ l q hb (by omega) h
        refine ⟨(getN (b.drop p)).1 :: l', by rw [f1]; simp, ?_, ?_, f4⟩
        · rw [show bytesN ((getN (b.drop p)).1 :: l') = putN (getN (b.drop p)).1 ++ bytesN l' from rfl, ← f2, ← List.drop_drop]
          exact e1
        · intro n hn
          rcases List.mem_cons.1 hn with rfl | hn
          · exact e3
          · exact f3 n hn
      · rename_i h1 h2
        simp only [Prod.mk.injEq] at h
        exact absurd h.2.2 h2
theorem all_bytes : ∀ (l' : List Nat) (d : Nat) (b : List Nat) (p : Nat) (acc : List Nat), b.drop p = bytesN l' → (∀ n ∈ l', n < 18446744073709551616) → b.length ≤ p + d → allGo d b p acc = (acc ++ l', 0, 0)
  | [], d, b, p, acc, h, _, hd => by
    have hl : b.length ≤ p := by
      have := congrArg List.length h
      simp [bytesN] at this; omega
    cases d with
    | zero => simp [allGo]
    | succ d => rw [allGo, if_pos hl]; simp
  | n :: l', d, b, p, acc, h, hn, hd => by
    have h' : b.drop p = putN n ++ bytesN l' := h
    have hg := get_put (hn n (by simp)) (bytesN l')
    rw [← h'] at hg
    have hpos := List.length_pos_iff.2 (putN_pos n)
    have hlen := congrArg List.length h'
    simp at hlen
    cases d with
    | zero => omega
    | succ d =>
      rw [allGo, if_neg (by omega), hg, if_pos rfl]
      rw [all_bytes l' d b (p + (putN n).length) (acc ++ [n]) (by rw [← List.drop_drop, h', List.drop_left]) (fun m hm => hn m (by simp [hm])) (by omega)]
      simp
theorem bytesN_inj {l m : List Nat} (hl : ∀ n ∈ l, n < 18446744073709551616) (hm : ∀ n ∈ m, n < 18446744073709551616) (h : bytesN l = bytesN m) : l = m := by
  have h1 := all_bytes l (bytesN l).length (bytesN l) 0 [] rfl hl (by omega)
  have h2 := all_bytes m (bytesN l).length (bytesN l) 0 [] (by simpa using h) hm (by omega)
  rw [h1] at h2
  simpa using h2
end Go.AM.R1
open Go Go.AM
namespace Go.AM.R1

theorem take_allB (b : List Nat) : List.take b.length (List.map encB b) = List.map encB b := List.take_of_length_le (by simp)
theorem bytesOf_map : ∀ l : List Nat, bytesOf (l.map encB) = some (l.map UInt8.ofNat)
  | [] => rfl
  | c :: l => by
    rw [List.map_cons, encB, bytesOf, bytesOf_map l]
    simp
theorem ofNat_inj {a b : Nat} (ha : a < 256) (hb : b < 256) (h : UInt8.ofNat a = UInt8.ofNat b) : a = b := by
  have := congrArg UInt8.toNat h
  simp at this
  omega
theorem map_ofNat_inj : ∀ {l m : List Nat}, (∀ c ∈ l, c < 256) → (∀ c ∈ m, c < 256) → l.map UInt8.ofNat = m.map UInt8.ofNat → l = m
  | [], [], _, _, _ => rfl
  | [], _ :: _, _, _, h => by simp at h
  | _ :: _, [], _, _, h => by simp at h
  | a :: l, b :: m, hl, hm, h => by
    simp only [List.map_cons, List.cons.injEq] at h
    rw [ofNat_inj (hl a (by simp)) (hm b (by simp)) h.1, map_ofNat_inj (fun c hc => hl c (by simp [hc])) (fun c hc => hm c (by simp [hc])) h.2]
theorem equal_spec (l m : List Nat) (hl : ∀ c ∈ l, c < 256) (hm : ∀ c ∈ m, c < 256) (nl fu nl' fu' : Bool) :
    call E (.func (.func 86) [] []) [.imm nl fu true (l.map encB), .imm nl' fu' true (m.map encB)] [] = some (.lit (.bool (decide (l = m))), []) := by
  rw [call_func E E86]
  have e : (l.map UInt8.ofNat == m.map UInt8.ofNat) = decide (l = m) := by
    by_cases h : l = m
    · subst h; simp
    · rw [decide_eq_false h, beq_eq_false_iff_ne]
      exact fun e => h (map_ofNat_inj hl hm e)
  simp [go_sem, ir86, bytesOf_map, e]

theorem tail_length' (s : Nat) : (tailN s).length = 4 := rfl
theorem tail_byte (s : Nat) : ∀ c ∈ tailN s, c < 256 := by
  intro c hc
  simp [tailN] at hc
  omega
/-- Is there a sum behind, that is right? -/
def openE (b : List Nat) : Int := if b.length < 4 then 13 else if b.drop (b.length - 4) = tailN (crc (b.take (b.length - 4))).toNat then 0 else 18
theorem open_spec (b : List Nat) (hb : ∀ c ∈ b, c < 256) (hl : b.length ≤ 1099511627775) (fu : Bool) :
    call E (.func (.func 24) [] []) [.imm false fu true (b.map encB)] []
      = some (if openE b = 0 then (.tup [.own 0 (b.length - 4) 1 0 (b.length - 4), .lit (.int .i64 0)], [.arr true false (b.take (b.length - 4)).isEmpty 1 ((b.take (b.length - 4)).map encB)])
        else (.tup [nilS, .lit (.int .i64 (openE b))], [])) := by
  rw [call_func E E24]
  by_cases h4 : b.length < 4
  · have e : openE b = 13 := by unfold openE; rw [if_pos h4]
    have w : IntKind.wrap .i64 ((b.length : Int) - 4) = (b.length : Int) - 4 := wrap64 (by omega) (by omega)
    have hneg : (b.length : Int) - 4 < 0 := by omega
    simp [go_sem, ir24, e, w, hneg]
  · have w : IntKind.wrap .i64 ((b.length : Int) - 4) = ((b.length - 4 : Nat) : Int) := by rw [wrap64 (by omega) (by omega)]; omega
    have hS := sum_spec (b.take (b.length - 4)) (fun c hc => hb c (List.mem_of_mem_take hc)) (by simp; omega) false (fu && decide (b.length - 4 = b.length))
    have hT := tail_spec (crc (b.take (b.length - 4))).toNat
    have hE := equal_spec (b.drop (b.length - 4)) (tailN (crc (b.take (b.length - 4))).toNat) (fun c hc => hb c (List.mem_of_mem_drop hc)) (tail_byte _) false fu false false
    have hC := clone_spec (b.take (b.length - 4)) (fu && decide (b.length - 4 = b.length)) (by simp; omega)
    have htl : (tailN (crc (b.take (b.length - 4))).toNat).length = 4 := rfl
    have hlt : (b.take (b.length - 4)).length = b.length - 4 := by simp
    have e : openE b = if b.drop (b.length - 4) = tailN (crc (b.take (b.length - 4))).toNat then 0 else 18 := by unfold openE; rw [if_neg h4]
    rw [hlt] at hC
    generalize tailN (crc (b.take (b.length - 4))).toNat = T at hT hE htl e
    rw [List.map_take] at hS hC
    rw [List.map_drop] at hE
    rw [List.map_take]
    have hk : b.length - 4 ≤ b.length := by omega
    have hr := rowsB b
    generalize hkk : b.length - 4 = kk at *
    have hneg : ¬ (kk : Int) < 0 := by omega
    by_cases hq : b.drop kk = T
    · rw [if_pos hq] at e
      rw [decide_eq_true hq] at hE
      simp [go_sem, ir24, e, w, hneg, hk, hr, take_allB, hS, hT, hE, hC, htl, purse_eq]
    · rw [if_neg hq] at e
      rw [decide_eq_false hq] at hE
      simp [go_sem, ir24, e, w, hneg, hk, hr, take_allB, hS, hT, hE, htl, purse_eq]

theorem seal_take (b : List Nat) (h : ¬ b.length < 4) : openE b = 0 ↔ sealB (b.take (b.length - 4)) = b := by
  unfold openE sealB
  rw [if_neg h]
  constructor
  · intro e
    split at e
    · rename_i hq
      rw [← hq, List.take_append_drop]
    · omega
  · intro e
    rw [if_pos]
    have h2 := congrArg (List.drop (b.length - 4)) e
    rw [List.drop_append] at h2
    have hlt : (b.take (b.length - 4)).length = b.length - 4 := by simp
    rw [hlt, Nat.sub_self, List.drop_zero, List.drop_eq_nil_of_le (by omega), List.nil_append] at h2
    exact h2.symm
theorem sealB_length (l : List Nat) : (sealB l).length = l.length + 4 := by simp [sealB, tail_length']
theorem ropen_loop (b w : List Nat) (hlen : w.length = b.length) (hl : b.length ≤ 1099511627775) (nl fu fu2 : Bool) (k : List Item) (R : Bool → Option (AVal × Heap))
    (hk : ∀ τ, lk 0 τ = .imm nl fu true (b.map encB) → finK 0 [.tmp 2, .tmp 3] (run E 0 k τ [.arr true false fu2 1 (w.map encB)]) = R true) (hf : R false = some (.tup [nilS, .lit (.int .i64 18)], [])) :
    ∀ (d i : Nat), i + d = b.length →
   finK 0 [.tmp 2, .tmp 3] (run E 0 (.code L148_0 :: .inLoop [0, 4, 5] L148_0 :: .inBlock 0 :: k) [(0, .imm nl fu true (b.map encB)), (4, .own 0 w.length 1 0 w.length), (5, .lit (.int .i64 i))] [.arr true false fu2 1 (w.map encB)])
   = R (decide (w.drop i = b.drop i)) := by
  intro d
  induction d with
  | zero =>
    intro i hi
    rw [List.drop_eq_nil_of_le (by omega), List.drop_eq_nil_of_le (by omega)]
    have : ¬ i < w.length := by omega
    simp [go_sem, run_codeL E L148_0.eq_1, this]
    exact hk _ rfl
  | succ d ih =>
    intro i hi
    have hlt : i < w.length := by omega
    have hlt' : i < b.length := by omega
    have w2 := wrapIdx (i := i) (by omega)
    rw [List.drop_eq_getElem_cons hlt, List.drop_eq_getElem_cons hlt']
    by_cases h : w[i] = b[i]
    · rw [decide_eq_decide.2 (show (w[i] :: w.drop (i + 1) = b[i] :: b.drop (i + 1)) ↔ w.drop (i + 1) = b.drop (i + 1) from ⟨fun e => (List.cons.inj e).2, fun e => by rw [h, e]⟩)]
      simp [go_sem, run_codeL E L148_0.eq_1, hlt, hlt', List.getElem?_eq_getElem hlt, List.getElem?_eq_getElem hlt', encB, h, w2]
      rw [run_inLoop']
      simp [go_sem, purse_eq]
      have := ih (i + 1) (by omega)
      simpa [encB] using this
    · have h' : ¬ ((w[i] : Nat) : Int) = (b[i] : Nat) := by omega
      rw [decide_eq_false (show ¬ (w[i] :: w.drop (i + 1) = b[i] :: b.drop (i + 1)) from fun e => h (List.cons.inj e).1), hf]
      simp [go_sem, h', run_codeL E L148_0.eq_1, hlt, hlt', List.getElem?_eq_getElem hlt, List.getElem?_eq_getElem hlt', encB, h, w2, purse_eq]
theorem ropen_spec (b : List Nat) (hb : ∀ c ∈ b, c < 256) (hl : b.length ≤ 1099511627775) (nl fu : Bool) :
    call E (.func (.func 148) [] []) [.imm nl fu true (b.map encB)] []
      = some (if openE b = 0 then (.tup [.imm nl (fu && decide (b.length - 4 = b.length)) true ((b.take (b.length - 4)).map encB), .lit (.int .i64 0)], [])
        else (.tup [nilS, .lit (.int .i64 (openE b))], [])) := by
  rw [call_func E E148]
  by_cases h4 : b.length < 4
  · have e : openE b = 13 := by unfold openE; rw [if_pos h4]
    have h4' : (b.length : Int) < 4 := by omega
    simp [go_sem, ir148, e, h4']
  · have h4' : ¬ (b.length : Int) < 4 := by omega
    have w : IntKind.wrap .i64 ((b.length : Int) - 4) = ((b.length - 4 : Nat) : Int) := by rw [wrap64 (by omega) (by omega)]; omega
    have hS := rseal_spec (b.take (b.length - 4)) (fun c hc => hb c (List.mem_of_mem_take hc)) nl (fu && decide (b.length - 4 = b.length)) (by simp; omega)
    have hst := seal_take b h4
    have hsl := sealB_length (b.take (b.length - 4))
    have hlt : (b.take (b.length - 4)).length = b.length - 4 := by simp
    have e : openE b = 0 ∨ openE b = 18 := by unfold openE; rw [if_neg h4]; split <;> simp
    generalize sealB (b.take (b.length - 4)) = W at hS hst hsl
    rw [List.map_take] at hS ⊢
    have hk : b.length - 4 ≤ b.length := by omega
    have hr := rowsB b
    have hlp := ropen_loop b W (by omega) hl nl fu false [.code (.seq (.reg [⟨none, some 30, .copy (.t 0)⟩, ⟨none, some 31, .copy (.t 0)⟩, ⟨none, some 32, .len (.t 31)⟩, ⟨none, some 33, .bin .sub (.t 32) (.c (.lit (.int .i64 4)))⟩, ⟨none, some 34, .slice 1 (.t 30) none (some (.t 33)) none⟩, ⟨none, some 2, .copy (.t 34)⟩, ⟨none, some 3, .copy (.c (.lit (.int .i64 0)))⟩] [] []) .ret)]
      (fun q => some (if q = true then (.tup [.imm nl (fu && decide (b.length - 4 = b.length)) true (List.take (b.length - 4) (b.map encB)), .lit (.int .i64 0)], []) else (.tup [nilS, .lit (.int .i64 18)], []))) ?_ rfl b.length 0 (by omega)
    · simp [go_sem, ir148, w, h4', hk, hr, hS, purse_eq]
      rw [run_inLoop']
      simp [go_sem, purse_eq]
      rw [List.drop_zero, List.drop_zero] at hlp
      by_cases hq : W = b
      · rw [decide_eq_true hq] at hlp
        have e0 := hst.2 hq
        simp [e0]
        simpa [nilS] using hlp
      · rw [decide_eq_false hq] at hlp
        have e0 : openE b = 18 := e.resolve_left fun h => hq (hst.1 h)
        simp [e0]
        simpa [nilS] using hlp
    · intro τ t0
      simp [go_sem, t0, w, hk, hr]
end Go.AM.R1
open Go Go.AM
namespace Go.AM.R1

def sizeB (b : List Nat) : Int × Int := if (getN b).2.2 ≠ 0 then (0, (getN b).2.2) else if 65536 < (getN b).1 then (0, 12) else (((getN b).2.1 + (getN b).1 + 4 : Nat), 0)
theorem get_k_le {b : List Nat} (hb : ∀ c ∈ b, c < 256) (h : (getN b).2.2 = 0) : 1 ≤ (getN b).2.1 ∧ (getN b).2.1 ≤ 10 ∧ (getN b).2.1 ≤ b.length := by
  obtain ⟨e1, e2, e3⟩ := get_ok hb h
  have hpos := List.length_pos_iff.2 (putN_pos (getN b).1)
  have h10 := putN_len64 e3
  have hl := congrArg List.length e1
  simp at hl
  omega
theorem size_spec (b : List Nat) (hb : ∀ c ∈ b, c < 256) (hl : b.length ≤ 1099511627775) (nl fu : Bool) :
    call E (.func (.func 80) [] []) [.imm nl fu true (b.map encB)] [] = some (.tup [.lit (.int .i64 (sizeB b).1), .lit (.int .i64 (sizeB b).2)], []) := by
  rw [call_func E E80]
  have hG := vget_spec b hb hl nl fu
  unfold sizeB
  by_cases h : (getN b).2.2 = 0
  · have hk := get_k_le hb h
    rw [h] at hG
    by_cases h2 : 65536 < (getN b).1
    · have h2' : (65536 : Int) < ((getN b).1 : Nat) := by omega
      simp [go_sem, ir80, hG, h, h2, h2']
    · have h2' : ¬ (65536 : Int) < ((getN b).1 : Nat) := by omega
      have w0 : IntKind.wrap .i64 ((getN b).1 : Int) = ((getN b).1 : Int) := wrap64 (by omega) (by omega)
      have w1 : IntKind.wrap .i64 (((getN b).2.1 : Int) + ((getN b).1 : Int)) = ((getN b).2.1 : Int) + ((getN b).1 : Int) := wrap64 (by omega) (by omega)
      have w2 : IntKind.wrap .i64 (((getN b).2.1 : Int) + ((getN b).1 : Int) + 4) = ((getN b).2.1 : Int) + ((getN b).1 : Int) + 4 := wrap64 (by omega) (by omega)
      simp [go_sem, ir80, hG, h, h2, h2', w0, w1, w2]
  · simp [go_sem, ir80, hG, h]
theorem rsize_spec (b : List Nat) (hb : ∀ c ∈ b, c < 256) (hl : b.length ≤ 1099511627775) (nl fu : Bool) :
    call E (.func (.func 147) [] []) [.imm nl fu true (b.map encB)] [] = some (.tup [.lit (.int .i64 (sizeB b).1), .lit (.int .i64 (sizeB b).2)], []) := by
  rw [call_func E E147]
  have hG := rget_spec b hb hl nl fu
  unfold sizeB
  by_cases h : (getN b).2.2 = 0
  · have hk := get_k_le hb h
    rw [h] at hG
    by_cases h2 : 65536 < (getN b).1
    · have h2' : (65536 : Int) < ((getN b).1 : Nat) := by omega
      simp [go_sem, ir147, hG, h, h2, h2']
    · have h2' : ¬ (65536 : Int) < ((getN b).1 : Nat) := by omega
      have w0 : IntKind.wrap .i64 ((getN b).1 : Int) = ((getN b).1 : Int) := wrap64 (by omega) (by omega)
      have w1 : IntKind.wrap .i64 (((getN b).2.1 : Int) + ((getN b).1 : Int)) = ((getN b).2.1 : Int) + ((getN b).1 : Int) := wrap64 (by omega) (by omega)
      have w2 : IntKind.wrap .i64 (((getN b).2.1 : Int) + ((getN b).1 : Int) + 4) = ((getN b).2.1 : Int) + ((getN b).1 : Int) + 4 := wrap64 (by omega) (by omega)
      simp [go_sem, ir147, hG, h, h2, h2', w0, w1, w2]
  · simp [go_sem, ir147, hG, h]

/-! ### All numbers -/
theorem rall_loop (b : List Nat) (hb : ∀ c ∈ b, c < 256) (hl : b.length ≤ 1099511627) (nl fu : Bool) (k : List Item) (R : List Nat × Nat × Int → Option (AVal × Heap))
    (hk : ∀ acc τ, lk 5 τ = .own 0 acc.length 1 0 acc.length → finK 0 [.tmp 2, .tmp 3, .tmp 4] (run E 0 k τ [.arr true false acc.isEmpty 1 (acc.map encU)]) = R (acc, 0, 0))
    (hR : ∀ p e, e ≠ 0 → R ([], p, e) = some (.tup [nilS, .lit (.int .i64 (p : Nat)), .lit (.int .i64 e)], [])) :
    ∀ (d p : Nat) (acc : List Nat), b.length ≤ p + d → p ≤ b.length → acc.length ≤ p →
   finK 0 [.tmp 2, .tmp 3, .tmp 4] (run E 0 (.code L150_0 :: .inLoop [0, 5, 6] L150_0 :: .inBlock 0 :: k)
     [(0, .imm nl fu true (b.map encB)), (5, .own 0 acc.length 1 0 acc.length), (6, .lit (.int .i64 p))] [.arr true false acc.isEmpty 1 (acc.map encU)]) = R (allGo d b p acc) := by
  intro d
  induction d with
  | zero =>
    intro p acc hd hp ha
    have hnp : ¬ p < b.length := by omega
    rw [allGo]
    simp [go_sem, run_codeL E L150_0.eq_1, hnp]
    exact hk acc _ rfl
  | succ d ih =>
    intro p acc hd hp ha
    rw [allGo]
    by_cases hlt : p < b.length
    · rw [if_neg (by omega)]
      have hG := rget_spec (b.drop p) (fun c hc => hb c (List.mem_of_mem_drop hc)) (by simp; omega) nl fu
      rw [List.map_drop] at hG
      have hr := rowsB b
      by_cases h : (getN (b.drop p)).2.2 = 0
      · have hk2 := get_k_le (fun c hc => hb c (List.mem_of_mem_drop hc)) h
        simp at hk2
        rw [if_pos h]
        rw [h] at hG
        generalize getN (b.drop p) = g at *
        have w : IntKind.wrap .i64 ((p : Int) + (g.2.1 : Int)) = ((p + g.2.1 : Nat) : Int) := by rw [wrap64 (by omega) (by omega)]; omega
        have hb2 : ¬ (70368744177664 < (acc.length + 1) * 8) := by omega
        have ih2 := ih (p + g.2.1) (acc ++ [g.1]) (by omega) (by omega) (by simp; omega)
        simp [isEmpty_snoc, encU] at ih2 w
        simp [go_sem, run_codeL E L150_0.eq_1, hlt, hp, hr, take_allB, hG, w, hb2]
        rw [run_inLoop']
        simp [go_sem, purse_eq]
        simpa [encU] using ih2
      · rw [if_neg h, hR _ _ h]
        simp [go_sem, run_codeL E L150_0.eq_1, hlt, hp, hr, take_allB, hG, h]
    · rw [if_pos (by omega)]
      simp [go_sem, run_codeL E L150_0.eq_1, hlt]
      exact hk acc _ rfl
theorem rall_spec (b : List Nat) (hb : ∀ c ∈ b, c < 256) (hl : b.length ≤ 1099511627) (nl fu : Bool) :
    call E (.func (.func 150) [] []) [.imm nl fu true (b.map encB)] []
      = some (if (allN b).2.2 = 0 then (.tup [.own 0 (allN b).1.length 1 0 (allN b).1.length, .lit (.int .i64 0), .lit (.int .i64 0)], [.arr true false (allN b).1.isEmpty 1 ((allN b).1.map encU)])
        else (.tup [nilS, .lit (.int .i64 (allN b).2.1), .lit (.int .i64 (allN b).2.2)], [])) := by
  rw [call_func E E150]
  have h := rall_loop b hb hl nl fu [.code (.seq (.reg [⟨none, some 34, .copy (.t 5)⟩, ⟨none, some 2, .copy (.t 34)⟩, ⟨none, some 3, .copy (.c (.lit (.int .i64 0)))⟩, ⟨none, some 4, .copy (.c (.lit (.int .i64 0)))⟩] [] []) .ret)]
    (fun r => some (if r.2.2 = 0 then (.tup [.own 0 r.1.length 1 0 r.1.length, .lit (.int .i64 0), .lit (.int .i64 0)], [.arr true false r.1.isEmpty 1 (r.1.map encU)])
        else (.tup [nilS, .lit (.int .i64 r.2.1), .lit (.int .i64 r.2.2)], []))) ?_ (fun p e he => by simp [he]) b.length 0 [] (by omega) (by omega) (by simp)
  · rw [show allGo b.length b 0 [] = allN b from rfl] at h
    generalize allN b = g at h ⊢
    by_cases hz : g.2.2 = 0
    · simp [hz] at h
      simp [go_sem, ir150, purse_eq, hz]
      rw [run_inLoop']
      simp [go_sem, purse_eq]
      exact h
    · simp [hz] at h
      simp [go_sem, ir150, purse_eq, hz]
      rw [run_inLoop']
      simp [go_sem, purse_eq]
      exact h
  · intro acc τ t5
    simp [go_sem, t5, purse_eq]

/-- The heap that a round of All sees. -/
def alH (acc : List Nat) : Heap :=
  if acc = [] then [.loop 0 none [(2, .ptr 1 0), (3, .ptr 2 0), (4, .ptr 3 0), (5, .ptr 4 0)] [9] A155_0 B155_0, .box [nilS], .box [.lit (.int .i64 0)], .box [.lit (.int .i64 0)], .box [nilS]]
  else [.loop 0 none [(2, .ptr 1 0), (3, .ptr 2 0), (4, .ptr 3 0), (5, .ptr 4 0)] [9] A155_0 B155_0, .box [nilS], .box [.lit (.int .i64 0)], .box [.lit (.int .i64 0)], .box [.own 5 acc.length 1 0 acc.length], .arr true false false 1 (acc.map encU)]
def alF (acc : List Nat) (p : Nat) (e : Int) : Heap :=
  if acc = [] then [.loop 2 (some .ret) [(2, .ptr 1 0), (3, .ptr 2 0), (4, .ptr 3 0), (5, .ptr 4 0)] [9] A155_0 B155_0, .box [nilS], .box [.lit (.int .i64 p)], .box [.lit (.int .i64 e)], .box [nilS]]
  else [.loop 2 (some .ret) [(2, .ptr 1 0), (3, .ptr 2 0), (4, .ptr 3 0), (5, .ptr 4 0)] [9] A155_0 B155_0, .box [nilS], .box [.lit (.int .i64 p)], .box [.lit (.int .i64 e)], .box [.own 5 acc.length 1 0 acc.length], .arr true false false 1 (acc.map encU)]
theorem alY (acc : List Nat) (ha : acc.length ≤ 1099511627) (n p : Nat) :
    call E (.yld 0) [.agg [.lit (.int .u64 n), .lit (.int .i64 p), .lit (.int .i64 0)]] (alH acc) = some (.lit (.bool true), alH (acc ++ [n])) := by
  have hb : ¬ (70368744177664 < (acc.length + 1) * 8) := by omega
  by_cases h : acc = []
  · subst h
    simp [go_sem, alH, run_codeL E A155_0.eq_1, run_codeL E B155_0.eq_1, purse_eq, List.range_succ, encU]
  · simp [go_sem, alH, h, run_codeL E A155_0.eq_1, run_codeL E B155_0.eq_1, purse_eq, List.range_succ, encU, hb]
theorem alYe (acc : List Nat) (n p : Nat) (e : Int) (he : e ≠ 0) :
    call E (.yld 0) [.agg [.lit (.int .u64 n), .lit (.int .i64 p), .lit (.int .i64 e)]] (alH acc) = some (.lit (.bool false), alF acc p e) := by
  by_cases h : acc = []
  · subst h
    simp [go_sem, alH, alF, he, run_codeL E A155_0.eq_1, run_codeL E B155_0.eq_1, purse_eq, List.range_succ]
  · simp [go_sem, alH, alF, he, h, run_codeL E A155_0.eq_1, run_codeL E B155_0.eq_1, purse_eq, List.range_succ]
end Go.AM.R1
open Go Go.AM
namespace Go.AM.R1

def numH (nl fu : Bool) (b acc : List Nat) : Heap :=
  if acc = [] then [.box [.imm nl fu true (b.map encB)], .loop 0 none [(2, .ptr 2 0), (3, .ptr 3 0), (4, .ptr 4 0), (5, .ptr 5 0)] [9] A155_0 B155_0, .box [nilS], .box [.lit (.int .i64 0)], .box [.lit (.int .i64 0)], .box [nilS]]
  else [.box [.imm nl fu true (b.map encB)], .loop 0 none [(2, .ptr 2 0), (3, .ptr 3 0), (4, .ptr 4 0), (5, .ptr 5 0)] [9] A155_0 B155_0, .box [nilS], .box [.lit (.int .i64 0)], .box [.lit (.int .i64 0)], .box [.own 6 acc.length 1 0 acc.length], .arr true false false 1 (acc.map encU)]
def numF (nl fu : Bool) (b acc : List Nat) (p : Nat) (e : Int) : Heap :=
  if acc = [] then [.box [.imm nl fu true (b.map encB)], .loop 2 (some .ret) [(2, .ptr 2 0), (3, .ptr 3 0), (4, .ptr 4 0), (5, .ptr 5 0)] [9] A155_0 B155_0, .box [nilS], .box [.lit (.int .i64 p)], .box [.lit (.int .i64 e)], .box [nilS]]
  else [.box [.imm nl fu true (b.map encB)], .loop 2 (some .ret) [(2, .ptr 2 0), (3, .ptr 3 0), (4, .ptr 4 0), (5, .ptr 5 0)] [9] A155_0 B155_0, .box [nilS], .box [.lit (.int .i64 p)], .box [.lit (.int .i64 e)], .box [.own 6 acc.length 1 0 acc.length], .arr true false false 1 (acc.map encU)]
/-- What the walk through the numbers ends with: all, or the error at a place. -/
def numGo : Nat → List Nat → Nat → List Nat → List Nat × Nat × Int
  | 0, _, _, acc => (acc, 0, 0)
  | d + 1, b, p, acc => if b.length ≤ p then (acc, 0, 0) else if (getN (b.drop p)).2.2 = 0 then numGo d b (p + (getN (b.drop p)).2.1) (acc ++ [(getN (b.drop p)).1]) else (acc, p, (getN (b.drop p)).2.2)
theorem num_all : ∀ (d : Nat) (b : List Nat) (p : Nat) (acc : List Nat), allGo d b p acc = if (numGo d b p acc).2.2 = 0 then ((numGo d b p acc).1, 0, 0) else ([], (numGo d b p acc).2.1, (numGo d b p acc).2.2)
  | 0, b, p, acc => by simp [allGo, numGo]
  | d + 1, b, p, acc => by
    rw [allGo, numGo]
    by_cases h : b.length ≤ p
    · simp [h]
    · rw [if_neg h, if_neg h]
      by_cases h2 : (getN (b.drop p)).2.2 = 0
      · rw [if_pos h2, if_pos h2, num_all d]
      · rw [if_neg h2, if_neg h2]; simp [h2]
theorem num_loop (b : List Nat) (hb : ∀ c ∈ b, c < 256) (hl : b.length ≤ 1099511627) (nl fu : Bool) :
    ∀ (d p : Nat) (acc : List Nat), b.length ≤ p + d → p ≤ b.length → acc.length ≤ p →
   finK 6 [] (run E 6 [.code L176_0, .inLoop [0, 1, 3] L176_0, .inBlock 0]
     [(0, .yld 1), (1, .ptr 0 0), (3, .lit (.int .i64 p))] (numH nl fu b acc))
    = some (.tup [], if (numGo d b p acc).2.2 = 0 then numH nl fu b (numGo d b p acc).1 else numF nl fu b (numGo d b p acc).1 (numGo d b p acc).2.1 (numGo d b p acc).2.2) := by
  intro d
  induction d with
  | zero =>
    intro p acc hd hp ha
    have hnp : ¬ p < b.length := by omega
    rw [numGo]
    by_cases h : acc = []
    · subst h
      simp [go_sem, run_codeL E L176_0.eq_1, hnp, numH, List.range_succ, purse_eq]
    · simp [go_sem, run_codeL E L176_0.eq_1, hnp, numH, h, List.range_succ, purse_eq]
  | succ d ih =>
    intro p acc hd hp ha
    by_cases hlt : p < b.length
    · have hG := vget_spec (b.drop p) (fun c hc => hb c (List.mem_of_mem_drop hc)) (by simp; omega) nl fu
      rw [List.map_drop] at hG
      have hr := rowsB b
      by_cases h : (getN (b.drop p)).2.2 = 0
      · have hk2 := get_k_le (fun c hc => hb c (List.mem_of_mem_drop hc)) h
        simp at hk2
        have hn : numGo (d + 1) b p acc = numGo d b (p + (getN (b.drop p)).2.1) (acc ++ [(getN (b.drop p)).1]) := by
          rw [numGo, if_neg (show ¬ b.length ≤ p by omega), if_pos h]
        rw [hn]
        rw [h] at hG
        clear hn
        generalize getN (b.drop p) = g at *
        have w : IntKind.wrap .i64 ((p : Int) + (g.2.1 : Int)) = ((p + g.2.1 : Nat) : Int) := by rw [wrap64 (by omega) (by omega)]; omega
        have ih2 := ih (p + g.2.1) (acc ++ [g.1]) (by omega) (by omega) (by simp; omega)
        have hY := alY acc (by omega) g.1 p
        by_cases ha0 : acc = []
        · subst ha0
          simp [alH, nilS] at hY
          simp [numH, nilS] at ih2 w
          simp [go_sem, run_codeL E L176_0.eq_1, hlt, hp, hr, take_allB, hG, w, numH, purse_eq, hY]
          rw [run_inLoop']
          simp [go_sem, purse_eq, List.range_succ]
          simpa [numH, nilS] using ih2
        · simp [alH, ha0, nilS] at hY
          simp [numH, nilS] at ih2 w
          simp [go_sem, run_codeL E L176_0.eq_1, hlt, hp, hr, take_allB, hG, w, numH, ha0, purse_eq, hY]
          rw [run_inLoop']
          simp [go_sem, purse_eq, List.range_succ]
          simpa [numH, nilS] using ih2
      · have hn : numGo (d + 1) b p acc = (acc, p, (getN (b.drop p)).2.2) := by
          rw [numGo, if_neg (show ¬ b.length ≤ p by omega), if_neg h]
        rw [hn]
        clear hn
        have hY := alYe acc (getN (b.drop p)).1 p (getN (b.drop p)).2.2 h
        generalize getN (b.drop p) = g at *
        by_cases ha0 : acc = []
        · subst ha0
          simp [alH, alF, nilS] at hY
          simp [go_sem, run_codeL E L176_0.eq_1, hlt, hp, hr, take_allB, hG, h, numH, numF, purse_eq, hY, List.range_succ]
        · simp [alH, alF, ha0, nilS] at hY
          simp [go_sem, run_codeL E L176_0.eq_1, hlt, hp, hr, take_allB, hG, h, numH, numF, ha0, purse_eq, hY, List.range_succ]
    · have hn : numGo (d + 1) b p acc = (acc, 0, 0) := by rw [numGo, if_pos (show b.length ≤ p by omega)]
      rw [hn]
      by_cases h : acc = []
      · subst h
        simp [go_sem, run_codeL E L176_0.eq_1, hlt, numH, List.range_succ, purse_eq]
      · simp [go_sem, run_codeL E L176_0.eq_1, hlt, numH, h, List.range_succ, purse_eq]

theorem num_spec (b : List Nat) (hb : ∀ c ∈ b, c < 256) (hl : b.length ≤ 1099511627) (nl fu : Bool) :
    call E (.func (.func 176) [] [.ptr 0 0]) [.yld 1] (numH nl fu b [])
     = some (.tup [], if (numGo b.length b 0 []).2.2 = 0 then numH nl fu b (numGo b.length b 0 []).1 else numF nl fu b (numGo b.length b 0 []).1 (numGo b.length b 0 []).2.1 (numGo b.length b 0 []).2.2) := by
  rw [call_func E E176]
  have h := num_loop b hb hl nl fu b.length 0 [] (by omega) (by omega) (by simp)
  generalize (if (numGo b.length b 0 []).2.2 = 0 then numH nl fu b (numGo b.length b 0 []).1 else numF nl fu b (numGo b.length b 0 []).1 (numGo b.length b 0 []).2.1 (numGo b.length b 0 []).2.2) = F at h ⊢
  simp [numH, nilS] at h
  simp [go_sem, ir176, numH, purse_eq]
  rw [run_inLoop']
  simp [go_sem, purse_eq, List.range_succ]
  exact h
theorem numbers_spec (nl fu : Bool) (rows : List (List AVal)) : call E (.func (.func 170) [] []) [.imm nl fu true rows] [] = some (.func (.func 176) [] [.ptr 0 0], [.box [.imm nl fu true rows]]) := by
  rw [call_func E E170]
  simp [go_sem, ir170, purse_eq]
theorem all_spec (b : List Nat) (hb : ∀ c ∈ b, c < 256) (hl : b.length ≤ 1099511627) (nl fu : Bool) :
    call E (.func (.func 155) [] []) [.imm nl fu true (b.map encB)] []
      = some (if (allN b).2.2 = 0 then (if (allN b).1 = [] then (.tup [nilS, .lit (.int .i64 0), .lit (.int .i64 0)], []) else (.tup [.own 0 (allN b).1.length 1 0 (allN b).1.length, .lit (.int .i64 0), .lit (.int .i64 0)], [.arr true false false 1 ((allN b).1.map encU)]))
        else (.tup [nilS, .lit (.int .i64 (allN b).2.1), .lit (.int .i64 (allN b).2.2)], [])) := by
  rw [call_func E E155]
  have hN := num_spec b hb hl nl fu
  have hS := numbers_spec nl fu (b.map encB)
  have ha := num_all b.length b 0 []
  rw [show allGo b.length b 0 [] = allN b from rfl] at ha
  generalize numGo b.length b 0 [] = g at hN ha
  rw [ha]
  by_cases h : g.2.2 = 0
  · rw [if_pos h] at hN
    rw [if_pos h]
    by_cases h2 : g.1 = []
    · simp [numH, h2, nilS] at hN
      simp [go_sem, ir155, hS, hN, h2, purse_eq]
    · simp [numH, h2, nilS] at hN
      simp [go_sem, ir155, hS, hN, h2, purse_eq]
  · rw [if_neg h] at hN
    rw [if_neg h]
    by_cases h2 : g.1 = []
    · simp [numH, numF, h2, nilS] at hN
      simp [go_sem, ir155, hS, hN, h, h2, purse_eq]
    · simp [numH, numF, h2, nilS] at hN
      simp [go_sem, ir155, hS, hN, h, h2, purse_eq]
end Go.AM.R1
open Go Go.AM
namespace Go.AM.R1

/-! ### The block of numbers -/
def nextB (most : Nat) : List Nat × Bool → Nat × (List Nat × Bool)
  | ([], _) => (0, [], false)
  | (x :: r, q) => if most < x then (0, x :: r, false) else (x, r, q)
theorem nextB_le (most : Nat) (s : List Nat × Bool) : (nextB most s).1 ≤ most := by
  obtain ⟨l, q⟩ := s
  cases l with
  | nil => simp [nextB]
  | cons x r => rw [nextB]; split <;> simp; omega
theorem next_spec (most : Nat) (L : List Nat) (q nl fu : Bool) :
    call E (.func (.func 171) [] [.ptr 0 0, .ptr 1 0]) [.lit (.int .u64 most)] [.box [.imm nl fu true (L.map encU)], .box [.lit (.bool q)]]
      = some (.lit (.int .u64 (nextB most (L, q)).1), [.box [.imm nl fu true ((nextB most (L, q)).2.1.map encU)], .box [.lit (.bool (nextB most (L, q)).2.2)]]) := by
  rw [call_func E E171]
  cases L with
  | nil => simp [go_sem, ir171, nextB, purse_eq, List.range_succ]
  | cons x r =>
    have hr := rowsU r
    have htk : List.take r.length (List.map encU r) = List.map encU r := List.take_of_length_le (by simp)
    have hz : ¬ ((r.length : Int) + 1 = 0) := by omega
    by_cases h : most < x
    · have h' : (most : Int) < (x : Nat) := by omega
      simp [go_sem, ir171, nextB, purse_eq, List.range_succ, h, h', hz, encU]
    · have h' : ¬ (most : Int) < (x : Nat) := by omega
      simp [go_sem, ir171, nextB, purse_eq, List.range_succ, h, h', hz, encU, hr, htk]
def inLp : Nat → List Nat × Bool → Int → List Run → (List Nat × Bool) × List Run
  | 0, s, _, out => (s, out)
  | n + 1, s, last, out =>
    inLp n (nextB 4294967295 (nextB 1073741824 s).2).2 (ixor .u32 ((nextB 4294967295 (nextB 1073741824 s).2).1 : Nat) last)
      (out ++ [⟨((nextB 1073741824 s).1 : Nat), if ixor .u32 ((nextB 4294967295 (nextB 1073741824 s).2).1 : Nat) last = 4294967295 then 1 else 0, ixor .u32 ((nextB 4294967295 (nextB 1073741824 s).2).1 : Nat) last⟩])
/-- The heap of the numbers' walk. -/
def insH (nl fu : Bool) (s : List Nat × Bool) (first : Int) (out : List Run) : Heap :=
  [.box [.imm nl fu true (s.1.map encU)], .box [.lit (.int .i64 0), nilS], .box [.lit (.bool s.2)], .box [.lit (.int .i64 first), resV 6 (out.map encRun)]] ++ resH [.dead, .dead] (out.map encRun)
theorem inside_loop (nl fu : Bool) (first : Int) (n : Nat) (hn : n ≤ 4096) (k : List Item) (R : (List Nat × Bool) × List Run → Option (AVal × Heap))
    (hk : ∀ s out τ, out.length ≤ 4096 → (∀ r ∈ out, r.Ok) → lk 1 τ = .ptr 0 0 → lk 2 τ = .ptr 1 0 → lk 4 τ = .ptr 2 0 → lk 6 τ = .ptr 3 0 → finK 0 [.cell 2 true 2, .tmp 3] (run E 0 k τ (insH nl fu s first out)) = R (s, out)) :
    ∀ (d i : Nat) (s : List Nat × Bool) (last : Int) (out : List Run), i + d = n → out.length = i → (∀ r ∈ out, r.Ok) →
   finK 0 [.cell 2 true 2, .tmp 3] (run E 0 (.code L156_0 :: .inLoop [1, 2, 4, 5, 6, 8, 18, 19] L156_0 :: .inBlock 0 :: k)
     [(1, .ptr 0 0), (2, .ptr 1 0), (4, .ptr 2 0), (5, .func (.func 171) [] [.ptr 0 0, .ptr 2 0]), (6, .ptr 3 0), (8, .lit (.int .u32 last)), (18, .lit (.int .i64 n)), (19, .lit (.int .i64 i))] (insH nl fu s first out))
    = R (inLp d s last out) := by
  intro d
  induction d with
  | zero =>
    intro i s last out hi ho hok
    have : i = n := by omega
    subst this
    have hk' := hk s out
    rcases snoc_cases out with rfl | ⟨o, x, rfl⟩
    · simp [insH, resV, resH] at hk'
      simp [go_sem, run_codeL E L156_0.eq_1, insH, resV, resH, inLp]
      exact hk' _ rfl rfl rfl rfl
    · simp [insH, resV, resH] at hk' ho
      simp [go_sem, run_codeL E L156_0.eq_1, insH, resV, resH, inLp]
      refine hk' _ (by omega) ?_ rfl rfl rfl rfl
      intro r hr
      exact hok r (by simpa using hr)
  | succ d ih =>
    intro i s last out hi ho hok
    have hlt : (i : Int) < (n : Int) := by omega
    have w2 := wrapIdx (i := i) (by omega)
    obtain ⟨L, q⟩ := s
    have hA := next_spec 1073741824 L q nl fu
    have hAle := nextB_le 1073741824 (L, q)
    rw [inLp]
    generalize nextB 1073741824 (L, q) = a at hA hAle ⊢
    obtain ⟨a1, L1, q1⟩ := a
    have hB := next_spec 4294967295 L1 q1 nl fu
    have hBle := nextB_le 4294967295 (L1, q1)
    simp only [] at hA hAle ⊢
    generalize nextB 4294967295 (L1, q1) = c at hB hBle ⊢
    obtain ⟨c1, L2, q2⟩ := c
    simp only [] at hB hBle ⊢
    have e1 : IntKind.wrap .i64 (a1 : Int) = (a1 : Int) := wrap64 (by omega) (by omega)
    have e2 : IntKind.wrap .u32 (c1 : Int) = (c1 : Int) := by simp [IntKind.wrap, IntKind.bits, IntKind.signed]; omega
    generalize hdr : ixor .u32 (c1 : Int) last = dr
    have ih2 := ih (i + 1) (L2, q2) dr (out ++ [⟨(a1 : Nat), if dr = 4294967295 then 1 else 0, dr⟩]) (by omega) (by simp [ho]) (by
      intro r hr
      rcases List.mem_append.1 hr with hr | hr
      · exact hok r hr
      · simp at hr; subst hr; exact ⟨by show -9223372036854775808 ≤ (a1 : Int); omega, by show (a1 : Int) ≤ 9223372036854775807; omega⟩)
    have hb : ¬ (70368744177664 < (out.length + 1) * 24) := by omega
    by_cases hd : dr = 4294967295
    · subst hd
      rcases snoc_cases out with rfl | ⟨o, x, rfl⟩
      · simp [insH, resV, resH, encRun, nilS] at ih2 hA hB
        simp [go_sem, run_codeL E L156_0.eq_1, insH, resV, resH, hlt, w2, hA, hB, e1, e2, hdr, purse_eq]
        rw [run_inLoop']
        simp [go_sem, purse_eq]
        exact ih2
      · simp at hb
        have hb' : ¬ (70368744177664 < (o.length + 1 + 1) * 24) := by omega
        simp [insH, resV, resH, encRun, nilS] at ih2 hA hB
        simp [go_sem, run_codeL E L156_0.eq_1, insH, resV, resH, hlt, w2, hA, hB, e1, e2, hb', hdr, purse_eq]
        rw [run_inLoop']
        simp [go_sem, purse_eq]
        simpa [encRun] using ih2
    · rcases snoc_cases out with rfl | ⟨o, x, rfl⟩
      · simp [insH, resV, resH, encRun, nilS, hd] at ih2 hA hB
        simp [go_sem, run_codeL E L156_0.eq_1, insH, resV, resH, hlt, w2, hA, hB, e1, e2, hdr, purse_eq, hd]
        rw [run_inLoop']
        simp [go_sem, purse_eq]
        exact ih2
      · simp at hb
        have hb' : ¬ (70368744177664 < (o.length + 1 + 1) * 24) := by omega
        simp [insH, resV, resH, encRun, nilS, hd] at ih2 hA hB
        simp [go_sem, run_codeL E L156_0.eq_1, insH, resV, resH, hlt, w2, hA, hB, e1, e2, hb', hdr, purse_eq, hd]
        rw [run_inLoop']
        simp [go_sem, purse_eq]
        simpa [encRun] using ih2

/-- What the numbers' walk makes of numbers. -/
def insA (l : List Nat) : Nat × (List Nat × Bool) := nextB 1073741824 (l, true)
def insC (l : List Nat) : Nat × (List Nat × Bool) := nextB 4096 (insA l).2
def insR (l : List Nat) : (List Nat × Bool) × List Run := inLp (insC l).1 (insC l).2 4294967295 []
def insOk (l : List Nat) : Bool := (insR l).1.2 && decide ((insR l).1.1 = []) && decide (chkB (insA l).1 (insR l).2 = 0)
def resHl (lk : Bool) (rows : List (List AVal)) : Heap := if rows = [] then [] else [.arr true lk false 3 rows]
def insL (l : List Nat) : Bool := (insR l).1.2 && decide ((insR l).1.1 = [])
theorem inside_spec (l : List Nat) (nl fu : Bool) :
    call E (.func (.func 156) [] []) [.imm nl fu true (l.map encU)] []
      = some (.tup [.agg [.lit (.int .i64 (insA l).1), resV 0 ((insR l).2.map encRun)], .lit (.bool (insOk l))], resHl (insL l) ((insR l).2.map encRun)) := by
  rw [call_func E E156]
  have hA := next_spec 1073741824 l true nl fu
  have hAle := nextB_le 1073741824 (l, true)
  rw [show nextB 1073741824 (l, true) = insA l from rfl] at hA hAle
  have hC := next_spec 4096 (insA l).2.1 (insA l).2.2 nl fu
  have hCle := nextB_le 4096 (insA l).2
  rw [show nextB 4096 (insA l).2 = insC l from rfl] at hCle
  rw [show ((insA l).2.1, (insA l).2.2) = (insA l).2 from rfl, show nextB 4096 (insA l).2 = insC l from rfl] at hC
  have hlp := inside_loop nl fu (insA l).1 (insC l).1 hCle [.code (.seq (.reg [⟨none, some 42, .load true 2 (.t 6)⟩, ⟨none, some 43, .load false 1 (.t 4)⟩, ⟨none, some 44, .copy (.t 43)⟩, ⟨some (44, true), some 45, .load false 1 (.t 1)⟩, ⟨some (44, true), some 46, .len (.t 45)⟩, ⟨some (44, true), some 47, .bin .eql (.t 46) (.c (.lit (.int .i64 0)))⟩, ⟨none, some 48, .pick (.t 44) (.t 47) (.c (.lit (.bool false)))⟩, ⟨none, some 49, .copy (.t 48)⟩, ⟨some (49, true), some 50, .load true 2 (.t 6)⟩, ⟨some (49, true), some 51, .call 124 [(.t 50)]⟩, ⟨some (49, true), some 52, .bin .eql (.t 51) (.c (.lit (.int .i64 0)))⟩, ⟨none, some 53, .pick (.t 49) (.t 52) (.c (.lit (.bool false)))⟩, ⟨none, none, .store 2 (.t 2) (.t 42)⟩, ⟨none, some 3, .copy (.t 53)⟩] [(0, 9)] []) .ret)]
    (fun r => some (.tup [.agg [.lit (.int .i64 (insA l).1), resV 0 (r.2.map encRun)], .lit (.bool (r.1.2 && decide (r.1.1 = []) && decide (chkB (insA l).1 r.2 = 0)))], resHl (r.1.2 && decide (r.1.1 = [])) (r.2.map encRun))) ?_ (insC l).1 0 (insC l).2 4294967295 [] (by omega) rfl (by simp)
  · rw [show inLp (insC l).1 (insC l).2 4294967295 [] = insR l from rfl, show ((insR l).1.2 && decide ((insR l).1.1 = []) && decide (chkB (insA l).1 (insR l).2 = 0)) = insOk l from rfl, show ((insR l).1.2 && decide ((insR l).1.1 = [])) = insL l from rfl] at hlp
    generalize insL l = lq at hlp ⊢
    generalize insR l = r at hlp ⊢
    generalize insOk l = q at hlp ⊢
    have e1 : IntKind.wrap .i64 ((insA l).1 : Int) = ((insA l).1 : Int) := wrap64 (by omega) (by omega)
    have e2 : IntKind.wrap .i64 ((insC l).1 : Int) = ((insC l).1 : Int) := wrap64 (by omega) (by omega)
    generalize insC l = c at hlp hC e2
    generalize insA l = a at hlp hA hC e1 ⊢
    simp [insH, nilS] at hlp hA hC
    rw [show resV 6 [] = AVal.imm true true true [] from rfl] at hlp
    simp [resH] at hlp
    simp [go_sem, ir156, hA, hC, e1, e2, purse_eq, nilS]
    rw [run_inLoop']
    simp [go_sem, purse_eq, resH]
    exact hlp
  · intro s out τ ho hok t1 t2 t4 t6
    obtain ⟨L, q⟩ := s
    have hCh := fun nl fu => bcheck_spec (insA l).1 ⟨by omega, by omega⟩ out (by omega) hok nl fu
    cases q with
    | false =>
      by_cases h0 : out = []
      · subst h0
        simp [go_sem, t1, t2, t4, t6, insH, resV, resH, resHl, purse_eq]
      · simp [go_sem, t1, t2, t4, t6, insH, resV, resH, resHl, purse_eq, h0]
    | true =>
      by_cases hL : L = []
      · subst hL
        by_cases h0 : out = []
        · subst h0
          have hC1 := hCh true true
          simp [encBlk] at hC1
          simp [go_sem, t1, t2, t4, t6, insH, resV, resH, resHl, purse_eq, hC1]
        · have hC1 := hCh false false
          simp [encBlk] at hC1
          simp [go_sem, t1, t2, t4, t6, insH, resV, resH, resHl, purse_eq, h0, hC1]
      · by_cases h0 : out = []
        · subst h0
          simp [go_sem, t1, t2, t4, t6, insH, resV, resH, resHl, purse_eq, hL]
        · simp [go_sem, t1, t2, t4, t6, insH, resV, resH, resHl, purse_eq, h0, hL]
end Go.AM.R1
open Go Go.AM
namespace Go.AM.R1

def ofLp : List Nat → Int → List Run → Bool × List Run
  | n :: d :: r, last, out => if 1073741824 < n ∨ 4294967295 < d then (false, out) else ofLp r (ixor .u32 last (d : Nat)) (out ++ [⟨(n : Nat), if ixor .u32 last (d : Nat) = 4294967295 then 1 else 0, ixor .u32 last (d : Nat)⟩])
  | _, _, out => (true, out)
def ofH (first : Int) (out : List Run) : Heap := [.box [.lit (.int .i64 0), nilS], .box [.lit (.int .i64 first), resV 4 (out.map encRun)]] ++ resH [.dead, .dead] (out.map encRun)
theorem of_loop (l : List Nat) (hl : l.length ≤ 1099511627) (nl fu : Bool) (k : List Item) (R : Bool × List Run → Option (AVal × Heap))
    (hk : ∀ out τ, lk 0 τ = .imm nl fu true (l.map encU) → lk 2 τ = .ptr 0 0 → lk 3 τ = .ptr 1 0 → finK 0 [.cell 2 true 2] (run E 0 k τ (ofH (-1) out)) = R (true, out))
    (hf : ∀ out, R (false, out) = some (.agg [.lit (.int .i64 (-1)), resV 0 (out.map encRun)], resH [] (out.map encRun))) :
    ∀ (d i : Nat) (last : Int) (out : List Run), i + 2 * d = l.length → out.length ≤ i →
   finK 0 [.cell 2 true 2] (run E 0 (.code L151_0 :: .inLoop [0, 2, 3, 4, 5] L151_0 :: .inBlock 0 :: k)
     [(0, .imm nl fu true (l.map encU)), (2, .ptr 0 0), (3, .ptr 1 0), (4, .lit (.int .u32 last)), (5, .lit (.int .i64 i))] (ofH (-1) out))
    = R (ofLp (l.drop i) last out) := by
  intro d
  induction d with
  | zero =>
    intro i last out hi ho
    have hil : i = l.length := by omega
    subst hil
    have w2 := wrapIdx (i := l.length) (by omega)
    have hlt : ¬ ((l.length : Int) + 1 < (l.length : Int)) := by omega
    have hk' := hk out
    rw [List.drop_length]
    simp at w2
    by_cases h0 : out = []
    · subst h0
      simp [ofH, resV, resH] at hk'
      simp [go_sem, run_codeL E L151_0.eq_1, ofH, resV, resH, w2, hlt, ofLp]
      exact hk' _ rfl rfl rfl
    · simp [ofH, resV, resH, h0] at hk'
      simp [go_sem, run_codeL E L151_0.eq_1, ofH, resV, resH, w2, hlt, ofLp, h0]
      exact hk' _ rfl rfl rfl
  | succ d ih =>
    intro i last out hi ho
    have hlt : i < l.length := by omega
    have hlt' : i + 1 < l.length := by omega
    have w1 : IntKind.wrap .i64 ((i : Int) + 1) = (i : Int) + 1 := wrap64 (by omega) (by omega)
    have w2 : IntKind.wrap .i64 ((i : Int) + 2) = (i : Int) + 2 := wrap64 (by omega) (by omega)
    have hlI : (i : Int) + 1 < (l.length : Int) := by omega
    have hz : (0 : Int) ≤ (i : Int) + 1 := by omega
    have ht : ((i : Int) + 1).toNat = i + 1 := by omega
    rw [List.drop_eq_getElem_cons hlt, List.drop_eq_getElem_cons hlt', ofLp]
    by_cases c1 : 1073741824 < l[i]
    · rw [if_pos (.inl c1), hf]
      have c1' : (1073741824 : Int) < (l[i] : Nat) := by omega
      by_cases h0 : out = []
      · subst h0
        simp [go_sem, run_codeL E L151_0.eq_1, ofH, resV, resH, w1, hlI, hlt, hlt', hz, ht, List.getElem?_eq_getElem hlt, List.getElem?_eq_getElem hlt', encU, c1', purse_eq]
      · simp [go_sem, run_codeL E L151_0.eq_1, ofH, resV, resH, w1, hlI, hlt, hlt', hz, ht, List.getElem?_eq_getElem hlt, List.getElem?_eq_getElem hlt', encU, c1', h0, purse_eq]
    · have c1' : ¬ (1073741824 : Int) < (l[i] : Nat) := by omega
      by_cases c2 : 4294967295 < l[i + 1]
      · rw [if_pos (.inr c2), hf]
        have c2' : (4294967295 : Int) < (l[i + 1] : Nat) := by omega
        by_cases h0 : out = []
        · subst h0
          simp [go_sem, run_codeL E L151_0.eq_1, ofH, resV, resH, w1, hlI, hlt, hlt', hz, ht, List.getElem?_eq_getElem hlt, List.getElem?_eq_getElem hlt', encU, c1', c2', purse_eq]
        · simp [go_sem, run_codeL E L151_0.eq_1, ofH, resV, resH, w1, hlI, hlt, hlt', hz, ht, List.getElem?_eq_getElem hlt, List.getElem?_eq_getElem hlt', encU, c1', c2', h0, purse_eq]
      · rw [if_neg (by omega)]
        have c2' : ¬ (4294967295 : Int) < (l[i + 1] : Nat) := by omega
        have e1 : IntKind.wrap .i64 ((l[i] : Nat) : Int) = ((l[i] : Nat) : Int) := wrap64 (by omega) (by omega)
        have e2 : IntKind.wrap .u32 ((l[i + 1] : Nat) : Int) = ((l[i + 1] : Nat) : Int) := by simp [IntKind.wrap, IntKind.bits, IntKind.signed]; omega
        generalize hdr : ixor .u32 last ((l[i + 1] : Nat) : Int) = dr
        have ih2 := ih (i + 2) dr (out ++ [⟨((l[i] : Nat) : Int), if dr = 4294967295 then 1 else 0, dr⟩]) (by omega) (by simp; omega)
        have hb : ¬ (70368744177664 < (out.length + 1) * 24) := by omega
        by_cases hd : dr = 4294967295
        · subst hd
          by_cases h0 : out = []
          · subst h0
            simp [ofH, resV, resH, encRun, nilS] at ih2
            simp [go_sem, run_codeL E L151_0.eq_1, ofH, resV, resH, w1, w2, hlI, hlt, hlt', hz, ht, List.getElem?_eq_getElem hlt, List.getElem?_eq_getElem hlt', encU, c1', c2', e1, e2, hdr, purse_eq]
            rw [run_inLoop']
            simp [go_sem, purse_eq]
            simpa [encU] using ih2
          · simp [ofH, resV, resH, encRun, nilS, h0] at ih2
            simp [go_sem, run_codeL E L151_0.eq_1, ofH, resV, resH, w1, w2, hlI, hlt, hlt', hz, ht, List.getElem?_eq_getElem hlt, List.getElem?_eq_getElem hlt', encU, c1', c2', e1, e2, hdr, h0, hb, purse_eq]
            rw [run_inLoop']
            simp [go_sem, purse_eq]
            simpa [encU] using ih2
        · by_cases h0 : out = []
          · subst h0
            simp [ofH, resV, resH, encRun, nilS, hd] at ih2
            simp [go_sem, run_codeL E L151_0.eq_1, ofH, resV, resH, w1, w2, hlI, hlt, hlt', hz, ht, List.getElem?_eq_getElem hlt, List.getElem?_eq_getElem hlt', encU, c1', c2', e1, e2, hdr, hd, purse_eq]
            rw [run_inLoop']
            simp [go_sem, purse_eq]
            simpa [encU] using ih2
          · simp [ofH, resV, resH, encRun, nilS, h0, hd] at ih2
            simp [go_sem, run_codeL E L151_0.eq_1, ofH, resV, resH, w1, w2, hlI, hlt, hlt', hz, ht, List.getElem?_eq_getElem hlt, List.getElem?_eq_getElem hlt', encU, c1', c2', e1, e2, hdr, h0, hd, hb, purse_eq]
            rw [run_inLoop']
            simp [go_sem, purse_eq]
            simpa [encU] using ih2

def ofR : List Nat → Int × List Run
  | a :: c :: r => if (a :: c :: r).length % 2 ≠ 0 ∨ 1073741824 < a then (-1, []) else if (ofLp r 4294967295 []).1 = true then (((a : Nat) : Int), (ofLp r 4294967295 []).2) else (-1, (ofLp r 4294967295 []).2)
  | _ => (-1, [])
theorem of_spec (l : List Nat) (hl : l.length ≤ 1099511627) (nl fu : Bool) :
    call E (.func (.func 151) [] []) [.imm nl fu true (l.map encU)] [] = some (.agg [.lit (.int .i64 (ofR l).1), resV 0 ((ofR l).2.map encRun)], resH [] ((ofR l).2.map encRun)) := by
  rw [call_func E E151]
  match l, hl with
  | [], _ => simp [go_sem, ir151, ofR, resV, resH, purse_eq]
  | [a], _ => simp [go_sem, ir151, ofR, resV, resH, purse_eq]
  | a :: c :: r, hl =>
    simp at hl
    have hlen2 : ¬ ((r.length : Int) + 1 + 1 < 2) := by omega
    have hm : ((r.length : Int) + 1 + 1).tmod 2 = ((r.length % 2 : Nat) : Int) := by rw [Int.tmod_eq_emod_of_nonneg (by omega)]; omega
    by_cases h1 : r.length % 2 ≠ 0
    · have e : ofR (a :: c :: r) = (-1, []) := by rw [ofR, if_pos (.inl (by simp; omega))]
      have hm2 : ((r.length : Int) + 1 + 1).tmod 2 = 1 := by omega
      simp [go_sem, ir151, e, resV, resH, purse_eq, hlen2, hm2]
    · have hm0 : ((r.length : Int) + 1 + 1).tmod 2 = 0 := by omega
      by_cases h2 : 1073741824 < a
      · have h2' : (1073741824 : Int) < (a : Nat) := by omega
        have e : ofR (a :: c :: r) = (-1, []) := by rw [ofR, if_pos (.inr h2)]
        simp [go_sem, ir151, e, resV, resH, purse_eq, hlen2, hm0, h2', encU]
      · have h2' : ¬ (1073741824 : Int) < (a : Nat) := by omega
        have e1 : IntKind.wrap .i64 ((a : Nat) : Int) = ((a : Nat) : Int) := wrap64 (by omega) (by omega)
        have e : ofR (a :: c :: r) = if (ofLp r 4294967295 []).1 = true then (((a : Nat) : Int), (ofLp r 4294967295 []).2) else (-1, (ofLp r 4294967295 []).2) := by
          rw [ofR, if_neg]
          simp; omega
        have hlp := of_loop (a :: c :: r) (by simp; omega) nl fu [.code (.seq (.reg [⟨none, some 69, .copy (.t 0)⟩, ⟨none, some 70, .idxS 1 (.t 69) (.c (.lit (.int .i64 0)))⟩, ⟨none, some 71, .load false 1 (.t 70)⟩, ⟨none, some 72, .toInt .i64 (.t 71)⟩, ⟨none, some 73, .fieldA 0 (.t 3)⟩, ⟨none, none, .store 1 (.t 73) (.t 72)⟩] [] []) (.seq (.reg [⟨none, some 74, .load true 2 (.t 3)⟩, ⟨none, none, .store 2 (.t 2) (.t 74)⟩] [] []) .ret))]
          (fun q => some (.agg [.lit (.int .i64 (if q.1 = true then ((a : Nat) : Int) else -1)), resV 0 (q.2.map encRun)], resH [] (q.2.map encRun))) ?_ (fun out => rfl) (r.length / 2) 2 4294967295 [] (by simp; omega) (by simp)
        · rw [show (a :: c :: r).drop 2 = r from rfl] at hlp
          have e' : ofR (a :: c :: r) = (if (ofLp r 4294967295 []).1 = true then ((a : Nat) : Int) else -1, (ofLp r 4294967295 []).2) := by rw [e]; split <;> rfl
          rw [e']
          generalize ofLp r 4294967295 [] = q at hlp ⊢
          simp [ofH, nilS, encU] at hlp
          rw [show resV 4 [] = AVal.imm true true true [] from rfl, show resH [.dead, .dead] [] = [] from rfl] at hlp
          simp [go_sem, ir151, purse_eq, hlen2, hm0, h2', encU, nilS]
          rw [run_inLoop']
          simp [go_sem, purse_eq]
          simpa [encU] using hlp
        · intro out τ t0 t2 t3
          by_cases h0 : out = []
          · subst h0
            simp [go_sem, t0, t2, t3, ofH, resV, resH, encU, e1, purse_eq]
          · simp [go_sem, t0, t2, t3, ofH, resV, resH, encU, e1, purse_eq, h0]
end Go.AM.R1
open Go Go.AM
namespace Go.AM.R1

/-! ### Which numbers are a block's -/
theorem ixor_nat {x y : Int} (hx : 0 ≤ x ∧ x ≤ 4294967295) (hy : 0 ≤ y ∧ y ≤ 4294967295) : ixor .u32 x y = ((BitVec.ofNat 32 x.toNat ^^^ BitVec.ofNat 32 y.toNat).toNat : Int) := by
  rw [← ixor_bv]
  congr 1
  · rw [BitVec.toNat_ofNat, Nat.mod_eq_of_lt (by omega)]; omega
  · rw [BitVec.toNat_ofNat, Nat.mod_eq_of_lt (by omega)]; omega
theorem ixor_comm {x y : Int} (hx : 0 ≤ x ∧ x ≤ 4294967295) (hy : 0 ≤ y ∧ y ≤ 4294967295) : ixor .u32 x y = ixor .u32 y x := by
  rw [ixor_nat hx hy, ixor_nat hy hx, BitVec.xor_comm]
theorem ixor_cancel {x y : Int} (hx : 0 ≤ x ∧ x ≤ 4294967295) (hy : 0 ≤ y ∧ y ≤ 4294967295) : ixor .u32 (ixor .u32 x y) y = x := by
  rw [ixor_nat (ixor_range x y) hy, ixor_nat hx hy]
  have e : (((BitVec.ofNat 32 x.toNat ^^^ BitVec.ofNat 32 y.toNat).toNat : Int)).toNat = (BitVec.ofNat 32 x.toNat ^^^ BitVec.ofNat 32 y.toNat).toNat := by omega
  rw [e, BitVec.ofNat_toNat, BitVec.setWidth_eq, BitVec.xor_assoc, BitVec.xor_self, BitVec.xor_zero, BitVec.toNat_ofNat, Nat.mod_eq_of_lt (by omega)]
  omega
def busOf (d : Int) : Int := if d = 4294967295 then 1 else 0
theorem inLp_true : ∀ (n : Nat) (s : List Nat × Bool) (last : Int) (out : List Run), (0 ≤ last ∧ last ≤ 4294967295) → (inLp n s last out).1.2 = true →
    s.2 = true ∧ ∃ R, (inLp n s last out).2 = out ++ R ∧ R.length = n ∧ s.1 = runN last R ++ (inLp n s last out).1.1 ∧ ∀ r ∈ R, 0 ≤ r.Drive ∧ r.Drive ≤ 4294967295
  | 0, s, last, out, _, h => ⟨h, [], by simp [inLp], rfl, by simp [inLp, runN], by simp⟩
  | n + 1, s, last, out, hl, h => by
    rw [inLp] at h ⊢
    obtain ⟨L, q⟩ := s
    obtain ⟨h1, R, e1, e2, e3, e4⟩ := inLp_true n _ _ _ (ixor_range _ _) h
    cases L with
    | nil => simp [nextB] at h1
    | cons x L =>
      by_cases c1 : 1073741824 < x
      · exfalso
        simp only [nextB, if_pos c1] at h1
        split at h1 <;> simp at h1
      · simp only [nextB, if_neg c1] at h1 e1 e2 e3 ⊢
        cases L with
        | nil => simp [nextB] at h1
        | cons y L =>
          by_cases c2 : 4294967295 < y
          · simp [nextB, c2] at h1
          · simp only [nextB, if_neg c2] at h1 e1 e2 e3 ⊢
            refine ⟨h1, ⟨(x : Nat), if ixor .u32 (y : Nat) last = 4294967295 then 1 else 0, ixor .u32 (y : Nat) last⟩ :: R, by rw [e1]; simp, by simp [e2], ?_, ?_⟩
            · simp only [runN, List.cons_append]
              rw [ixor_cancel ⟨by omega, by omega⟩ hl]
              simp only [Int.toNat_natCast]
              rw [← e3]
            · intro r hr
              rcases List.mem_cons.1 hr with rfl | hr
              · exact ixor_range _ _
              · exact e4 r hr
theorem ins_good {l : List Nat} (h : insOk l = true) : chkB (insA l).1 (insR l).2 = 0 ∧ numsN (insA l).1 (insR l).2 = l ∧ (∀ r ∈ (insR l).2, 0 ≤ r.Drive ∧ r.Drive ≤ 4294967295) := by
  simp only [insOk, Bool.and_eq_true, decide_eq_true_eq] at h
  obtain ⟨⟨h1, h2⟩, h3⟩ := h
  obtain ⟨g1, R, e1, e2, e3, e4⟩ := inLp_true (insC l).1 (insC l).2 4294967295 [] (by omega) h1
  rw [show inLp (insC l).1 (insC l).2 4294967295 [] = insR l from rfl] at e1 e3
  rw [List.nil_append] at e1
  rw [h2, List.append_nil] at e3
  refine ⟨h3, ?_, fun r hr => e4 r (by rw [e1] at hr; exact hr)⟩
  rw [e1, numsN, e2]
  unfold insC insA at e3 g1 ⊢
  cases l with
  | nil => simp [nextB] at g1
  | cons x l =>
    by_cases c1 : 1073741824 < x
    · exfalso
      simp only [nextB, if_pos c1] at g1
      split at g1 <;> simp at g1
    · simp only [nextB, if_neg c1] at e3 g1 ⊢
      cases l with
      | nil => simp [nextB] at g1
      | cons y l =>
        by_cases c2 : 4096 < y
        · simp [nextB, c2] at g1
        · simp only [nextB, if_neg c2] at e3 g1 ⊢
          rw [← e3]; rfl
theorem inLp_nums : ∀ (R : List Run) (last : Int) (out : List Run), (0 ≤ last ∧ last ≤ 4294967295) → (∀ r ∈ R, right r = true ∧ 0 ≤ r.Drive ∧ r.Drive ≤ 4294967295) → inLp R.length (runN last R, true) last out = (([], true), out ++ R)
  | [], last, out, _, _ => by simp [inLp, runN]
  | r :: R, last, out, hl, h => by
    obtain ⟨hr, hd⟩ := h r (by simp)
    have hN := right_N hr
    have hx := ixor_range r.Drive last
    rw [List.length_cons, inLp, runN]
    have c1 : ¬ 1073741824 < r.N.toNat := by omega
    have c2 : ¬ 4294967295 < (ixor .u32 r.Drive last).toNat := by omega
    have e4 : (((ixor .u32 r.Drive last).toNat : Nat) : Int) = ixor .u32 r.Drive last := by omega
    have e5 : ((r.N.toNat : Nat) : Int) = r.N := by omega
    simp only [nextB, if_neg c1, if_neg c2, e4, e5, ixor_cancel hd hl]
    have hb : (if r.Drive = 4294967295 then (1 : Int) else 0) = r.Bus := by
      simp only [right, Bool.and_eq_true, decide_eq_true_eq] at hr
      exact hr.2.symm
    rw [hb, inLp_nums R r.Drive _ hd fun x hx => h x (by simp [hx])]
    simp
theorem chk_all {l : List Run} (h : chk l = 0) : ∀ r ∈ l, right r = true := fun r hr => by
  unfold chk at h
  cases ha : l.all right with
  | false => rw [ha] at h; simp at h
  | true => exact List.all_eq_true.1 ha r hr
theorem ins_nums {f : Int} {R : List Run} (hc : chkB f R = 0) (hd : ∀ r ∈ R, 0 ≤ r.Drive ∧ r.Drive ≤ 4294967295) :
    ((insA (numsN f R)).1 : Int) = f ∧ (insR (numsN f R)).2 = R ∧ insOk (numsN f R) = true ∧ insL (numsN f R) = true := by
  obtain ⟨h1, h2, h3, h4, h5, h6⟩ := chkB_ok hc
  have hall := chk_all h4
  have c1 : ¬ 1073741824 < f.toNat := by omega
  have c2 : ¬ 4096 < R.length := by omega
  have eA : insA (numsN f R) = (f.toNat, (R.length :: runN 4294967295 R, true)) := by unfold insA numsN; rw [nextB, if_neg c1]
  have eC : insC (numsN f R) = (R.length, (runN 4294967295 R, true)) := by unfold insC; rw [eA, nextB, if_neg c2]
  have eR : insR (numsN f R) = (([], true), R) := by
    unfold insR; rw [eC]
    have := inLp_nums R 4294967295 [] (by omega) fun r hr => ⟨hall r hr, hd r hr⟩
    simpa using this
  have ef : ((f.toNat : Nat) : Int) = f := by omega
  refine ⟨by rw [eA]; exact ef, by rw [eR], ?_, ?_⟩
  · unfold insOk
    rw [eR, eA]
    simp [ef, hc]
  · unfold insL
    rw [eR]; rfl
theorem ofLp_nums : ∀ (R : List Run) (last : Int) (out : List Run), (0 ≤ last ∧ last ≤ 4294967295) → (∀ r ∈ R, right r = true ∧ 0 ≤ r.Drive ∧ r.Drive ≤ 4294967295) → ofLp (runN last R) last out = (true, out ++ R)
  | [], last, out, _, _ => by simp [ofLp, runN]
  | r :: R, last, out, hl, h => by
    obtain ⟨hr, hd⟩ := h r (by simp)
    have hN := right_N hr
    have hx := ixor_range r.Drive last
    rw [runN, ofLp, if_neg (by omega)]
    have e4 : (((ixor .u32 r.Drive last).toNat : Nat) : Int) = ixor .u32 r.Drive last := by omega
    have e5 : ((r.N.toNat : Nat) : Int) = r.N := by omega
    rw [e4, e5, ixor_comm hl hx, ixor_cancel hd hl]
    have hb : (if r.Drive = 4294967295 then (1 : Int) else 0) = r.Bus := by
      simp only [right, Bool.and_eq_true, decide_eq_true_eq] at hr
      exact hr.2.symm
    rw [hb, ofLp_nums R r.Drive _ hd fun x hx => h x (by simp [hx])]
    simp
theorem of_nums {f : Int} {R : List Run} (hc : chkB f R = 0) (hd : ∀ r ∈ R, 0 ≤ r.Drive ∧ r.Drive ≤ 4294967295) : ofR (numsN f R) = (f, R) := by
  obtain ⟨h1, h2, h3, h4, h5, h6⟩ := chkB_ok hc
  have hall := chk_all h4
  have hl := runN_length R 4294967295
  unfold numsN
  rw [ofR, if_neg (by simp [hl]; omega), ofLp_nums R 4294967295 [] (by omega) fun r hr => ⟨hall r hr, hd r hr⟩, if_pos rfl]
  simp; omega
theorem ofLp_drive : ∀ (d : Nat) (l : List Nat) (last : Int) (out : List Run), l.length ≤ d → (∀ r ∈ out, (0 ≤ r.Drive ∧ r.Drive ≤ 4294967295) ∧ 0 ≤ r.N ∧ r.N ≤ 1073741824) → ∀ r ∈ (ofLp l last out).2, (0 ≤ r.Drive ∧ r.Drive ≤ 4294967295) ∧ 0 ≤ r.N ∧ r.N ≤ 1073741824
  | _, [], _, _, _, h => h
  | _, [_], _, _, _, h => h
  | 0, _ :: _ :: _, _, _, hl, _ => by simp at hl
  | d + 1, n :: y :: l, last, out, hl, h => by
    rw [ofLp]
    split
    · exact h
    · refine ofLp_drive d l _ _ (by simp at hl; omega) fun r hr => ?_
      rcases List.mem_append.1 hr with hr | hr
      · exact h r hr
      · simp at hr; subst hr; exact ⟨ixor_range _ _, by simp, by simp; omega⟩
theorem of_drive (l : List Nat) : ∀ r ∈ (ofR l).2, (0 ≤ r.Drive ∧ r.Drive ≤ 4294967295) ∧ 0 ≤ r.N ∧ r.N ≤ 1073741824 := by
  match l with
  | [] => simp [ofR]
  | [_] => simp [ofR]
  | a :: c :: r =>
    rw [ofR]
    split
    · simp
    · split
      · exact ofLp_drive r.length r _ _ (by omega) (by simp)
      · exact ofLp_drive r.length r _ _ (by omega) (by simp)
theorem ofLp_length : ∀ (d : Nat) (l : List Nat) (last : Int) (out : List Run), l.length ≤ d → (ofLp l last out).2.length ≤ out.length + l.length
  | _, [], _, _, _ => by simp [ofLp]
  | _, [_], _, _, _ => by simp [ofLp]
  | 0, _ :: _ :: _, _, _, hl => by simp at hl
  | d + 1, n :: y :: l, last, out, hl => by
    rw [ofLp]
    split
    · simp
    · have := ofLp_length d l (ixor .u32 last (y : Nat)) (out ++ [⟨(n : Nat), if ixor .u32 last (y : Nat) = 4294967295 then 1 else 0, ixor .u32 last (y : Nat)⟩]) (by simp at hl; omega)
      simp at this ⊢; omega
theorem of_length (l : List Nat) : (ofR l).2.length ≤ l.length := by
  match l with
  | [] => simp [ofR]
  | [_] => simp [ofR]
  | a :: c :: r =>
    rw [ofR]
    have := ofLp_length r.length r 4294967295 [] (by omega)
    split
    · simp
    · split <;> simp at this ⊢ <;> omega
/-- The two ways to a block agree. -/
theorem of_ins (l : List Nat) : (chkB (ofR l).1 (ofR l).2 = 0 ∧ numsN (ofR l).1 (ofR l).2 = l) ↔ insOk l = true := by
  constructor
  · rintro ⟨h1, h2⟩
    have := ins_nums h1 fun r hr => (of_drive l r hr).1
    rw [h2] at this
    exact this.2.2.1
  · intro h
    obtain ⟨h1, h2, h3⟩ := ins_good h
    have := of_nums h1 h3
    rw [h2] at this
    rw [this]
    exact ⟨h1, h2⟩
theorem of_ins_eq {l : List Nat} (h : insOk l = true) : ofR l = (((insA l).1 : Int), (insR l).2) := by
  obtain ⟨h1, h2, h3⟩ := ins_good h
  have := of_nums h1 h3
  rwa [h2] at this
theorem ins_locked {l : List Nat} (h : insOk l = true) : insL l = true := by
  obtain ⟨h1, h2, h3⟩ := ins_good h
  have := (ins_nums h1 h3).2.2.2
  rwa [h2] at this
end Go.AM.R1
open Go Go.AM
namespace Go.AM.R1

/-! ### Get -/
theorem size_ok {b : List Nat} (hb : ∀ c ∈ b, c < 256) (h : (sizeB b).2 = 0) :
    (getN b).2.2 = 0 ∧ (getN b).1 ≤ 65536 ∧ sizeB b = ((((getN b).2.1 + (getN b).1 + 4 : Nat) : Int), 0) ∧ 1 ≤ (getN b).2.1 ∧ (getN b).2.1 ≤ 10 := by
  unfold sizeB at h ⊢
  split at h
  · rename_i h1; simp at h; exact absurd h h1
  · rename_i h1
    have h1' : (getN b).2.2 = 0 := by simpa using h1
    split at h
    · simp at h
    · rename_i h2
      have hk := get_k_le hb h1'
      exact ⟨h1', by omega, by rw [if_neg h1, if_neg h2], hk.1, hk.2.1⟩
/-- What the whole of a block, without its sum, begins with. -/
theorem get_whole {b : List Nat} (hb : ∀ c ∈ b, c < 256) (h : (getN b).2.2 = 0) (m : Nat) (hm : (getN b).2.1 ≤ m) : getN (b.take m) = ((getN b).1, (getN b).2.1, 0) := by
  obtain ⟨e1, e2, e3⟩ := get_ok hb h
  have : b.take m = putN (getN b).1 ++ (b.drop (getN b).2.1).take (m - (getN b).2.1) := by
    conv => lhs; rw [e1]
    rw [List.take_append, List.take_of_length_le (by omega), ← e2]
  rw [this, get_put e3, ← e2]
def getB (b : List Nat) : (Int × List Run) × Int × Int :=
  if (sizeB b).2 ≠ 0 then ((0, []), 0, (sizeB b).2)
  else if (b.length : Int) < (sizeB b).1 then ((0, []), 0, 13)
  else if openE (b.take (sizeB b).1.toNat) ≠ 0 then ((0, []), 0, openE (b.take (sizeB b).1.toNat))
  else if (allN ((b.take ((sizeB b).1.toNat - 4)).drop (getN b).2.1)).2.2 = 0 ∧ insOk (allN ((b.take ((sizeB b).1.toNat - 4)).drop (getN b).2.1)).1 = true then
    (((insA (allN ((b.take ((sizeB b).1.toNat - 4)).drop (getN b).2.1)).1).1, (insR (allN ((b.take ((sizeB b).1.toNat - 4)).drop (getN b).2.1)).1).2), (sizeB b).1, 0)
  else ((0, []), 0, 11)
theorem bget_spec (b : List Nat) (hb : ∀ c ∈ b, c < 256) (hl : b.length ≤ 1099511627) (nl fu : Bool) (hnl : nl = false ∨ b = []) :
    call E (.func (.func 133) [] []) [.imm nl fu true (b.map encB)] []
      = some (.tup [.agg [.lit (.int .i64 (getB b).1.1), resV 0 ((getB b).1.2.map encRun)], .lit (.int .i64 (getB b).2.1), .lit (.int .i64 (getB b).2.2)], resHl true ((getB b).1.2.map encRun)) := by
  rw [call_func E E133]
  have hS := size_spec b hb (by omega) nl fu
  by_cases h1 : (sizeB b).2 = 0
  · obtain ⟨g1, g2, g3, g4, g5⟩ := size_ok hb h1
    by_cases h2 : (b.length : Int) < (sizeB b).1
    · have e : getB b = ((0, []), 0, 13) := by unfold getB; rw [if_neg (by simp [h1]), if_pos h2]
      rw [h1] at hS
      simp [go_sem, ir133, hS, e, h2, resV, resHl, purse_eq]
    · have hnl' : nl = false := by
        rcases hnl with h | h
        · exact h
        · subst h; exfalso; simp [getN, getGo] at g1
      subst hnl'
      generalize hn : (getN b).2.1 + (getN b).1 + 4 = n at *
      rw [g3] at hS h2
      simp only [] at hS h2
      have hnle : n ≤ b.length := by omega
      have hr := rowsB b
      have hbt : ∀ c ∈ b.take n, c < 256 := fun c hc => hb c (List.mem_of_mem_take hc)
      have hO := open_spec (b.take n) hbt (by simp; omega) (fu && decide (n = b.length))
      have htl : (b.take n).length = n := by simp; omega
      have htt : (b.take n).take (n - 4) = b.take (n - 4) := by rw [List.take_take, Nat.min_eq_left (by omega)]
      rw [htl, htt] at hO
      by_cases h3 : openE (b.take n) = 0
      · rw [if_pos h3] at hO
        have hw := get_whole hb g1 (n - 4) (by omega)
        have hwb : ∀ c ∈ b.take (n - 4), c < 256 := fun c hc => hb c (List.mem_of_mem_take hc)
        have hG := vget_spec (b.take (n - 4)) hwb (by simp; omega) false false
        have hA := all_spec ((b.take (n - 4)).drop (getN b).2.1) (fun c hc => hwb c (List.mem_of_mem_drop hc)) (by simp; omega) false false
        have hI := fun nl fu => inside_spec (allN ((b.take (n - 4)).drop (getN b).2.1)).1 nl fu
        have e : getB b = if (allN ((b.take (n - 4)).drop (getN b).2.1)).2.2 = 0 ∧ insOk (allN ((b.take (n - 4)).drop (getN b).2.1)).1 = true then
            ((((insA (allN ((b.take (n - 4)).drop (getN b).2.1)).1).1 : Int), (insR (allN ((b.take (n - 4)).drop (getN b).2.1)).1).2), (n : Int), 0) else ((0, []), 0, 11) := by
          unfold getB
          rw [g3, if_neg (by simp), if_neg (by simpa using h2)]
          simp only [Int.toNat_natCast]
          rw [if_neg (by simp [h3])]
        have hwl : (b.take (n - 4)).length = n - 4 := by simp; omega
        have hwe : (b.take (n - 4)).isEmpty = false := by
          cases hq : b.take (n - 4) with
          | nil => rw [hq] at hwl; simp at hwl; omega
          | cons x xs => rfl
        rw [hw] at hG
        rw [hwe] at hO
        have hcut : cutE ((b.take (n - 4)).map encB) (getN b).2.1 (n - 4 - (getN b).2.1) = ((b.take (n - 4)).drop (getN b).2.1).map encB := by
          unfold cutE
          rw [List.take_of_length_le (by simp; omega), List.map_drop]
        have hil := fun h => ins_locked (l := (allN ((b.take (n - 4)).drop (getN b).2.1)).1) h
        generalize allN ((b.take (n - 4)).drop (getN b).2.1) = a at hA hI e hil
        have hkn : (getN b).2.1 ≤ n - 4 := by omega
        have hkn2 : (getN b).2.1 + (n - 4 - (getN b).2.1) = n - 4 := by omega
        have hrw := rowsB (b.take (n - 4))
        clear htt hw hwb hwe
        generalize b.take (n - 4) = w at *
        rw [List.map_take] at hO
        have hle : w.length + 4 = n := by omega
        by_cases ha : a.2.2 = 0
        · rw [if_pos ha] at hA
          by_cases ha1 : a.1 = []
          · rw [if_pos ha1] at hA
            have hI1 := hI true true
            rw [ha1] at hI1
            have hok : insOk a.1 = false := by rw [ha1]; rfl
            rw [ha1] at hok
            have e2 : getB b = ((0, []), 0, 11) := by rw [e, if_neg (by rw [ha1, hok]; simp)]
            rw [hok] at hI1
            rw [show (insA []).1 = 0 from rfl, show (insR []).2 = [] from rfl] at hI1
            simp [resV, resHl] at hI1
            simp [hle] at hO hA hG
            simp [go_sem, ir133, hS, e2, h2, hnle, hr, hO, h3, hG, hkn, hkn2, hwl, hrw, hcut, hA, hI1, resV, resHl, purse_eq]
          · rw [if_neg ha1] at hA
            have hI1 := hI false false
            cases hok : insOk a.1 with
            | true =>
              obtain ⟨g6, g7, g8⟩ := ins_good hok
              have hRne := (chkB_ok g6).2.1
              have e2 : getB b = ((((insA a.1).1 : Int), (insR a.1).2), (n : Int), 0) := by rw [e, if_pos ⟨ha, hok⟩]
              rw [hok, hil hok] at hI1
              simp [resV, resHl, hRne] at hI1
              simp [hle] at hO hA hG
              simp [go_sem, ir133, hS, e2, h2, hnle, hr, hO, h3, hG, hkn, hkn2, hwl, hrw, hcut, hA, hI1, resV, resHl, hRne, purse_eq]
            | false =>
              have e2 : getB b = ((0, []), 0, 11) := by rw [e, if_neg (by rw [hok]; simp)]
              rw [hok] at hI1
              by_cases hR : (insR a.1).2 = []
              · simp [resV, resHl, hR] at hI1
                simp [hle] at hO hA hG
                simp [go_sem, ir133, hS, e2, h2, hnle, hr, hO, h3, hG, hkn, hkn2, hwl, hrw, hcut, hA, hI1, resV, resHl, hR, purse_eq]
              · simp [resV, resHl, hR] at hI1
                simp [hle] at hO hA hG
                simp [go_sem, ir133, hS, e2, h2, hnle, hr, hO, h3, hG, hkn, hkn2, hwl, hrw, hcut, hA, hI1, resV, resHl, hR, purse_eq]
        · rw [if_neg ha] at hA
          have hI1 := inside_spec [] true true
          have hok : insOk [] = false := rfl
          have e2 : getB b = ((0, []), 0, 11) := by rw [e, if_neg (fun h => ha h.1)]
          rw [hok, show (insA []).1 = 0 from rfl, show (insR []).2 = [] from rfl] at hI1
          simp [resV, resHl] at hI1
          simp [hle] at hO hA hG
          simp [go_sem, ir133, hS, e2, h2, hnle, hr, hO, h3, hG, hkn, hkn2, hwl, hrw, hcut, hA, hI1, ha, resV, resHl, purse_eq]
      · rw [if_neg h3] at hO
        have e : getB b = ((0, []), 0, openE (b.take n)) := by
          unfold getB
          rw [g3, if_neg (by simp), if_neg (by simpa using h2)]
          simp only [Int.toNat_natCast]
          rw [if_pos h3]
        rw [List.map_take] at hO
        simp [go_sem, ir133, hS, e, h2, hnle, hr, hO, h3, resV, resHl, purse_eq]
  · have e : getB b = ((0, []), 0, (sizeB b).2) := by unfold getB; rw [if_pos h1]
    simp [go_sem, ir133, hS, e, h1, resV, resHl, purse_eq]
end Go.AM.R1
open Go Go.AM
namespace Go.AM.R1

theorem sealB_inj {x y : List Nat} (h : sealB x = sealB y) : x = y := by
  have hl := congrArg List.length h
  rw [sealB_length, sealB_length] at hl
  exact (List.append_inj h (by omega)).1
theorem wholeB_inj {l m : List Nat} (hl : ∀ n ∈ l, n < 18446744073709551616) (hm : ∀ n ∈ m, n < 18446744073709551616) (hll : (bytesN l).length < 18446744073709551616) (hml : (bytesN m).length < 18446744073709551616) (h : wholeB l = wholeB m) : l = m := by
  have h1 := sealB_inj h
  have g1 := get_put hll (bytesN l)
  have g2 := get_put hml (bytesN m)
  rw [h1, g2] at g1
  simp only [Prod.mk.injEq] at g1
  rw [g1.1] at h1
  exact bytesN_inj hl hm (List.append_cancel_left h1)
/-- Bytes that open are those of their numbers. -/
theorem whole_take {b : List Nat} (hb : ∀ c ∈ b, c < 256) (h1 : (getN b).2.2 = 0) {n : Nat} (hn : (getN b).2.1 + (getN b).1 + 4 = n) (hle : n ≤ b.length) (h3 : openE (b.take n) = 0)
    (ha : (allN ((b.take (n - 4)).drop (getN b).2.1)).2.2 = 0) : b.take n = wholeB (allN ((b.take (n - 4)).drop (getN b).2.1)).1 ∧ (∀ m ∈ (allN ((b.take (n - 4)).drop (getN b).2.1)).1, m < 18446744073709551616) ∧
      (bytesN (allN ((b.take (n - 4)).drop (getN b).2.1)).1).length = (getN b).1 := by
  have htl : (b.take n).length = n := by simp; omega
  have htt : (b.take n).take (n - 4) = b.take (n - 4) := by rw [List.take_take, Nat.min_eq_left (by omega)]
  have hk := get_k_le hb h1
  have hs := (seal_take (b.take n) (by omega)).1 h3
  rw [htl, htt] at hs
  have hw := get_whole hb h1 (n - 4) (by omega)
  have hwb : ∀ c ∈ b.take (n - 4), c < 256 := fun c hc => hb c (List.mem_of_mem_take hc)
  obtain ⟨e1, e2, e3⟩ := get_ok hwb (by rw [hw])
  rw [hw] at e1 e2 e3
  simp only [] at e1 e2 e3
  have hwl : (b.take (n - 4)).length = n - 4 := by simp; omega
  generalize hwg : b.take (n - 4) = w at *
  obtain ⟨l', f1, f2, f3, f4⟩ := all_ok (w.drop (getN b).2.1).length (w.drop (getN b).2.1) 0 [] (allN (w.drop (getN b).2.1)).1 (allN (w.drop (getN b).2.1)).2.1 (fun c hc => hwb c (List.mem_of_mem_drop hc)) (by omega) (by
    show allN (w.drop (getN b).2.1) = _
    rw [← ha])
  rw [List.nil_append] at f1
  rw [List.drop_zero] at f2
  rw [f1]
  have hbl : (bytesN l').length = (getN b).1 := by rw [← f2, List.length_drop]; omega
  refine ⟨?_, f3, hbl⟩
  rw [← hs, wholeB, hbl, ← f2, ← e1]
theorem nums_lt64 {f : Int} {R : List Run} (hc : chkB f R = 0) : ∀ n ∈ numsN f R, n < 18446744073709551616 := fun n hn => by
  obtain ⟨h1, h2, h3, h4, h5, h6⟩ := chkB_ok hc
  have := nums_lt h1 h3 (chk_right h4).1 n hn
  omega
theorem nums_bytes {f : Int} {R : List Run} (hc : chkB f R = 0) : (bytesN (numsN f R)).length ≤ 82000 := by
  obtain ⟨h1, h2, h3, h4, h5, h6⟩ := chkB_ok hc
  exact inside_len h1 h3 (chk_right h4).1
theorem wholeB_byte (l : List Nat) (hl : ∀ n ∈ l, n < 18446744073709551616) (hll : (bytesN l).length < 18446744073709551616) : ∀ c ∈ wholeB l, c < 256 := by
  intro c hc
  simp only [wholeB, sealB, List.mem_append] at hc
  rcases hc with (hc | hc) | hc
  · exact putN_byte 9 _ (by omega) c hc
  · exact bytes_byte l hl c hc
  · exact tail_byte _ c hc
theorem allN_length : ∀ (d : Nat) (b : List Nat) (p : Nat) (acc : List Nat), (∀ c ∈ b, c < 256) → acc.length ≤ p → p ≤ b.length → (allGo d b p acc).1.length ≤ b.length
  | 0, b, p, acc, _, h, hp => by simp [allGo]; omega
  | d + 1, b, p, acc, hb, h, hp => by
    rw [allGo]
    split
    · simp; omega
    · split
      · rename_i h1 h2
        have hk := get_k_le (fun c hc => hb c (List.mem_of_mem_drop hc)) h2
        simp at hk
        exact allN_length d b _ _ hb (by simp; omega) (by omega)
      · simp
theorem rget15_spec (b : List Nat) (hb : ∀ c ∈ b, c < 256) (hl : b.length ≤ 1000000) (nl fu : Bool) :
    call E (.func (.func 110) [] []) [.imm nl fu true (b.map encB)] []
      = some (.tup [.agg [.lit (.int .i64 (getB b).1.1), resV 0 ((getB b).1.2.map encRun)], .lit (.int .i64 (getB b).2.1), .lit (.int .i64 (getB b).2.2)], resHl true ((getB b).1.2.map encRun)) := by
  rw [call_func E E110]
  have hS := rsize_spec b hb (by omega) nl fu
  by_cases h1 : (sizeB b).2 = 0
  · obtain ⟨g1, g2, g3, g4, g5⟩ := size_ok hb h1
    by_cases h2 : (b.length : Int) < (sizeB b).1
    · have e : getB b = ((0, []), 0, 13) := by unfold getB; rw [if_neg (by simp [h1]), if_pos h2]
      rw [h1] at hS
      simp [go_sem, ir110, hS, e, h2, resV, resHl, purse_eq]
    · generalize hn : (getN b).2.1 + (getN b).1 + 4 = n at *
      rw [g3] at hS h2
      simp only [] at hS h2
      have hnle : n ≤ b.length := by omega
      have hr := rowsB b
      have hbt : ∀ c ∈ b.take n, c < 256 := fun c hc => hb c (List.mem_of_mem_take hc)
      have hO := ropen_spec (b.take n) hbt (by simp; omega) nl (fu && decide (n = b.length))
      have htl : (b.take n).length = n := by simp; omega
      have htt : (b.take n).take (n - 4) = b.take (n - 4) := by rw [List.take_take, Nat.min_eq_left (by omega)]
      have hdn : decide (n - 4 = n) = false := decide_eq_false (by omega)
      rw [htl, htt, hdn, Bool.and_false] at hO
      by_cases h3 : openE (b.take n) = 0
      · rw [if_pos h3] at hO
        have hw := get_whole hb g1 (n - 4) (by omega)
        have hwb : ∀ c ∈ b.take (n - 4), c < 256 := fun c hc => hb c (List.mem_of_mem_take hc)
        have hG := rget_spec (b.take (n - 4)) hwb (by simp; omega) nl false
        have hA := rall_spec ((b.take (n - 4)).drop (getN b).2.1) (fun c hc => hwb c (List.mem_of_mem_drop hc)) (by simp; omega) nl false
        have hWT := whole_take hb g1 hn hnle h3
        have hal := allN_length ((b.take (n - 4)).drop (getN b).2.1).length ((b.take (n - 4)).drop (getN b).2.1) 0 [] (fun c hc => hwb c (List.mem_of_mem_drop hc)) (by simp) (by omega)
        rw [show allGo ((b.take (n - 4)).drop (getN b).2.1).length ((b.take (n - 4)).drop (getN b).2.1) 0 [] = allN ((b.take (n - 4)).drop (getN b).2.1) from rfl] at hal
        have e : getB b = if (allN ((b.take (n - 4)).drop (getN b).2.1)).2.2 = 0 ∧ insOk (allN ((b.take (n - 4)).drop (getN b).2.1)).1 = true then
            ((((insA (allN ((b.take (n - 4)).drop (getN b).2.1)).1).1 : Int), (insR (allN ((b.take (n - 4)).drop (getN b).2.1)).1).2), (n : Int), 0) else ((0, []), 0, 11) := by
          unfold getB
          rw [g3, if_neg (by simp), if_neg (by simpa using h2)]
          simp only [Int.toNat_natCast]
          rw [if_neg (by simp [h3])]
        have hwl : (b.take (n - 4)).length = n - 4 := by simp; omega
        rw [hw] at hG
        rw [List.map_drop] at hA
        have hrw := rowsB (b.take (n - 4))
        have htw := take_allB (b.take (n - 4))
        have hkn : (getN b).2.1 ≤ n - 4 := by omega
        have hdl : ((b.take (n - 4)).drop (getN b).2.1).length ≤ b.length := by simp; omega
        clear htt hw hwb
        generalize b.take (n - 4) = w at *
        have hle : w.length + 4 = n := by omega
        rw [hwl] at htw
        rw [List.map_take] at hO
        generalize allN (w.drop (getN b).2.1) = a at *
        have hOf := of_spec a.1 (by omega) false (a.1.isEmpty)
        have hon := of_ins a.1
        have hof := of_ins_eq (l := a.1)
        have hod := of_drive a.1
        have hol := of_length a.1
        by_cases ha : a.2.2 = 0
        · rw [if_pos ha] at hA
          obtain ⟨w1, w2, w3⟩ := hWT ha
          have hCk := fun nl fu => rcheck_spec (ofR a.1).1 (by
            have : ∀ l : List Nat, -1 ≤ (ofR l).1 ∧ (ofR l).1 ≤ 1073741824 := by
              intro l
              match l with
              | [] => simp [ofR]
              | [_] => simp [ofR]
              | x :: y :: r =>
                rw [ofR]
                split
                · simp
                · split <;> simp; omega
            have := this a.1
            omega) (ofR a.1).2 (by omega) nl fu
          have hlt64 : ∀ m, m = ofR a.1 → chkB m.1 m.2 = 0 → (wholeB (numsN m.1 m.2) = b.take n ↔ numsN m.1 m.2 = a.1) := by
            intro m hm hc
            constructor
            · intro hW
              rw [w1] at hW
              exact wholeB_inj (nums_lt64 hc) w2 (by have := nums_bytes hc; omega) (by omega) hW
            · intro hN
              rw [hN, w1]
          generalize hx : ofR a.1 = x at *
          obtain ⟨f, R⟩ := x
          simp only [] at hOf hon hCk hol
          by_cases hc : chkB f R = 0
          · have hRne := (chkB_ok hc).2.1
            have hP := rput15_spec f R false false hc
            have hCk1 := hCk false false
            rw [hc] at hCk1
            have hw64 := hlt64 (f, R) rfl hc
            have hwby := wholeB_byte (numsN f R) (nums_lt64 hc) (by have := nums_bytes hc; omega)
            simp only [] at hw64
            generalize wholeB (numsN f R) = W at hP hw64 hwby
            have hb1 := bytesOf_map W
            have hb2 : bytesOf (List.take n (List.map encB b)) = some ((b.take n).map UInt8.ofNat) := by rw [← List.map_take, bytesOf_map]
            have hWm : (W.map UInt8.ofNat == (b.take n).map UInt8.ofNat) = decide (W = b.take n) := by
              by_cases hq : W = b.take n
              · rw [hq]; simp
              · rw [decide_eq_false hq, beq_eq_false_iff_ne]
                exact fun e => hq (map_ofNat_inj hwby hbt e)
            generalize W.map UInt8.ofNat = S1 at hb1 hWm
            generalize (b.take n).map UInt8.ofNat = S2 at hb2 hWm
            by_cases hW : W = b.take n
            · have hok : insOk a.1 = true := hon.1 ⟨hc, hw64.1 hW⟩
              have e3 := hof hok
              simp only [Prod.mk.injEq] at e3
              have e2 : getB b = ((f, R), (n : Int), 0) := by rw [e, if_pos ⟨ha, hok⟩, ← e3.1, ← e3.2]
              simp [hle] at hO hA hG
              simp [resV, resH, hRne] at hOf
              simp [encBlk] at hCk1 hP
              rw [decide_eq_true hW] at hWm
              simp at hWm
              subst hWm
              simp [go_sem, ir110, hS, e2, h2, hnle, hr, hO, h3, hG, hkn, hwl, hrw, htw, hA, hOf, hCk1, hP, hb1, hb2, resV, resHl, hRne, purse_eq]
            · have hok : insOk a.1 = false := by
                cases hq : insOk a.1 with
                | false => rfl
                | true => exact absurd (hw64.2 (hon.2 hq).2) hW
              have e2 : getB b = ((0, []), 0, 11) := by rw [e, if_neg (by rw [hok]; simp)]
              simp [hle] at hO hA hG
              simp [resV, resH, hRne] at hOf
              simp [encBlk] at hCk1 hP
              rw [decide_eq_false hW] at hWm
              simp at hWm
              simp [go_sem, ir110, hS, e2, h2, hnle, hr, hO, h3, hG, hkn, hwl, hrw, htw, hA, hOf, hCk1, hP, hb1, hb2, hWm, resV, resHl, hRne, purse_eq]
          · have hok : insOk a.1 = false := by
              cases hq : insOk a.1 with
              | false => rfl
              | true => exact absurd (hon.2 hq).1 hc
            have e2 : getB b = ((0, []), 0, 11) := by rw [e, if_neg (by rw [hok]; simp)]
            simp [hle] at hO hA hG
            by_cases hR : R = []
            · subst hR
              have hCk1 := hCk true true
              simp [resV, resH] at hOf
              simp [encBlk] at hCk1
              simp [go_sem, ir110, hS, e2, h2, hnle, hr, hO, h3, hG, hkn, hwl, hrw, htw, hA, hOf, hCk1, hc, resV, resHl, purse_eq]
            · have hCk1 := hCk false false
              simp [resV, resH, hR] at hOf
              simp [encBlk] at hCk1
              simp [go_sem, ir110, hS, e2, h2, hnle, hr, hO, h3, hG, hkn, hwl, hrw, htw, hA, hOf, hCk1, hc, hR, resV, resHl, purse_eq]
        · rw [if_neg ha] at hA
          have hOf0 := of_spec [] (by simp) true true
          have e2 : getB b = ((0, []), 0, 11) := by rw [e, if_neg (fun h => ha h.1)]
          rw [show ofR [] = (-1, []) from rfl] at hOf0
          simp [resV, resH] at hOf0
          simp [hle] at hO hA hG
          simp [go_sem, ir110, hS, e2, h2, hnle, hr, hO, h3, hG, hkn, hwl, hrw, htw, hA, hOf0, ha, resV, resHl, purse_eq]
      · rw [if_neg h3] at hO
        have e : getB b = ((0, []), 0, openE (b.take n)) := by
          unfold getB
          rw [g3, if_neg (by simp), if_neg (by simpa using h2)]
          simp only [Int.toNat_natCast]
          rw [if_pos h3]
        rw [List.map_take] at hO
        simp [go_sem, ir110, hS, e, h2, hnle, hr, hO, h3, resV, resHl, purse_eq]
  · have e : getB b = ((0, []), 0, (sizeB b).2) := by unfold getB; rw [if_pos h1]
    simp [go_sem, ir110, hS, e, h1, resV, resHl, purse_eq]
end Go.AM.R1
open Go Go.AM
namespace Go.AM.R1

/-! ### A block that is put is got, and what is got was put -/
theorem bytes_len5 (l : List Nat) (h : ∀ n ∈ l, n < 4294967296) : (bytesN l).length ≤ 5 * l.length := by
  induction l with
  | nil => simp [bytesN]
  | cons n l ih =>
    have h1 := putN_length 4 n (by have := h n (by simp); omega)
    have h2 := ih fun m hm => h m (by simp [hm])
    simp only [bytesN, List.flatMap_cons, List.length_append, List.length_cons] at h2 ⊢
    omega
theorem inside_65536 {f : Int} {R : List Run} (hc : chkB f R = 0) : (bytesN (numsN f R)).length ≤ 41000 := by
  obtain ⟨h1, h2, h3, h4, h5, h6⟩ := chkB_ok hc
  have := bytes_len5 (numsN f R) (nums_lt h1 h3 (chk_right h4).1)
  have e : (numsN f R).length = 2 * R.length + 2 := by simp only [numsN, List.length_cons, runN_length]
  omega
theorem whole_len (l : List Nat) : (wholeB l).length = (putN (bytesN l).length).length + (bytesN l).length + 4 := whole_length l
theorem size_put {l : List Nat} (hl : (bytesN l).length ≤ 65536) (r : List Nat) : getN (wholeB l ++ r) = ((bytesN l).length, (putN (bytesN l).length).length, 0) ∧ sizeB (wholeB l ++ r) = (((wholeB l).length : Int), 0) := by
  have e : wholeB l ++ r = putN (bytesN l).length ++ (bytesN l ++ (tailN (crc (putN (bytesN l).length ++ bytesN l)).toNat ++ r)) := by
    simp [wholeB, sealB]
  have hg : getN (wholeB l ++ r) = ((bytesN l).length, (putN (bytesN l).length).length, 0) := by rw [e]; exact get_put (by omega) _
  refine ⟨hg, ?_⟩
  unfold sizeB
  rw [hg, if_neg (by simp), if_neg (by simp; omega), whole_len]
theorem get_of_put {f : Int} {R : List Run} (hc : chkB f R = 0) (hd : ∀ r ∈ R, 0 ≤ r.Drive ∧ r.Drive ≤ 4294967295) (r : List Nat) :
    getB (wholeB (numsN f R) ++ r) = ((f, R), ((wholeB (numsN f R)).length : Int), 0) := by
  have hlen := inside_65536 hc
  obtain ⟨hg, hs⟩ := size_put (l := numsN f R) (by omega) r
  have hn64 := nums_lt64 hc
  have hwl := whole_len (numsN f R)
  have hW4 : (wholeB (numsN f R)).take ((wholeB (numsN f R)).length - 4) = putN (bytesN (numsN f R)).length ++ bytesN (numsN f R) := by
    rw [whole_len]
    unfold wholeB sealB
    rw [List.take_append_of_le_length (by simp <;> omega), List.take_of_length_le (by simp)]
  have hT : (wholeB (numsN f R) ++ r).take (wholeB (numsN f R)).length = wholeB (numsN f R) := by rw [List.take_append_of_le_length (by omega), List.take_length]
  have hO : openE (wholeB (numsN f R)) = 0 := by
    rw [seal_take _ (by omega), hW4]; rfl
  have hT4 : (wholeB (numsN f R) ++ r).take ((wholeB (numsN f R)).length - 4) = putN (bytesN (numsN f R)).length ++ bytesN (numsN f R) := by
    rw [List.take_append_of_le_length (by omega), hW4]
  have hA : allN (bytesN (numsN f R)) = (numsN f R, 0, 0) := by
    have := all_bytes (numsN f R) (bytesN (numsN f R)).length (bytesN (numsN f R)) 0 [] rfl hn64 (by omega)
    simpa [allN] using this
  obtain ⟨i1, i2, i3, i4⟩ := ins_nums hc hd
  unfold getB
  rw [hs, if_neg (by simp), if_neg (by simp; omega)]
  simp only [Int.toNat_natCast]
  rw [hT, if_neg (by simp [hO]), hT4, hg]
  simp only []
  rw [List.drop_left, hA]
  simp only []
  rw [if_pos ⟨trivial, i3⟩, i1, i2]
/-- What is got. -/
theorem put_of_get {b : List Nat} (hb : ∀ c ∈ b, c < 256) (h : (getB b).2.2 = 0) :
    ∃ (f : Int) (R : List Run) (n : Nat), getB b = ((f, R), (n : Int), 0) ∧ chkB f R = 0 ∧ (∀ r ∈ R, 0 ≤ r.Drive ∧ r.Drive ≤ 4294967295) ∧ b.take n = wholeB (numsN f R) ∧ 1 ≤ n ∧ n ≤ b.length := by
  unfold getB at h
  split at h
  · rename_i h1; simp at h; exact absurd h h1
  · rename_i h1
    have h1' : (sizeB b).2 = 0 := by simpa using h1
    obtain ⟨g1, g2, g3, g4, g5⟩ := size_ok hb h1'
    split at h
    · simp at h
    · rename_i h2
      split at h
      · rename_i h3; simp at h; exact absurd h h3
      · rename_i h3
        split at h
        · rename_i h4
          rw [g3] at h2 h3 h4
          simp only [Int.toNat_natCast] at h2 h3 h4
          have hle : (getN b).2.1 + (getN b).1 + 4 ≤ b.length := by omega
          have h3' : openE (b.take ((getN b).2.1 + (getN b).1 + 4)) = 0 := by simpa using h3
          obtain ⟨w1, w2, w3⟩ := whole_take hb g1 rfl hle h3' h4.1
          obtain ⟨i1, i2, i3⟩ := ins_good h4.2
          refine ⟨_, _, (getN b).2.1 + (getN b).1 + 4, ?_, i1, i3, ?_, by omega, hle⟩
          · unfold getB
            rw [g3, if_neg (by simp)]
            simp only [Int.toNat_natCast]
            rw [if_neg h2, if_neg h3, if_pos h4]
          · rw [w1, i2]
        · simp at h
theorem get_bad {b : List Nat} (h : (getB b).2.2 ≠ 0) : (getB b).1 = (0, []) ∧ (getB b).2.1 = 0 := by
  unfold getB at h ⊢
  split
  · exact ⟨rfl, rfl⟩
  · rename_i h1
    rw [if_neg h1] at h
    split
    · exact ⟨rfl, rfl⟩
    · rename_i h2
      rw [if_neg h2] at h
      split
      · exact ⟨rfl, rfl⟩
      · rename_i h3
        rw [if_neg h3] at h
        split
        · rename_i h4
          rw [if_pos h4] at h; simp at h
        · exact ⟨rfl, rfl⟩
theorem chkB_Ok {f : Int} {R : List Run} (hc : chkB f R = 0) : ∀ r ∈ R, r.Ok := fun r hr => by
  have := (chk_right (chkB_ok hc).2.2.2.1).1 r hr
  exact ⟨by omega, by omega⟩
end Go.AM.R1
open Go Go.AM Go.Proofs
namespace Go.AM.R1

section
variable {H : Type} {P : Program}
theorem decV_int {n : Nat} {t : TypeId} {ik : IntKind} (hu : P.underlying t = some (.int ik)) {d : DataW H} {a : AVal} (h : DecV P (n + 1) t d a) :
    ∃ v, d = .lit (.int ik v) ∧ (Lit.int ik v).wf = true ∧ a = .lit (.int ik v) := by
  unfold DecV at h
  rw [if_neg (by simp [isAggT, hu])] at h
  simp only [Dec, hu] at h
  obtain ⟨v, h1, h2, h3⟩ := h
  exact ⟨v, h1, h2, by simpa using h3⟩
theorem all2_forall {α β : Type} {R : α → β → Prop} {Q : β → Prop} (h : ∀ a b, R a b → Q b) : ∀ {l : List α} {m : List β}, All2 R l m → ∀ b ∈ m, Q b
  | [], [], _, b, hb => by cases hb
  | [], _ :: _, h', _, _ => h'.elim
  | _ :: _, [], h', _, _ => h'.elim
  | a :: r, c :: s, h', b, hb => by
    rcases List.mem_cons.1 hb with rfl | hb
    · exact h _ _ h'.1
    · exact all2_forall h h'.2 b hb
theorem all2_length {α β : Type} {R : α → β → Prop} : ∀ {l : List α} {m : List β}, All2 R l m → l.length = m.length
  | [], [], _ => rfl
  | [], _ :: _, h' => h'.elim
  | _ :: _, [], h' => h'.elim
  | a :: r, c :: s, h' => by simp [all2_length h'.2]
/-- Rows that are all of a form. -/
theorem rows_map {α : Type} (f : α → List AVal) (Q : α → Prop) : ∀ {rows : List (List AVal)}, (∀ r ∈ rows, ∃ x, r = f x ∧ Q x) → ∃ l : List α, rows = l.map f ∧ ∀ x ∈ l, Q x
  | [], _ => ⟨[], rfl, by simp⟩
  | r :: s, h => by
    obtain ⟨x, hx, hq⟩ := h r (by simp)
    obtain ⟨l, hl, hl2⟩ := rows_map f Q (rows := s) fun y hy => h y (by simp [hy])
    exact ⟨x :: l, by rw [hx, hl]; rfl, fun y hy => by rcases List.mem_cons.1 hy with rfl | hy <;> simp_all⟩

theorem wf64 {v : Int} (h : (Lit.int .i64 v).wf = true) : -9223372036854775808 ≤ v ∧ v ≤ 9223372036854775807 := by
  simpa [Lit.wf, IntKind.min, IntKind.max, IntKind.signed, IntKind.bits] using h
theorem wfu32 {v : Int} (h : (Lit.int .u32 v).wf = true) : 0 ≤ v ∧ v ≤ 4294967295 := by
  simpa [Lit.wf, IntKind.min, IntKind.max, IntKind.signed, IntKind.bits] using h

theorem fieldsR_cons {α β : Type} {R : TypeId → α → β → Prop} {f : Field} {fs : List Field} : ∀ {l : List α} {m : List β}, FieldsR R (f :: fs) l m → ∃ a r b s, l = a :: r ∧ m = b :: s ∧ R f.type a b ∧ FieldsR R fs r s
  | [], _, h => h.elim
  | _ :: _, [], h => h.elim
  | a :: r, b :: s, h => ⟨a, r, b, s, rfl, rfl, h.1, h.2⟩
theorem fieldsR_nil {α β : Type} {R : TypeId → α → β → Prop} : ∀ {l : List α} {m : List β}, FieldsR R [] l m → l = [] ∧ m = []
  | [], [], _ => ⟨rfl, rfl⟩
  | [], _ :: _, h => h.elim
  | _ :: _, _, h => h.elim
theorem decArgs_cons {k : Nat} {t : TypeId} {ts : List TypeId} : ∀ {ds : List (DataW H)} {cs : List AVal}, DecArgs P k (t :: ts) ds cs → ∃ d r b s, ds = d :: r ∧ cs = b :: s ∧ DecV P k t d b ∧ DecArgs P k ts r s
  | [], _, h => h.elim
  | _ :: _, [], h => h.elim
  | d :: r, b :: s, h => ⟨d, r, b, s, rfl, rfl, h.1, h.2⟩
theorem decArgs_nil {k : Nat} : ∀ {ds : List (DataW H)} {cs : List AVal}, DecArgs P k [] ds cs → ds = [] ∧ cs = []
  | [], [], _ => ⟨rfl, rfl⟩
  | [], _ :: _, h => h.elim
  | _ :: _, _, h => h.elim
structure IsRun (P : Program) (t : TypeId) where
  f1 : Field
  f2 : Field
  f3 : Field
  hu : P.underlying t = some (.struct #[f1, f2, f3])
  h1 : P.underlying f1.type = some (.int .i64)
  h2 : P.underlying f2.type = some (.int .i64)
  h3 : P.underlying f3.type = some (.int .u32)
def Run.Fit (r : Run) : Prop := (-9223372036854775808 ≤ r.N ∧ r.N ≤ 9223372036854775807) ∧ (-9223372036854775808 ≤ r.Bus ∧ r.Bus ≤ 9223372036854775807) ∧ (0 ≤ r.Drive ∧ r.Drive ≤ 4294967295)
theorem dec_run {n : Nat} {t : TypeId} (i : IsRun P t) {d : DataW H} {cs : List AVal} (h : Dec P (n + 2) t d cs) : ∃ r : Run, cs = encRun r ∧ r.Fit := by
  simp only [Dec, i.hu] at h
  obtain ⟨parts, ass, -, rfl, hf⟩ := h
  obtain ⟨p1, ps1, a1, as1, rfl, rfl, r1, hf⟩ := fieldsR_cons hf
  obtain ⟨p2, ps2, a2, as2, rfl, rfl, r2, hf⟩ := fieldsR_cons hf
  obtain ⟨p3, ps3, a3, as3, rfl, rfl, r3, hf⟩ := fieldsR_cons hf
  obtain ⟨rfl, rfl⟩ := fieldsR_nil hf
  simp only [Dec, i.h1, i.h2, i.h3] at r1 r2 r3
  obtain ⟨v1, -, w1, rfl⟩ := r1
  obtain ⟨v2, -, w2, rfl⟩ := r2
  obtain ⟨v3, -, w3, rfl⟩ := r3
  exact ⟨⟨v1, v2, v3⟩, rfl, wf64 w1, wf64 w2, wfu32 w3⟩
theorem dec_runs {n : Nat} {t e : TypeId} (hu : P.underlying t = some (.slice e)) (i : IsRun P e) {d : DataW H} {a : AVal} (h : DecV P (n + 3) t d a) :
    ∃ (nl fu : Bool) (l : List Run), a = .imm nl fu true (l.map encRun) ∧ ∀ r ∈ l, r.Fit := by
  unfold DecV at h
  rw [if_neg (by simp [isAggT, hu])] at h
  rw [Dec, hu] at h
  rcases h with ⟨-, h⟩ | ⟨elems, spare, rows, -, h, h2, h3⟩
  · exact ⟨true, true, [], by simpa [nilS] using h, by simp⟩
  · obtain ⟨l, rfl, hl⟩ := rows_map encRun Run.Fit (all2_forall (Q := fun b => ∃ r : Run, b = encRun r ∧ r.Fit) (fun a b hab => dec_run i hab) h2)
    exact ⟨false, false, l, by simpa using h, hl⟩
theorem all2_flat {α : Type} (f : α → List AVal) (Q : α → Prop) {R : DataW H → List AVal → Prop} (h : ∀ d a, R d a → ∃ x, a = f x ∧ Q x) :
    ∀ {ds : List (DataW H)} {ass : List (List AVal)}, All2 R ds ass → ∃ l : List α, l.length = ds.length ∧ ass = l.map f ∧ ∀ x ∈ l, Q x
  | [], [], _ => ⟨[], rfl, rfl, by simp⟩
  | [], _ :: _, h' => h'.elim
  | _ :: _, [], h' => h'.elim
  | d :: ds, a :: ass, h' => by
    obtain ⟨x, hx, hq⟩ := h _ _ h'.1
    obtain ⟨l, h1, h2, h3⟩ := all2_flat f Q h h'.2
    exact ⟨x :: l, by simp [h1], by rw [hx, h2]; rfl, fun y hy => by rcases List.mem_cons.1 hy with rfl | hy <;> simp_all⟩
theorem decV_ints {n m : Nat} {t e : TypeId} {ik : IntKind} (hu : P.underlying t = some (.array m e)) (he : P.underlying e = some (.int ik)) {d : DataW H} {a : AVal} (h : DecV P (n + 2) t d a) :
    ∃ l : List Int, l.length = m ∧ a = .agg (l.map fun v => .lit (.int ik v)) ∧ ∀ v ∈ l, (Lit.int ik v).wf = true := by
  unfold DecV at h
  rw [if_pos (by simp [isAggT, hu])] at h
  obtain ⟨cs, rfl, h⟩ := h
  rw [Dec, hu] at h
  obtain ⟨parts, ass, -, rfl, hm, h2⟩ := h
  obtain ⟨l, h3, rfl, h5⟩ := all2_flat (fun v => [AVal.lit (.int ik v)]) (fun v => (Lit.int ik v).wf = true) (fun d a hda => by
    simp only [Dec, he] at hda
    obtain ⟨v, -, hw, rfl⟩ := hda
    exact ⟨v, rfl, hw⟩) h2
  refine ⟨l, by omega, ?_, h5⟩
  congr 1
  clear h5 h3 h2
  induction l with
  | nil => rfl
  | cons x r ih => simp [ih]
end
end Go.AM.R1
open Go Go.AM Go.Proofs
namespace Go.AM.R1
section
variable {H : Type} {P : Program}
theorem dec_runs' {n : Nat} {t e : TypeId} (hu : P.underlying t = some (.slice e)) (i : IsRun P e) {d : DataW H} {cs : List AVal} (h : Dec P (n + 3) t d cs) :
    ∃ (nl fu : Bool) (l : List Run), cs = [.imm nl fu true (l.map encRun)] ∧ ∀ r ∈ l, r.Fit := by
  rw [Dec, hu] at h
  rcases h with ⟨-, h⟩ | ⟨elems, spare, rows, -, h, h2, h3⟩
  · exact ⟨true, true, [], by simpa [nilS] using h, by simp⟩
  · obtain ⟨l, rfl, hl⟩ := rows_map encRun Run.Fit (all2_forall (Q := fun b => ∃ r : Run, b = encRun r ∧ r.Fit) (fun a b hab => dec_run i hab) h2)
    exact ⟨false, false, l, h, hl⟩
theorem decV_block {n : Nat} {t e : TypeId} {f1 f2 : Field} (hu : P.underlying t = some (.struct #[f1, f2])) (h1 : P.underlying f1.type = some (.int .i64)) (h2 : P.underlying f2.type = some (.slice e)) (i : IsRun P e)
    {d : DataW H} {a : AVal} (h : DecV P (n + 4) t d a) : ∃ (first : Int) (nl fu : Bool) (l : List Run), a = .agg (encBlk first l nl fu) ∧ (Lit.int .i64 first).wf = true ∧ ∀ r ∈ l, r.Fit := by
  unfold DecV at h
  rw [if_pos (by simp [isAggT, hu])] at h
  obtain ⟨cs, rfl, h⟩ := h
  rw [Dec, hu] at h
  obtain ⟨parts, ass, -, rfl, hf⟩ := h
  obtain ⟨p1, ps1, a1, as1, rfl, rfl, r1, hf⟩ := fieldsR_cons hf
  obtain ⟨p2, ps2, a2, as2, rfl, rfl, r2, hf⟩ := fieldsR_cons hf
  obtain ⟨rfl, rfl⟩ := fieldsR_nil hf
  simp only [Dec, h1] at r1
  obtain ⟨v1, -, w1, rfl⟩ := r1
  obtain ⟨nl, fu, l, rfl, hl⟩ := dec_runs' h2 i r2
  exact ⟨v1, nl, fu, l, rfl, w1, hl⟩
/-- Bytes. -/
theorem decV_bytes {n : Nat} {t e : TypeId} (hu : P.underlying t = some (.slice e)) (he : P.underlying e = some (.int .u8)) {d : DataW H} {a : AVal} (h : DecV P (n + 2) t d a) :
    ∃ (nl fu : Bool) (l : List Nat), a = .imm nl fu true (l.map encB) ∧ (nl = false ∨ l = []) ∧ ∀ c ∈ l, c < 256 := by
  unfold DecV at h
  rw [if_neg (by simp [isAggT, hu])] at h
  rw [Dec, hu] at h
  rcases h with ⟨-, h⟩ | ⟨elems, spare, rows, -, h, h2, h3⟩
  · exact ⟨true, true, [], by simpa [nilS] using h, .inr rfl, by simp⟩
  · obtain ⟨l, rfl, hl⟩ := rows_map encB (fun c => c < 256) (all2_forall (Q := fun b => ∃ c : Nat, b = encB c ∧ c < 256) (fun a b hab => by
      simp only [Dec, he] at hab
      obtain ⟨v, -, hw, rfl⟩ := hab
      have hv : 0 ≤ v ∧ v ≤ 255 := by simpa [Lit.wf, IntKind.min, IntKind.max, IntKind.signed, IntKind.bits] using hw
      refine ⟨v.toNat, ?_, by omega⟩
      unfold encB
      rw [show ((v.toNat : Nat) : Int) = v from by omega]) h2)
    exact ⟨false, false, l, by simpa using h, .inl rfl, hl⟩
end
end Go.AM.R1
open Go Go.AM
namespace Go.AM.R1

/-! ### Scripts -/
def encScr (node first : Int) (l : List Run) (nl fu : Bool) : List AVal := [.lit (.int .i64 node), .lit (.int .i64 first), .imm nl fu true (l.map encRun)]
def okR (r : Run) : Bool := decide (1 ≤ r.N) && decide (r.N ≤ 1073741824) && (decide (0 ≤ r.Bus) && decide (r.Bus ≤ 1))
def okP (node first : Int) : Bool := decide (0 ≤ node) && decide (node ≤ 31) && (decide (0 ≤ first) && decide (first ≤ 1073741824))
/-- How a script is wrong. -/
def chkS (node first : Int) (l : List Run) : Int := if okP node first = true ∧ l.all okR = true then (if 1073741824 < sumN l then 12 else 0) else 10
theorem okR_N {r : Run} (h : okR r = true) : (1 ≤ r.N ∧ r.N ≤ 1073741824) ∧ (0 ≤ r.Bus ∧ r.Bus ≤ 1) := by
  simp [okR] at h; omega
/-- The place of the first one that is so. -/
def findI {α : Type} (p : α → Bool) : Nat → List α → Int
  | _, [] => -1
  | i, r :: l => if p r = true then (i : Int) else findI p (i + 1) l
theorem findI_ge {α : Type} (p : α → Bool) : ∀ (l : List α) (i : Nat), (decide ((0 : Int) ≤ findI p i l)) = l.any p
  | [], i => by simp [findI]
  | r :: l, i => by
    rw [findI, List.any_cons]
    cases hp : p r with
    | true => simp
    | false => simp [findI_ge p l]
theorem any_not {α : Type} (p : α → Bool) (l : List α) : (l.any fun x => !p x) = !(l.all p) := by
  induction l with
  | nil => rfl
  | cons x r ih => simp [List.any_cons, List.all_cons, ih, Bool.not_and]
end Go.AM.R1
open Go Go.AM Go.Proofs
namespace Go.AM.R1
section
variable {H : Type} {P : Program}
structure IsScr (P : Program) (t : TypeId) where
  f1 : Field
  f2 : Field
  f3 : Field
  e : TypeId
  hu : P.underlying t = some (.struct #[f1, f2, f3])
  h1 : P.underlying f1.type = some (.int .i64)
  h2 : P.underlying f2.type = some (.int .i64)
  h3 : P.underlying f3.type = some (.slice e)
  i : IsRun P e
structure Scr where
  node : Int
  first : Int
  runs : List Run
  nl : Bool
  fu : Bool
def encS (s : Scr) : List AVal := encScr s.node s.first s.runs s.nl s.fu
def Scr.Fit (s : Scr) : Prop := (-9223372036854775808 ≤ s.node ∧ s.node ≤ 9223372036854775807) ∧ (-9223372036854775808 ≤ s.first ∧ s.first ≤ 9223372036854775807) ∧ ∀ r ∈ s.runs, r.Fit
theorem dec_scr {n : Nat} {t : TypeId} (i : IsScr P t) {d : DataW H} {cs : List AVal} (h : Dec P (n + 4) t d cs) : ∃ s : Scr, cs = encS s ∧ s.Fit := by
  rw [Dec, i.hu] at h
  obtain ⟨parts, ass, -, rfl, hf⟩ := h
  obtain ⟨p1, ps1, a1, as1, rfl, rfl, r1, hf⟩ := fieldsR_cons hf
  obtain ⟨p2, ps2, a2, as2, rfl, rfl, r2, hf⟩ := fieldsR_cons hf
  obtain ⟨p3, ps3, a3, as3, rfl, rfl, r3, hf⟩ := fieldsR_cons hf
  obtain ⟨rfl, rfl⟩ := fieldsR_nil hf
  simp only [Dec, i.h1, i.h2] at r1 r2
  obtain ⟨v1, -, w1, rfl⟩ := r1
  obtain ⟨v2, -, w2, rfl⟩ := r2
  obtain ⟨nl, fu, l, rfl, hl⟩ := dec_runs' i.h3 i.i r3
  exact ⟨⟨v1, v2, l, nl, fu⟩, rfl, wf64 w1, wf64 w2, hl⟩
theorem decV_scr {n : Nat} {t : TypeId} (i : IsScr P t) {d : DataW H} {a : AVal} (h : DecV P (n + 4) t d a) : ∃ s : Scr, a = .agg (encS s) ∧ s.Fit := by
  unfold DecV at h
  rw [if_pos (by simp [isAggT, i.hu])] at h
  obtain ⟨cs, rfl, h⟩ := h
  obtain ⟨s, rfl, hs⟩ := dec_scr i h
  exact ⟨s, rfl, hs⟩
/-- Rows of scripts. -/
theorem decV_scrs {n : Nat} {t e : TypeId} (hu : P.underlying t = some (.slice e)) (i : IsScr P e) {d : DataW H} {a : AVal} (h : DecV P (n + 5) t d a) :
    ∃ (nl fu : Bool) (l : List Scr), a = .imm nl fu true (l.map encS) ∧ ∀ r ∈ l, r.Fit := by
  unfold DecV at h
  rw [if_neg (by simp [isAggT, hu])] at h
  rw [Dec, hu] at h
  rcases h with ⟨-, h⟩ | ⟨elems, spare, rows, -, h, h2, h3⟩
  · exact ⟨true, true, [], by simpa [nilS] using h, by simp⟩
  · obtain ⟨l, rfl, hl⟩ := rows_map encS Scr.Fit (all2_forall (Q := fun b => ∃ r : Scr, b = encS r ∧ r.Fit) (fun a b hab => dec_scr i hab) h2)
    exact ⟨false, false, l, by simpa using h, hl⟩
end
end Go.AM.R1
open Go Go.AM Go.Proofs
namespace Go.AM.R1
section
variable {H : Type} {P : Program}
/-- A row of runs, as it is handed over. -/
structure RowV where
  nl : Bool
  fu : Bool
  l : List Run
def encRow (r : RowV) : List AVal := [.imm r.nl r.fu true (r.l.map encRun)]
def RowV.Fit (r : RowV) : Prop := (∀ x ∈ r.l, x.Fit) ∧ r.l.length ≤ 9223372036854775807
theorem dec_row {n : Nat} {t e : TypeId} (hu : P.underlying t = some (.slice e)) (i : IsRun P e) {d : DataW H} {cs : List AVal} (h : Dec P (n + 3) t d cs) :
    ∃ r : RowV, cs = encRow r ∧ r.Fit := by
  rw [Dec, hu] at h
  rcases h with ⟨-, h⟩ | ⟨elems, spare, rows, -, h, h2, h3⟩
  · exact ⟨⟨true, true, []⟩, by simpa [nilS, encRow] using h, by simp, by simp⟩
  · obtain ⟨l, rfl, hl⟩ := rows_map encRun Run.Fit (all2_forall (Q := fun b => ∃ r : Run, b = encRun r ∧ r.Fit) (fun a b hab => dec_run i hab) h2)
    exact ⟨⟨false, false, l⟩, h, hl, by simpa [maxLen] using h3⟩
theorem dec_rows {n : Nat} {t s e : TypeId} (ht : P.underlying t = some (.slice s)) (hu : P.underlying s = some (.slice e)) (i : IsRun P e) {d : DataW H} {cs : List AVal} (h : Dec P (n + 4) t d cs) :
    ∃ (nl fu : Bool) (l : List RowV), cs = [.imm nl fu true (l.map encRow)] ∧ (∀ r ∈ l, r.Fit) ∧ l.length ≤ 9223372036854775807 := by
  rw [Dec, ht] at h
  rcases h with ⟨-, h⟩ | ⟨elems, spare, rows, -, h, h2, h3⟩
  · exact ⟨true, true, [], by simpa [nilS] using h, by simp, by simp⟩
  · obtain ⟨l, rfl, hl⟩ := rows_map encRow RowV.Fit (all2_forall (Q := fun b => ∃ r : RowV, b = encRow r ∧ r.Fit) (fun a b hab => dec_row hu i hab) h2)
    exact ⟨false, false, l, h, hl, by simpa [maxLen] using h3⟩
theorem decV_rows {n : Nat} {t s e : TypeId} (ht : P.underlying t = some (.slice s)) (hu : P.underlying s = some (.slice e)) (i : IsRun P e) {d : DataW H} {a : AVal} (h : DecV P (n + 4) t d a) :
    ∃ (nl fu : Bool) (l : List RowV), a = .imm nl fu true (l.map encRow) ∧ (∀ r ∈ l, r.Fit) ∧ l.length ≤ 9223372036854775807 := by
  unfold DecV at h
  rw [if_neg (by simp [isAggT, ht])] at h
  obtain ⟨nl, fu, l, h1, h2⟩ := dec_rows ht hu i h
  exact ⟨nl, fu, l, by simpa using h1, h2⟩
/-- Two lists of rows. -/
theorem decV_two {n : Nat} {t u s e : TypeId} (hh : P.underlying t = some (.array 2 u)) (ht : P.underlying u = some (.slice s)) (hu : P.underlying s = some (.slice e)) (i : IsRun P e) {d : DataW H} {a : AVal} (h : DecV P (n + 5) t d a) :
    ∃ (nl fu nl' fu' : Bool) (l m : List RowV), a = .agg [.imm nl fu true (l.map encRow), .imm nl' fu' true (m.map encRow)] ∧ ((∀ r ∈ l, r.Fit) ∧ l.length ≤ 9223372036854775807) ∧ ((∀ r ∈ m, r.Fit) ∧ m.length ≤ 9223372036854775807) := by
  unfold DecV at h
  rw [if_pos (by simp [isAggT, hh])] at h
  obtain ⟨cs, rfl, h⟩ := h
  rw [Dec, hh] at h
  obtain ⟨parts, ass, -, rfl, hm, h2⟩ := h
  match parts, ass, hm, h2 with
  | [p1, p2], [a1, a2], _, ⟨h1, h2, _⟩ =>
    obtain ⟨nl, fu, l, rfl, hl⟩ := dec_rows ht hu i h1
    obtain ⟨nl', fu', m, rfl, hm⟩ := dec_rows ht hu i h2
    exact ⟨nl, fu, nl', fu', l, m, rfl, hl, hm⟩
/-- A row of rows in a struct of one part. -/
theorem dec_act {n : Nat} {t e : TypeId} {f1 : Field} (hs : P.underlying t = some (.struct #[f1])) (hu : P.underlying f1.type = some (.slice e)) (i : IsRun P e) {d : DataW H} {cs : List AVal} (h : Dec P (n + 4) t d cs) :
    ∃ r : RowV, cs = encRow r ∧ r.Fit := by
  rw [Dec, hs] at h
  obtain ⟨parts, ass, -, rfl, hf⟩ := h
  obtain ⟨p1, ps1, a1, as1, rfl, rfl, r1, hf⟩ := fieldsR_cons hf
  obtain ⟨rfl, rfl⟩ := fieldsR_nil hf
  obtain ⟨r, rfl, hr⟩ := dec_row hu i r1
  exact ⟨r, by simp [encRow], hr⟩
theorem decV_acts {n : Nat} {t s e : TypeId} {f1 : Field} (ht : P.underlying t = some (.slice s)) (hs : P.underlying s = some (.struct #[f1])) (hu : P.underlying f1.type = some (.slice e)) (i : IsRun P e) {d : DataW H} {a : AVal} (h : DecV P (n + 5) t d a) :
    ∃ (nl fu : Bool) (l : List RowV), a = .imm nl fu true (l.map encRow) ∧ (∀ r ∈ l, r.Fit) ∧ l.length ≤ 9223372036854775807 := by
  unfold DecV at h
  rw [if_neg (by simp [isAggT, ht])] at h
  rw [Dec, ht] at h
  rcases h with ⟨-, h⟩ | ⟨elems, spare, rows, -, h, h2, h3⟩
  · exact ⟨true, true, [], by simpa [nilS] using h, by simp, by simp⟩
  · obtain ⟨l, rfl, hl⟩ := rows_map encRow RowV.Fit (all2_forall (Q := fun b => ∃ r : RowV, b = encRow r ∧ r.Fit) (fun a b hab => dec_act hs hu i hab) h2)
    exact ⟨false, false, l, by simpa using h, hl, by simpa [maxLen] using h3⟩
end
end Go.AM.R1
open Go Go.AM
namespace Go.AM.R1

/-! ### log.Scan: the walk -/
abbrev Bk := Int × List Run
def encBk (x : Bk) : List AVal := [.lit (.int .i64 x.1), .imm false false true (x.2.map encRun)]
/-- The blocks from a place, and a tick, on; and where they end. -/
def scanGo : Nat → List Nat → Nat → Int → List Bk → List Bk × Nat × Int
  | 0, _, p, t, acc => (acc, p, t)
  | d + 1, b, p, t, acc =>
    if (getB (b.drop p)).2.2 = 0 ∧ (getB (b.drop p)).1.1 = t then
      scanGo d b (p + (getB (b.drop p)).2.1.toNat) (t + sumN (getB (b.drop p)).1.2) (acc ++ [(getB (b.drop p)).1])
    else (acc, p, t)
def scanB (b : List Nat) : List Bk × Nat × Int := scanGo (b.length + 1) b 0 0 []

def scH (acc : List Bk) (n : Nat) : Heap :=
  if acc = [] then [.loop 0 none [(4, .ptr 1 0), (5, .ptr 2 0)] [10, 11] A48_0 B48_0, .box [nilS], .box [.lit (.int .i64 n)]]
  else [.loop 0 none [(4, .ptr 1 0), (5, .ptr 3 0)] [10, 11] A48_0 B48_0, .box [.own 2 acc.length 2 0 acc.length], .arr true false false 2 (acc.map encBk), .box [.lit (.int .i64 n)]]
theorem scY0 (n : Nat) (x : Bk) (p : Nat) (t : Int) :
    call E (.yld 0) [.agg (encBk x), .agg [.lit (.int .i64 p), .lit (.int .i64 t)]] (scH [] n)
      = some (.lit (.bool true), [.loop 0 none [(4, .ptr 1 0), (5, .ptr 2 0)] [10, 11] A48_0 B48_0, .box [.own 3 1 2 0 1], .box [.lit (.int .i64 p)], .arr true false false 2 [encBk x]]) := by
  simp [go_sem, scH, encBk, run_codeL E A48_0.eq_1, run_codeL E B48_0.eq_1, purse_eq, List.range_succ]
theorem scY1 (acc : List Bk) (ha : acc.length ≤ 1099511627) (h : acc ≠ []) (n : Nat) (x : Bk) (p : Nat) (t : Int) :
    call E (.yld 0) [.agg (encBk x), .agg [.lit (.int .i64 p), .lit (.int .i64 t)]] (scH acc n)
      = some (.lit (.bool true), scH (acc ++ [x]) p) := by
  have hb : ¬ (70368744177664 < (acc.length + 1) * 32) := by omega
  simp [go_sem, scH, h, encBk, run_codeL E A48_0.eq_1, run_codeL E B48_0.eq_1, purse_eq, List.range_succ, hb]

theorem get_good {b : List Nat} (hb : ∀ c ∈ b, c < 256) (h : (getB b).2.2 = 0) :
    chkB (getB b).1.1 (getB b).1.2 = 0 ∧ (∀ r ∈ (getB b).1.2, 0 ≤ r.Drive ∧ r.Drive ≤ 4294967295) ∧ 1 ≤ (getB b).2.1 ∧ (getB b).2.1 ≤ b.length ∧ b.take (getB b).2.1.toNat = wholeB (numsN (getB b).1.1 (getB b).1.2) := by
  obtain ⟨f, R, n, e, h1, h2, h3, h4, h5⟩ := put_of_get hb h
  rw [e]
  exact ⟨h1, h2, by simp; omega, by simp; omega, by simpa using h3⟩

/-- The heap at the head of the loop of blocks. -/
def scB (nl fu : Bool) (b : List Nat) (acc : List Bk) (p : Nat) (t : Int) (n : Nat) : Heap :=
  if acc = [] then [.box [.imm nl fu true (b.map encB)], .loop 0 none [(4, .ptr 2 0), (5, .ptr 3 0)] [10, 11] A48_0 B48_0, .box [nilS], .box [.lit (.int .i64 n)], .box [.lit (.int .i64 p), .lit (.int .i64 t)]]
  else [.box [.imm nl fu true (b.map encB)], .loop 0 none [(4, .ptr 2 0), (5, .ptr 3 0)] [10, 11] A48_0 B48_0, .box [.own 7 acc.length 2 0 acc.length], .box [.lit (.int .i64 n)], .box [.lit (.int .i64 p), .lit (.int .i64 t)], .dead, .dead, .arr true false false 2 (acc.map encBk)]
def scF (nl fu : Bool) (b : List Nat) (acc : List Bk) (n : Nat) : Heap :=
  if acc = [] then [.box [.imm nl fu true (b.map encB)], .loop 0 none [(4, .ptr 2 0), (5, .ptr 3 0)] [10, 11] A48_0 B48_0, .box [nilS], .box [.lit (.int .i64 n)]]
  else [.box [.imm nl fu true (b.map encB)], .loop 0 none [(4, .ptr 2 0), (5, .ptr 3 0)] [10, 11] A48_0 B48_0, .box [.own 4 acc.length 2 0 acc.length], .box [.lit (.int .i64 n)], .arr true false false 2 (acc.map encBk)]

theorem scan_loop (b : List Nat) (hb : ∀ c ∈ b, c < 256) (hl : b.length ≤ 1000000) (nl fu : Bool) (hnl : nl = false ∨ b = []) :
    ∀ (d p : Nat) (t : Int) (acc : List Bk), b.length + 1 ≤ p + d → p ≤ b.length → acc.length ≤ p → (0 ≤ t ∧ t ≤ 1073741824) →
   finK 4 [] (run E 4 [.code L145_0, .inLoop [0, 1, 3] L145_0, .inBlock 0]
     [(0, .yld 1), (1, .ptr 0 0), (3, .ptr 4 0)] (scB nl fu b acc p t p))
    = some (.tup [], scF nl fu b (scanGo d b p t acc).1 (scanGo d b p t acc).2.1) := by
  intro d
  induction d with
  | zero => intro p t acc hd hp; omega
  | succ d ih =>
    intro p t acc hd hp ha ht
    have hG := bget_spec (b.drop p) (fun c hc => hb c (List.mem_of_mem_drop hc)) (by simp; omega) nl (fu) (by rcases hnl with h | h; exact .inl h; subst h; exact .inr (by simp))
    rw [List.map_drop] at hG
    have hr := rowsB b
    by_cases h : (getB (b.drop p)).2.2 = 0
    · obtain ⟨g1, g2, g3, g4, g5⟩ := get_good (fun c hc => hb c (List.mem_of_mem_drop hc)) h
      have gk := chkB_ok g1
      simp at g4
      by_cases h2 : (getB (b.drop p)).1.1 = t
      · have hn : scanGo (d + 1) b p t acc = scanGo d b (p + (getB (b.drop p)).2.1.toNat) (t + sumN (getB (b.drop p)).1.2) (acc ++ [(getB (b.drop p)).1]) := by
          rw [scanGo, if_pos ⟨h, h2⟩]
        rw [hn]
        clear hn
        have hT := ticks_spec (getB (b.drop p)).1.2 (by omega) (chkB_Ok g1) false false
        rw [ticks_eq, if_pos gk.2.2.2.1, gk.2.2.2.1] at hT
        have hs := (chk_right gk.2.2.2.1).2
        rw [h] at hG
        have ih2 := ih (p + (getB (b.drop p)).2.1.toNat) (t + sumN (getB (b.drop p)).1.2) (acc ++ [(getB (b.drop p)).1]) (by omega) (by omega) (by simp; omega) (by omega)
        have wp : IntKind.wrap .i64 ((p : Int) + (getB (b.drop p)).2.1) = ((p + (getB (b.drop p)).2.1.toNat : Nat) : Int) := by rw [wrap64 (by omega) (by omega)]; omega
        have wt : IntKind.wrap .i64 (t + sumN (getB (b.drop p)).1.2) = t + sumN (getB (b.drop p)).1.2 := by rw [wrap64 (by omega) (by omega)]
        have hR := gk.2.1
        have hY0 := scY0 p (getB (b.drop p)).1 (p + (getB (b.drop p)).2.1.toNat) (t + sumN (getB (b.drop p)).1.2)
        have hY1 := fun ha0 => scY1 acc (by omega) ha0 p (getB (b.drop p)).1 (p + (getB (b.drop p)).2.1.toNat) (t + sumN (getB (b.drop p)).1.2)
        generalize scanGo d b _ _ _ = Q at ih2 ⊢
        clear g5
        generalize getB (b.drop p) = g at *
        obtain ⟨⟨f, R⟩, m, e⟩ := g
        simp only [] at *
        subst h2
        simp [resV, resHl, hR] at hG
        by_cases ha0 : acc = []
        · subst ha0
          simp [scH, encBk, nilS] at hY0
          simp [scB, nilS, encBk] at ih2
          generalize scF nl fu b Q.1 Q.2.1 = F at *
          simp [go_sem, run_codeL E L145_0.eq_1, hp, hr, take_allB, hG, hT, wp, wt, scB, purse_eq, hY0, nilS]
          rw [run_inLoop']
          simp [go_sem, purse_eq, List.range_succ]
          simpa using ih2
        · have hY := hY1 ha0
          simp [scH, ha0, encBk, nilS] at hY
          simp [scB, nilS, encBk] at ih2
          generalize scF nl fu b Q.1 Q.2.1 = F at *
          simp [go_sem, run_codeL E L145_0.eq_1, hp, hr, take_allB, hG, hT, wp, wt, scB, ha0, purse_eq, hY, nilS]
          rw [run_inLoop']
          simp [go_sem, purse_eq, List.range_succ]
          simpa using ih2
      · have hn : scanGo (d + 1) b p t acc = (acc, p, t) := by
          rw [scanGo, if_neg (by intro q; exact h2 q.2)]
        rw [hn]
        clear hn
        rw [h] at hG
        have hR := gk.2.1
        clear g5
        generalize getB (b.drop p) = g at *
        obtain ⟨⟨f, R⟩, m, e⟩ := g
        simp only [] at *
        simp [resV, resHl, hR] at hG
        by_cases ha0 : acc = []
        · subst ha0
          simp [go_sem, run_codeL E L145_0.eq_1, hp, hr, take_allB, hG, scB, scF, purse_eq, List.range_succ, h2]
        · simp [go_sem, run_codeL E L145_0.eq_1, hp, hr, take_allB, hG, scB, scF, ha0, purse_eq, List.range_succ, h2]
    · have hn : scanGo (d + 1) b p t acc = (acc, p, t) := by
        rw [scanGo, if_neg (by intro q; exact h q.1)]
      rw [hn]
      clear hn
      obtain ⟨g1, g2⟩ := get_bad h
      generalize getB (b.drop p) = g at *
      obtain ⟨⟨f, R⟩, m, e⟩ := g
      simp only [Prod.mk.injEq] at *
      obtain ⟨g1, g3⟩ := g1
      subst g1 g2 g3
      simp [resV, resHl] at hG
      by_cases ha0 : acc = []
      · subst ha0
        simp [go_sem, run_codeL E L145_0.eq_1, hp, hr, take_allB, hG, scB, scF, purse_eq, List.range_succ, h]
      · simp [go_sem, run_codeL E L145_0.eq_1, hp, hr, take_allB, hG, scB, scF, ha0, purse_eq, List.range_succ, h]
end Go.AM.R1
open Go Go.AM
namespace Go.AM.R1

theorem blocks1_spec (b : List Nat) (hb : ∀ c ∈ b, c < 256) (hl : b.length ≤ 1000000) (nl fu : Bool) (hnl : nl = false ∨ b = []) :
    call E (.func (.func 145) [] [.ptr 0 0]) [.yld 1] [.box [.imm nl fu true (b.map encB)], .loop 0 none [(4, .ptr 2 0), (5, .ptr 3 0)] [10, 11] A48_0 B48_0, .box [nilS], .box [.lit (.int .i64 0)]]
     = some (.tup [], scF nl fu b (scanB b).1 (scanB b).2.1) := by
  rw [call_func E E145]
  have h := scan_loop b hb hl nl fu hnl (b.length + 1) 0 0 [] (by omega) (by omega) (by simp) (by omega)
  rw [show scanGo (b.length + 1) b 0 0 [] = scanB b from rfl] at h
  generalize scF nl fu b (scanB b).1 (scanB b).2.1 = F at h ⊢
  simp [scB, nilS] at h
  simp [go_sem, ir145, purse_eq, nilS]
  rw [run_inLoop']
  simp [go_sem, purse_eq, List.range_succ]
  exact h
theorem blocks_spec (nl fu : Bool) (rows : List (List AVal)) : call E (.func (.func 105) [] []) [.imm nl fu true rows] [] = some (.func (.func 145) [] [.ptr 0 0], [.box [.imm nl fu true rows]]) := by
  rw [call_func E E105]
  simp [go_sem, ir105, purse_eq]
def bkV (i : Nat) (l : List Bk) : AVal := if l = [] then nilS else .own i l.length 2 0 l.length
def bkH (l : List Bk) : Heap := if l = [] then [] else [.arr true false false 2 (l.map encBk)]
theorem scan_spec (b : List Nat) (hb : ∀ c ∈ b, c < 256) (hl : b.length ≤ 1000000) (nl fu : Bool) (hnl : nl = false ∨ b = []) :
    call E (.func (.func 48) [] []) [.imm nl fu true (b.map encB)] []
      = some (.tup [bkV 0 (scanB b).1, .lit (.int .i64 (scanB b).2.1)], bkH (scanB b).1) := by
  rw [call_func E E48]
  have hS := blocks_spec nl fu (b.map encB)
  have hN := blocks1_spec b hb hl nl fu hnl
  generalize scanB b = g at *
  simp [nilS] at hN
  by_cases h : g.1 = []
  · simp [scF, h, nilS] at hN
    simp [go_sem, ir48, hS, hN, h, bkV, bkH, purse_eq, nilS]
  · simp [scF, h, nilS] at hN
    simp [go_sem, ir48, hS, hN, h, bkV, bkH, purse_eq, nilS]
end Go.AM.R1
open Go Go.AM
namespace Go.AM.R1

/-! ### The document's Scan -/
theorem get_nil : (getB []).2.2 ≠ 0 := by decide
theorem rscan_loop (b : List Nat) (hb : ∀ c ∈ b, c < 256) (hl : b.length ≤ 1000000) (nl fu : Bool) (k : List Item) (R : List Bk × Nat × Int → Option (AVal × Heap))
    (hk : ∀ (acc : List Bk) (p : Nat) (t : Int) τ H, lk 4 τ = .own 0 acc.length 2 0 acc.length → lk 5 τ = .lit (.int .i64 p) → finK 0 [.tmp 2, .tmp 3] (run E 0 k τ (.arr true false acc.isEmpty 2 (acc.map encBk) :: H)) = R (acc, p, t)) :
    ∀ (d p : Nat) (t : Int) (acc : List Bk), b.length + 1 ≤ p + d → p ≤ b.length → acc.length ≤ p → (0 ≤ t ∧ t ≤ 1073741824) →
   finK 0 [.tmp 2, .tmp 3] (run E 0 (.code L54_0 :: .inLoop [0, 4, 5, 6] L54_0 :: .inBlock 0 :: k)
     [(0, .imm nl fu true (b.map encB)), (4, .own 0 acc.length 2 0 acc.length), (5, .lit (.int .i64 p)), (6, .lit (.int .i64 t))] [.arr true false acc.isEmpty 2 (acc.map encBk)])
    = R (scanGo d b p t acc) := by
  intro d
  induction d with
  | zero => intro p t acc hd hp; omega
  | succ d ih =>
    intro p t acc hd hp ha ht
    have hr := rowsB b
    by_cases hlt : p < b.length
    · have hG := rget15_spec (b.drop p) (fun c hc => hb c (List.mem_of_mem_drop hc)) (by simp; omega) nl fu
      rw [List.map_drop] at hG
      by_cases h : (getB (b.drop p)).2.2 = 0
      · obtain ⟨g1, g2, g3, g4, g5⟩ := get_good (fun c hc => hb c (List.mem_of_mem_drop hc)) h
        have gk := chkB_ok g1
        simp at g4
        by_cases h2 : (getB (b.drop p)).1.1 = t
        · rw [scanGo, if_pos ⟨h, h2⟩]
          have hT := count_spec (getB (b.drop p)).1.2 (by omega) (chk_right gk.2.2.2.1).1 false false
          have hs := (chk_right gk.2.2.2.1).2
          rw [h] at hG
          have ih2 := ih (p + (getB (b.drop p)).2.1.toNat) (t + sumN (getB (b.drop p)).1.2) (acc ++ [(getB (b.drop p)).1]) (by omega) (by omega) (by simp; omega) (by omega)
          have wp : IntKind.wrap .i64 ((p : Int) + (getB (b.drop p)).2.1) = ((p + (getB (b.drop p)).2.1.toNat : Nat) : Int) := by rw [wrap64 (by omega) (by omega)]; omega
          have wt : IntKind.wrap .i64 (t + sumN (getB (b.drop p)).1.2) = t + sumN (getB (b.drop p)).1.2 := by rw [wrap64 (by omega) (by omega)]
          have hR := gk.2.1
          generalize R (scanGo d b _ _ _) = Q at ih2 ⊢
          clear g5
          generalize getB (b.drop p) = g at *
          obtain ⟨⟨f, R⟩, m, e⟩ := g
          simp only [] at *
          subst h2
          simp [resV, resHl, hR] at hG
          simp [encBk] at ih2
          rcases snoc_cases acc with rfl | ⟨o, x, rfl⟩
          · simp at ih2
            simp [go_sem, run_codeL E L54_0.eq_1, hlt, hp, hr, take_allB, hG, hT, wp, wt, purse_eq]
            rw [run_inLoop']
            simp [go_sem, purse_eq, List.range_succ]
            simpa [isEmpty_snoc, Nat.add_assoc] using ih2
          · have hbb : ¬ (70368744177664 < (o.length + 1 + 1) * 32) := by simp at ha; omega
            simp [isEmpty_snoc] at ih2
            simp [go_sem, run_codeL E L54_0.eq_1, hlt, hp, hr, take_allB, hG, hT, wp, wt, purse_eq, encBk, hbb]
            rw [run_inLoop']
            simp [go_sem, purse_eq, List.range_succ]
            simpa [isEmpty_snoc, Nat.add_assoc, encBk] using ih2
        · rw [scanGo, if_neg (by intro q; exact h2 q.2)]
          rw [h] at hG
          have hR := gk.2.1
          clear g5
          generalize getB (b.drop p) = g at *
          obtain ⟨⟨f, R⟩, m, e⟩ := g
          simp only [] at *
          simp [resV, resHl, hR] at hG
          simp [go_sem, run_codeL E L54_0.eq_1, hlt, hp, hr, take_allB, hG, purse_eq, h2]
          exact hk acc p t _ _ rfl rfl
      · rw [scanGo, if_neg (by intro q; exact h q.1)]
        obtain ⟨g1, g2⟩ := get_bad h
        generalize getB (b.drop p) = g at *
        obtain ⟨⟨f, R⟩, m, e⟩ := g
        simp only [Prod.mk.injEq] at *
        obtain ⟨g1, g3⟩ := g1
        subst g1 g2 g3
        simp [resV, resHl] at hG
        simp [go_sem, run_codeL E L54_0.eq_1, hlt, hp, hr, take_allB, hG, purse_eq, h]
        exact hk acc p t _ _ rfl rfl
    · have hp' : b.drop p = [] := List.drop_eq_nil_of_le (by omega)
      rw [scanGo, if_neg (by intro q; rw [hp'] at q; exact get_nil q.1)]
      simp [go_sem, run_codeL E L54_0.eq_1, hlt]
      exact hk acc p t _ _ rfl rfl
theorem rscan_spec (b : List Nat) (hb : ∀ c ∈ b, c < 256) (hl : b.length ≤ 1000000) (nl fu : Bool) :
    call E (.func (.func 54) [] []) [.imm nl fu true (b.map encB)] []
      = some (.tup [.own 0 (scanB b).1.length 2 0 (scanB b).1.length, .lit (.int .i64 (scanB b).2.1)], [.arr true false (scanB b).1.isEmpty 2 ((scanB b).1.map encBk)]) := by
  rw [call_func E E54]
  simp [go_sem, ir54, purse_eq]
  rw [run_inLoop']
  simp [go_sem, purse_eq, List.range_succ]
  have h := rscan_loop b hb hl nl fu [.code (.seq (.reg [⟨none, some 43, .copy (.t 4)⟩, ⟨none, some 44, .copy (.t 5)⟩, ⟨none, some 2, .copy (.t 43)⟩, ⟨none, some 3, .copy (.t 44)⟩] [] []) .ret)] (fun r => some (.tup [.own 0 r.1.length 2 0 r.1.length, .lit (.int .i64 r.2.1)], [.arr true false r.1.isEmpty 2 (r.1.map encBk)])) ?_ (b.length + 1) 0 0 [] (by omega) (by omega) (by simp) (by omega)
  · simpa [scanB] using h
  · intro acc p t τ H h4 h5
    simp [go_sem, h4, h5, purse_eq, List.range_succ]
end Go.AM.R1
open Go Go.AM
namespace Go.AM.R1

/-! ### The blocks of bytes -/
def putBk (x : Bk) : List Nat := wholeB (numsN x.1 x.2)
def blksB (l : List Bk) : List Nat := l.flatMap putBk
def totB (l : List Bk) : Int := match l with | [] => 0 | x :: r => sumN x.2 + totB r
def Good : Int → List Bk → Prop
  | _, [] => True
  | t, x :: r => x.1 = t ∧ chkB x.1 x.2 = 0 ∧ (∀ r ∈ x.2, 0 ≤ r.Drive ∧ r.Drive ≤ 4294967295) ∧ Good (t + sumN x.2) r
theorem blksB_cons (x : Bk) (l : List Bk) : blksB (x :: l) = putBk x ++ blksB l := rfl
theorem blksB_append (l m : List Bk) : blksB (l ++ m) = blksB l ++ blksB m := by simp [blksB]
theorem totB_append : ∀ (l m : List Bk), totB (l ++ m) = totB l + totB m
  | [], m => by simp [totB]
  | x :: l, m => by simp only [List.cons_append, totB]; rw [totB_append l m]; omega
theorem good_append : ∀ (l m : List Bk) (t : Int), Good t (l ++ m) ↔ Good t l ∧ Good (t + totB l) m
  | [], m, t => by simp [Good, totB]
  | x :: l, m, t => by
    simp only [List.cons_append, Good, totB]
    rw [good_append l m (t + sumN x.2), Int.add_assoc]
    simp only [and_assoc]
theorem good_tot : ∀ (l : List Bk) (t : Int), 0 ≤ t → t ≤ 1073741824 → Good t l → 0 ≤ totB l ∧ t + totB l ≤ 1073741824
  | [], t, h0, h, _ => by simp [totB]; omega
  | x :: l, t, h0, h, g => by
    obtain ⟨g1, g2, g3, g4⟩ := g
    have gk := chkB_ok g2
    have hs := (chk_right gk.2.2.2.1).2
    have := good_tot l (t + sumN x.2) (by omega) (by omega) g4
    simp only [totB]
    omega
theorem putBk_len {x : Bk} (h : chkB x.1 x.2 = 0) : 6 ≤ (putBk x).length ∧ (putBk x).length ≤ 42000 := by
  have h1 := inside_65536 h
  have h2 := whole_len (numsN x.1 x.2)
  have h3 := putN_len64 (n := (bytesN (numsN x.1 x.2)).length) (by omega)
  have h4 := List.length_pos_iff.2 (putN_pos (bytesN (numsN x.1 x.2)).length)
  have h5 : 1 ≤ (bytesN (numsN x.1 x.2)).length := by
    simp only [numsN, bytesN, List.flatMap_cons, List.length_append]
    have := List.length_pos_iff.2 (putN_pos x.1.toNat)
    omega
  unfold putBk
  omega
theorem good_len : ∀ (l : List Bk) (t : Int), Good t l → 6 * l.length ≤ (blksB l).length
  | [], _, _ => by simp
  | x :: l, t, g => by
    have := putBk_len g.2.1
    have := good_len l _ g.2.2.2
    rw [blksB_cons, List.length_append, List.length_cons]
    omega
theorem scan_facts (b : List Nat) (hb : ∀ c ∈ b, c < 256) : ∀ (d p : Nat) (t : Int) (acc : List Bk), p ≤ b.length →
    ∃ l, (scanGo d b p t acc).1 = acc ++ l ∧ Good t l ∧ (scanGo d b p t acc).2.1 = p + (blksB l).length ∧ p + (blksB l).length ≤ b.length ∧ (b.drop p).take (blksB l).length = blksB l ∧ (scanGo d b p t acc).2.2 = t + totB l := by
  intro d
  induction d with
  | zero => intro p t acc hp; exact ⟨[], by simp [scanGo, Good, blksB, totB, hp]⟩
  | succ d ih =>
    intro p t acc hp
    rw [scanGo]
    split
    · rename_i h
      obtain ⟨g1, g2, g3, g4, g5⟩ := get_good (fun c hc => hb c (List.mem_of_mem_drop hc)) h.1
      simp at g4
      generalize hg : getB (b.drop p) = g at *
      obtain ⟨⟨f, R⟩, m, e⟩ := g
      simp only [] at *
      obtain ⟨l, e1, e2, e3, e4, e5, e6⟩ := ih (p + m.toNat) (t + sumN R) (acc ++ [(f, R)]) (by omega)
      have hlen : (wholeB (numsN f R)).length = m.toNat := by rw [← g5]; simp; omega
      refine ⟨(f, R) :: l, by rw [e1]; simp, ⟨h.2, g1, g2, e2⟩, ?_, ?_, ?_, ?_⟩
      · rw [e3, blksB_cons, List.length_append]; show _ = p + ((wholeB (numsN f R)).length + _); omega
      · rw [blksB_cons, List.length_append]; show p + ((wholeB (numsN f R)).length + _) ≤ _; omega
      · rw [blksB_cons, List.length_append, List.take_add]
        show List.take (wholeB (numsN f R)).length _ ++ List.take _ (List.drop (wholeB (numsN f R)).length _) = wholeB (numsN f R) ++ _
        rw [hlen, g5, List.drop_drop, e5]
      · rw [e6]; simp only [totB]; omega
    · exact ⟨[], by simp [Good, blksB, totB, hp]⟩
theorem scanB_facts {b : List Nat} (hb : ∀ c ∈ b, c < 256) : Good 0 (scanB b).1 ∧ (scanB b).2.1 = (blksB (scanB b).1).length ∧ (scanB b).2.1 ≤ b.length ∧ b.take (scanB b).2.1 = blksB (scanB b).1 ∧ (scanB b).2.2 = totB (scanB b).1 := by
  obtain ⟨l, e1, e2, e3, e4, e5, e6⟩ := scan_facts b hb (b.length + 1) 0 0 [] (by omega)
  rw [show scanGo (b.length + 1) b 0 0 [] = scanB b from rfl] at *
  simp at e1 e3 e4 e5 e6
  rw [e1, e3]
  exact ⟨e2, rfl, e4, e5, e6⟩
/-- Blocks that are put one behind the other are found. -/
theorem scan_put (b : List Nat) : ∀ (l : List Bk) (d p : Nat) (t : Int) (acc : List Bk), l.length + 1 ≤ d → Good t l → (b.drop p) = blksB l → scanGo d b p t acc = (acc ++ l, p + (blksB l).length, t + totB l) := by
  intro l
  induction l with
  | nil =>
    intro d p t acc hd hg hp
    obtain ⟨d, rfl⟩ : ∃ e, d = e + 1 := ⟨d - 1, by simp at hd; omega⟩
    rw [scanGo, hp, if_neg (by intro q; exact get_nil q.1)]
    simp [blksB, totB]
  | cons x l ih =>
    intro d p t acc hd hg hp
    obtain ⟨d, rfl⟩ : ∃ e, d = e + 1 := ⟨d - 1, by simp at hd; omega⟩
    obtain ⟨g1, g2, g3, g4⟩ := hg
    have hG := get_of_put g2 g3 (blksB l)
    rw [scanGo, hp, blksB_cons]
    show (if (getB (wholeB (numsN x.1 x.2) ++ blksB l)).2.2 = 0 ∧ (getB (wholeB (numsN x.1 x.2) ++ blksB l)).1.1 = t then _ else _) = _
    rw [show putBk x = wholeB (numsN x.1 x.2) from rfl, hG]
    simp only []
    rw [if_pos ⟨trivial, g1⟩]
    rw [ih d (p + ((wholeB (numsN x.1 x.2)).length : Int).toNat) (t + sumN x.2) _ (by simp at hd; omega) g4 (by
      rw [Int.toNat_natCast, ← List.drop_drop, hp, blksB_cons]; show List.drop (wholeB (numsN x.1 x.2)).length (wholeB (numsN x.1 x.2) ++ _) = _; rw [List.drop_left])]
    simp [totB, List.length_append]
    omega
theorem scanB_put {l : List Bk} (h : Good 0 l) : scanB (blksB l) = (l, (blksB l).length, totB l) := by
  have := good_len l 0 h
  have := scan_put (blksB l) l ((blksB l).length + 1) 0 0 [] (by omega) h rfl
  simpa [scanB] using this
end Go.AM.R1
open Go Go.AM
namespace Go.AM.R1

/-! ### seek.Of -/
abbrev Ent := Int × Nat
def encEnt (e : Ent) : List AVal := [.lit (.int .i64 e.1), .lit (.int .i64 e.2)]
def entGo : Int → Nat → List Bk → List Ent
  | _, _, [] => []
  | t, p, x :: r => (t, p) :: entGo (t + sumN x.2) (p + (putBk x).length) r
theorem entGo_length : ∀ (l : List Bk) (t : Int) (p : Nat), (entGo t p l).length = l.length
  | [], _, _ => rfl
  | x :: l, t, p => by simp only [entGo, List.length_cons, entGo_length l]
/-- An index in the heap. -/
def ixH (nl lb le : Bool) (b : List Nat) (es : List Ent) (t : Int) : Heap :=
  if b = [] then (if nl = true then [.box [nilS, nilS, .lit (.int .i64 0)]] else [.box [.own 1 0 1 0 0, nilS, .lit (.int .i64 0)], .arr true lb true 1 []])
  else [.box [.own 1 b.length 1 0 b.length, .own 2 es.length 2 0 es.length, .lit (.int .i64 t)], .arr true lb false 1 (b.map encB), .arr true le false 2 (es.map encEnt)]

theorem of_loop18 (b : List Nat) (hb : ∀ c ∈ b, c < 256) (hl : b.length ≤ 1000000) (fu : Bool) (l : List Bk) (hl2 : l.length ≤ 1000000) (k : List Item) (R : List Ent × Int → Option (AVal × Heap))
    (hk : ∀ (out : List Ent) (t : Int) τ, out ≠ [] → lk 6 τ = .ptr 2 0 → finK 0 [.tmp 2, .tmp 3] (run E 0 k τ [.arr true false false 2 (l.map encBk), .arr true false false 1 (b.map encB), .box [.own 1 b.length 1 0 b.length, .own 4 out.length 2 0 out.length, .lit (.int .i64 t)], .dead, .arr true false false 2 (out.map encEnt)]) = R (out, t)) :
    ∀ (d i : Nat) (out : List Ent) (t : Int) (p : Nat), i + d = l.length → out ≠ [] → out.length ≤ i → p ≤ b.length → (0 ≤ t ∧ t ≤ 1073741824) → Good t (l.drop i) → b.drop p = blksB (l.drop i) →
   finK 0 [.tmp 2, .tmp 3] (run E 0 (.code L16_0 :: .inLoop [0, 4, 6, 7, 27, 28] L16_0 :: .inBlock 0 :: k)
     [(0, .imm false fu true (b.map encB)), (4, .own 0 l.length 2 0 l.length), (6, .ptr 2 0), (7, .lit (.int .i64 p)), (27, .lit (.int .i64 l.length)), (28, .lit (.int .i64 i))]
     [.arr true false false 2 (l.map encBk), .arr true false false 1 (b.map encB), .box [.own 1 b.length 1 0 b.length, .own 4 out.length 2 0 out.length, .lit (.int .i64 t)], .dead, .arr true false false 2 (out.map encEnt)])
    = R (out ++ entGo t p (l.drop i), t + totB (l.drop i)) := by
  intro d
  induction d with
  | zero =>
    intro i out t p hi ho hol hp ht hg hd
    have : i = l.length := by omega
    subst this
    simp [go_sem, run_codeL E L16_0.eq_1, entGo, totB]
    exact hk out t _ ho rfl
  | succ d ih =>
    intro i out t p hi ho hol hp ht hg hd
    have hlt : i < l.length := by omega
    rw [List.drop_eq_getElem_cons hlt] at hg hd
    rw [List.drop_eq_getElem_cons hlt, entGo, totB]
    obtain ⟨g1, g2, g3, g4⟩ := hg
    have gk := chkB_ok g2
    have hs := (chk_right gk.2.2.2.1).2
    rw [blksB_cons] at hd
    have hlen : p + (putBk l[i]).length + (blksB (l.drop (i + 1))).length = b.length := by
      have := congrArg List.length hd
      simp at this
      omega
    have hS := size_spec (b.drop p) (fun c hc => hb c (List.mem_of_mem_drop hc)) (by simp; omega) false fu
    have hsz : sizeB (b.drop p) = (((putBk l[i]).length : Int), 0) := by
      rw [hd]; exact (size_put (by have := inside_65536 g2; omega) _).2
    rw [hsz, List.map_drop] at hS
    have hT := ticks_spec l[i].2 (by omega) (chkB_Ok g2) false false
    rw [ticks_eq, if_pos gk.2.2.2.1, gk.2.2.2.1] at hT
    have hr := rowsB b
    have ih2 := ih (i + 1) (out ++ [(t, p)]) (t + sumN l[i].2) (p + (putBk l[i]).length) (by omega) (by simp) (by simp; omega) (by omega) (by omega) g4 (by rw [← List.drop_drop, hd, List.drop_left])
    rw [List.append_assoc, List.singleton_append, Int.add_assoc] at ih2
    have wp : IntKind.wrap .i64 ((p : Int) + ((putBk l[i]).length : Int)) = ((p + (putBk l[i]).length : Nat) : Int) := by rw [wrap64 (by omega) (by omega)]; omega
    have wt : IntKind.wrap .i64 (t + sumN l[i].2) = t + sumN l[i].2 := by rw [wrap64 (by omega) (by omega)]
    have wi := wrapIdx (i := i) (by omega)
    generalize R _ = Q at ih2 ⊢
    clear hd hlen hsz g1 g4
    generalize (putBk l[i]).length = m at *
    obtain ⟨o, e, rfl⟩ : ∃ o e, out = o ++ [e] := by rcases snoc_cases out with h | h; exact absurd h ho; exact h
    simp [encEnt] at ih2
    have hbb : ¬ (70368744177664 < (o.length + 1 + 1) * 16) := by simp at hol; omega
    simp [go_sem, run_codeL E L16_0.eq_1, hlt, hp, hr, take_allB, hS, hT, wp, wt, wi, purse_eq, List.getElem?_eq_getElem hlt, encBk, encEnt, hbb]
    rw [run_inLoop']
    simp [go_sem, purse_eq, List.range_succ]
    simpa [Nat.add_assoc] using ih2

theorem sof_spec (b : List Nat) (hb : ∀ c ∈ b, c < 256) (hl : b.length ≤ 1000000) (nl fu : Bool) (hnl : nl = false ∨ b = []) :
    call E (.func (.func 16) [] []) [.imm nl fu true (b.map encB)] []
      = some (if (scanB b).2.1 = b.length then (.tup [.ptr 0 0, .lit (.int .i64 0)], ixH nl false false b (entGo 0 0 (scanB b).1) (totB (scanB b).1)) else (.tup [.lit (.pointer none), .lit (.int .i64 11)], [])) := by
  rw [call_func E E16]
  have hN := scan_spec b hb hl nl fu hnl
  obtain ⟨f1, f2, f3, f4, f5⟩ := scanB_facts hb
  by_cases h : (scanB b).2.1 = b.length
  · rw [if_pos h]
    rw [h] at hN f2 f4
    rw [List.take_length] at f4
    generalize scanB b = g at *
    by_cases hb0 : b = []
    · have hg0 : g.1 = [] := by
        have := good_len g.1 0 f1
        rw [← f4, hb0] at this
        cases hq : g.1 with
        | nil => rfl
        | cons x r => rw [hq] at this; simp at this
      subst hb0
      rw [hg0] at hN ⊢
      simp [bkV, bkH] at hN
      have hC := clone_spec [] fu (by simp)
      simp at hC
      have hC2 : call E (.func (.func 79) [] []) [.imm true fu true []] [] = some (nilS, []) := by
        rw [call_func E E79]
        simp [go_sem, ir79, purse_eq]
      cases nl
      · simp [go_sem, ir16, hN, hC, purse_eq]
        rw [run_inLoop']
        simp [go_sem, purse_eq, List.range_succ, run_codeL E L16_0.eq_1, ixH, entGo, totB]
      · simp [go_sem, ir16, hN, hC2, purse_eq, nilS]
        rw [run_inLoop']
        simp [go_sem, purse_eq, List.range_succ, run_codeL E L16_0.eq_1, ixH, entGo, totB, nilS]
    · have hnl' : nl = false := by rcases hnl with q | q; exact q; exact absurd q hb0
      subst hnl'
      have hg0 : g.1 ≠ [] := by
        intro q
        rw [q] at f4
        exact hb0 f4
      have hlen := good_len g.1 0 f1
      rw [← f4] at hlen
      simp [bkV, bkH, hg0] at hN
      have hC := clone_spec b fu (by omega)
      have hbe : b.isEmpty = false := by cases b with | nil => exact absurd rfl hb0 | cons x xs => rfl
      rw [hbe] at hC
      obtain ⟨l, p, t⟩ := g
      simp only [] at *
      obtain ⟨x, r, rfl⟩ : ∃ x r, l = x :: r := by cases l with | nil => exact absurd rfl hg0 | cons x r => exact ⟨x, r, rfl⟩
      obtain ⟨g1, g2, g3, g4⟩ := f1
      have gk := chkB_ok g2
      have hs := (chk_right gk.2.2.2.1).2
      rw [blksB_cons] at f4
      have hlen2 : (putBk x).length + (blksB r).length = b.length := by rw [f4]; simp
      have hS := size_spec b hb (by omega) false fu
      have hsz : sizeB b = (((putBk x).length : Int), 0) := by rw [f4]; exact (size_put (by have := inside_65536 g2; omega) _).2
      rw [hsz] at hS
      have hT := ticks_spec x.2 (by omega) (chkB_Ok g2) false false
      rw [ticks_eq, if_pos gk.2.2.2.1, gk.2.2.2.1] at hT
      have hr := rowsB b
      have wp : IntKind.wrap .i64 ((putBk x).length : Int) = ((putBk x).length : Int) := by rw [wrap64 (by omega) (by omega)]
      have wt : IntKind.wrap .i64 (sumN x.2) = sumN x.2 := by rw [wrap64 (by omega) (by omega)]
      have w1 : IntKind.wrap .i64 1 = 1 := rfl
      have hd1 : b.drop (putBk x).length = blksB ((x :: r).drop 1) := by rw [List.drop_one, List.tail_cons, f4, List.drop_left]
      have hL := of_loop18 b hb hl fu (x :: r) (by simp at hlen ⊢; omega) [.code (.seq (.reg [⟨none, some 74, .copy (.t 6)⟩, ⟨none, some 2, .copy (.t 74)⟩, ⟨none, some 3, .copy (.c (.lit (.int .i64 0)))⟩] [] []) .ret)] (fun o => some (.tup [.ptr 0 0, .lit (.int .i64 0)], ixH false false false b o.1 o.2)) ?_ r.length 1 [(0, 0)] (sumN x.2) (putBk x).length (by simp; omega) (by simp) (by simp) (by omega) (by omega) (by simpa using g4) hd1
      · simp only [entGo, totB]
        simp [encEnt] at hL
        simp only [Int.zero_add, Nat.zero_add]
        generalize ixH false false false b _ _ = Q at hL ⊢
        clear hlen2 hsz g1 g4 f4 hlen
        generalize (putBk x).length = m at *
        simp [go_sem, ir16, hN, hC, purse_eq]
        rw [run_inLoop']
        simp [go_sem, purse_eq, List.range_succ]
        simp [go_sem, run_codeL E L16_0.eq_1, hr, take_allB, hS, hT, wp, wt, w1, purse_eq, encBk, nilS]
        rw [run_inLoop']
        simp [go_sem, purse_eq, List.range_succ]
        simpa [encBk] using hL
      · intro out t τ ho h6
        simp [go_sem, h6, purse_eq, ixH, hb0, List.range_succ]
  · rw [if_neg h]
    generalize scanB b = g at *
    have h' : ¬ ((g.2.1 : Int) = (b.length : Int)) := by omega
    by_cases hg : g.1 = []
    · simp [bkV, bkH, hg] at hN
      simp [go_sem, ir16, hN, h', h, purse_eq]
    · simp [bkV, bkH, hg] at hN
      simp [go_sem, ir16, hN, h', h, purse_eq]
end Go.AM.R1
open Go Go.AM
namespace Go.AM.R1

/-! ### The document's entries -/
abbrev REnt := Int × Nat × Int × Nat
def encREnt (e : REnt) : List AVal := [.lit (.int .i64 e.1), .lit (.int .i64 e.2.1), .lit (.int .i64 e.2.2.1), .lit (.int .i64 e.2.2.2)]
def rentGo : Int → Nat → List Bk → List REnt
  | _, _, [] => []
  | t, p, x :: r => (t, p, sumN x.2, (putBk x).length) :: rentGo (t + sumN x.2) (p + (putBk x).length) r
theorem rentGo_length : ∀ (l : List Bk) (t : Int) (p : Nat), (rentGo t p l).length = l.length
  | [], _, _ => rfl
  | x :: l, t, p => by simp only [rentGo, List.length_cons, rentGo_length l]
theorem rents_loop (l : List Bk) (hl2 : l.length ≤ 1000000) (fe : Bool) (H0 : Heap) (k : List Item) (R : List REnt → Option (AVal × Heap))
    (hk : ∀ (out : List REnt) τ H, lk 6 τ = .own 1 out.length 4 0 out.length → finK 0 [.tmp 2, .tmp 3] (run E 0 k τ (.arr true false fe 2 (l.map encBk) :: .arr true false out.isEmpty 4 (out.map encREnt) :: H)) = R out) :
    ∀ (d i : Nat) (out : List REnt) (t : Int) (p : Nat), i + d = l.length → out.length ≤ i → (p ≤ 42000 * i) → (0 ≤ t ∧ t ≤ 1073741824) → Good t (l.drop i) →
   finK 0 [.tmp 2, .tmp 3] (run E 0 (.code L17_0 :: .inLoop [4, 6, 7, 8, 9] L17_0 :: .inBlock 0 :: k)
     [(4, .own 0 l.length 2 0 l.length), (6, .own 1 out.length 4 0 out.length), (7, .lit (.int .i64 t)), (8, .lit (.int .i64 p)), (9, .lit (.int .i64 i))]
     [.arr true false fe 2 (l.map encBk), .arr true false out.isEmpty 4 (out.map encREnt)])
    = R (out ++ rentGo t p (l.drop i)) := by
  intro d
  induction d with
  | zero =>
    intro i out t p hi hol hp ht hg
    have : i = l.length := by omega
    subst this
    simp [go_sem, run_codeL E L17_0.eq_1, rentGo]
    exact hk out _ _ rfl
  | succ d ih =>
    intro i out t p hi hol hp ht hg
    have hlt : i < l.length := by omega
    rw [List.drop_eq_getElem_cons hlt] at hg
    rw [List.drop_eq_getElem_cons hlt, rentGo]
    obtain ⟨g1, g2, g3, g4⟩ := hg
    have gk := chkB_ok g2
    have hs := (chk_right gk.2.2.2.1).2
    have hlen := putBk_len g2
    have hT := count_spec l[i].2 (by omega) (chk_right gk.2.2.2.1).1 false false
    have hP := rput15_spec l[i].1 l[i].2 false false g2
    rw [show wholeB (numsN l[i].1 l[i].2) = putBk l[i] from rfl] at hP
    simp only [encBlk] at hP
    have ih2 := ih (i + 1) (out ++ [(t, p, sumN l[i].2, (putBk l[i]).length)]) (t + sumN l[i].2) (p + (putBk l[i]).length) (by omega) (by simp; omega) (by omega) (by omega) g4
    rw [List.append_assoc, List.singleton_append] at ih2
    have wp : IntKind.wrap .i64 ((p : Int) + ((putBk l[i]).length : Int)) = ((p + (putBk l[i]).length : Nat) : Int) := by rw [wrap64 (by omega) (by omega)]; omega
    have wt : IntKind.wrap .i64 (t + sumN l[i].2) = t + sumN l[i].2 := by rw [wrap64 (by omega) (by omega)]
    have wi := wrapIdx (i := i) (by omega)
    generalize R _ = Q at ih2 ⊢
    clear g1 g4
    rcases snoc_cases out with rfl | ⟨o, e, rfl⟩
    · simp [encREnt] at ih2
      simp [go_sem, run_codeL E L17_0.eq_1, hlt, hT, hP, wp, wt, wi, purse_eq, List.getElem?_eq_getElem hlt, encBk, encREnt]
      rw [run_inLoop']
      simp [go_sem, purse_eq, List.range_succ]
      simpa [Nat.add_assoc, encBk] using ih2
    · have hbb : ¬ (70368744177664 < (o.length + 1 + 1) * 32) := by simp at hol; omega
      simp [encREnt, isEmpty_snoc] at ih2
      simp [go_sem, run_codeL E L17_0.eq_1, hlt, hT, hP, wp, wt, wi, purse_eq, List.getElem?_eq_getElem hlt, encBk, encREnt, hbb]
      rw [run_inLoop']
      simp [go_sem, purse_eq, List.range_succ]
      simpa [Nat.add_assoc, encBk, isEmpty_snoc] using ih2
theorem rents_spec (b : List Nat) (hb : ∀ c ∈ b, c < 256) (hl : b.length ≤ 1000000) (nl fu : Bool) :
    call E (.func (.func 17) [] []) [.imm nl fu true (b.map encB)] []
      = some (if (scanB b).2.1 = b.length then (.tup [.own 0 (scanB b).1.length 4 0 (scanB b).1.length, .lit (.bool true)], [.arr true false (rentGo 0 0 (scanB b).1).isEmpty 4 ((rentGo 0 0 (scanB b).1).map encREnt)]) else (.tup [nilS, .lit (.bool false)], [])) := by
  rw [call_func E E17]
  have hN := rscan_spec b hb hl nl fu
  obtain ⟨f1, f2, f3, f4, f5⟩ := scanB_facts hb
  by_cases h : (scanB b).2.1 = b.length
  · rw [if_pos h]
    have hlen := good_len _ 0 f1
    rw [h] at hN
    rw [h] at f2
    clear f3 f4 f5 h
    generalize scanB b = g at *
    obtain ⟨l, p, t⟩ := g
    simp only [] at *
    have hL := rents_loop l (by omega) l.isEmpty [] [.code (.seq (.reg [⟨none, some 54, .copy (.t 6)⟩, ⟨none, some 2, .copy (.t 54)⟩, ⟨none, some 3, .copy (.c (.lit (.bool true)))⟩] [] []) .ret)] (fun o => some (.tup [.own 0 o.length 4 0 o.length, .lit (.bool true)], [.arr true false o.isEmpty 4 (o.map encREnt)])) ?_ l.length 0 [] 0 0 (by omega) (by simp) (by omega) (by omega) (by simpa using f1)
    · simp [go_sem, ir17, hN, purse_eq]
      rw [run_inLoop']
      simp [go_sem, purse_eq, List.range_succ]
      simpa [rentGo_length] using hL
    · intro out τ H h6
      simp [go_sem, h6, purse_eq, List.range_succ]
  · rw [if_neg h]
    have h' : ¬ (((scanB b).2.1 : Int) = (b.length : Int)) := by omega
    simp [go_sem, ir17, hN, h', h, purse_eq]
end Go.AM.R1
open Go Go.AM
namespace Go.AM.R1

/-! ### The bytes of an index -/
def idxRow (x : Bk) : List Nat := putN (sumN x.2).toNat ++ putN (putBk x).length
def idxB (l : List Bk) : List Nat := sealB (putN l.length ++ l.flatMap idxRow)
theorem entGo_get : ∀ (l : List Bk) (t : Int) (p i : Nat), i < l.length → (entGo t p l)[i]? = some (t + totB (l.take i), p + (blksB (l.take i)).length)
  | [], _, _, i, h => by simp at h
  | x :: l, t, p, 0, h => by simp [entGo, totB, blksB]
  | x :: l, t, p, i + 1, h => by
    simp only [entGo, List.getElem?_cons_succ, List.take_succ_cons, totB, blksB_cons, List.length_append]
    rw [entGo_get l _ _ i (by simpa using h)]
    simp
    omega
theorem take_succ_tot (l : List Bk) (i : Nat) (h : i < l.length) : totB (l.take (i + 1)) = totB (l.take i) + sumN l[i].2 ∧ (blksB (l.take (i + 1))).length = (blksB (l.take i)).length + (putBk l[i]).length := by
  rw [List.take_succ_eq_append_getElem h, totB_append, blksB_append]
  simp [totB, blksB]
theorem good_get : ∀ (l : List Bk) (t : Int) (i : Nat) (h : i < l.length), Good t l → chkB l[i].1 l[i].2 = 0 ∧ (∀ r ∈ l[i].2, 0 ≤ r.Drive ∧ r.Drive ≤ 4294967295) ∧ l[i].1 = t + totB (l.take i)
  | [], _, i, h, _ => by simp at h
  | x :: l, t, 0, h, g => ⟨g.2.1, g.2.2.1, by simp [g.1, totB]⟩
  | x :: l, t, i + 1, h, g => by
    have := good_get l _ i (by simpa using h) g.2.2.2
    simp only [List.getElem_cons_succ, List.take_succ_cons, totB]
    exact ⟨this.1, this.2.1, by rw [this.2.2]; omega⟩
theorem good_take (l : List Bk) (t : Int) (i : Nat) (h : Good t l) : Good t (l.take i) := by
  have := (good_append (l.take i) (l.drop i) t).1 (by rw [List.take_append_drop]; exact h)
  exact this.1
theorem blks_take_le (l : List Bk) (i : Nat) : (blksB (l.take i)).length ≤ (blksB l).length := by
  conv => rhs; rw [← List.take_append_drop i l]
  rw [blksB_append, List.length_append]; omega
theorem tot_take_le (l : List Bk) (i : Nat) (h : Good 0 l) : 0 ≤ totB (l.take i) ∧ totB (l.take i) ≤ 1073741824 := by
  have := good_tot (l.take i) 0 (by omega) (by omega) (good_take l 0 i h)
  omega
theorem putN_lt256 (n : Nat) : ∀ c ∈ putN n, c < 256 := by
  induction n using Nat.strongRecOn with
  | _ n ih =>
    intro c h
    by_cases hn : 128 ≤ n
    · rw [putN_big hn] at h
      rcases List.mem_cons.1 h with rfl | h
      · omega
      · exact ih (n / 128) (by omega) c h
    · rw [putN_small (by omega)] at h
      simp at h; omega
theorem idxRow_byte (x : Bk) : ∀ c ∈ idxRow x, c < 256 := by
  intro c hc
  rcases List.mem_append.1 hc with h | h
  · exact putN_lt256 _ _ h
  · exact putN_lt256 _ _ h
theorem idxRow_len (x : Bk) (hg : chkB x.1 x.2 = 0) : (idxRow x).length ≤ 20 := by
  have gk := chkB_ok hg
  have hs := (chk_right gk.2.2.2.1).2
  have hlen := putBk_len hg
  have h1 := putN_len64 (n := (sumN x.2).toNat) (by omega)
  have h2 := putN_len64 (n := (putBk x).length) (by omega)
  simp only [idxRow, List.length_append]; omega

theorem sput_loop (b : List Nat) (hl : b.length ≤ 1000000) (l : List Bk) (hg : Good 0 l) (hbl : (blksB l).length = b.length) (lb le : Bool) (k : List Item) (R : List Nat → Option (AVal × Heap))
    (hk : ∀ (out : List Nat) τ H, (∀ c ∈ out, c < 256) → out.length ≤ 20 + 20 * l.length → lk 3 τ = .own 3 out.length 1 0 out.length → finK 3 [.tmp 2] (run E 3 k τ (.box [.own 1 b.length 1 0 b.length, .own 2 l.length 2 0 l.length, .lit (.int .i64 (totB l))] :: .arr true lb false 1 (b.map encB) :: .arr true le false 2 ((entGo 0 0 l).map encEnt) :: .arr true false false 1 (out.map encB) :: H)) = R out) :
    ∀ (d i : Nat) (out : List Nat), i + d = l.length → out ≠ [] → out.length ≤ 20 + 20 * i → (∀ c ∈ out, c < 256) →
   finK 3 [.tmp 2] (run E 3 (.code L19_0 :: .inLoop [0, 3, 19, 20, 21] L19_0 :: .inBlock 0 :: k)
     [(0, .ptr 0 0), (3, .own 3 out.length 1 0 out.length), (19, .own 2 l.length 2 0 l.length), (20, .lit (.int .i64 l.length)), (21, .lit (.int .i64 i))]
     [.box [.own 1 b.length 1 0 b.length, .own 2 l.length 2 0 l.length, .lit (.int .i64 (totB l))], .arr true lb false 1 (b.map encB), .arr true le false 2 ((entGo 0 0 l).map encEnt), .arr true false false 1 (out.map encB)])
    = R (out ++ (l.drop i).flatMap idxRow) := by
  have hln := good_len l 0 hg
  intro d
  induction d with
  | zero =>
    intro i out hi ho hol hob
    have : i = l.length := by omega
    subst this
    simp [go_sem, run_codeL E L19_0.eq_1]
    exact hk out _ _ hob hol rfl
  | succ d ih =>
    intro i out hi ho hol hob
    have hlt : i < l.length := by omega
    rw [List.drop_eq_getElem_cons hlt, List.flatMap_cons]
    obtain ⟨g2, g3, g1⟩ := good_get l 0 i hlt hg
    have gk := chkB_ok g2
    have hs := (chk_right gk.2.2.2.1).2
    have hlen := putBk_len g2
    have hrl := idxRow_len l[i] g2
    obtain ⟨k1, k2⟩ := take_succ_tot l i hlt
    have hT := tot_take_le l i hg
    have hP := blks_take_le l i
    have hT1 := tot_take_le l (i + 1) hg
    have hP1 := blks_take_le l (i + 1)
    have he := entGo_get l 0 0 i hlt
    simp only [Int.zero_add, Nat.zero_add] at he
    have hel := entGo_length l 0 0
    have hi' : i < (entGo 0 0 l).length := by omega
    have hx : (entGo 0 0 l)[i] = (totB (l.take i), (blksB (l.take i)).length) := by simpa [List.getElem?_eq_getElem hi'] using he
    have h0 : (0 : Int) ≤ (i : Int) + 1 := by omega
    have ih2 := ih (i + 1) (out ++ idxRow l[i]) (by omega) (by simp [ho]) (by simp; omega) (by
      intro c hc
      rcases List.mem_append.1 hc with h | h
      · exact hob c h
      · exact idxRow_byte _ c h)
    rw [List.append_assoc] at ih2
    have hV1 := vput_spec (sumN l[i].2).toNat (by omega)
    have hV2 := vput_spec (putBk l[i]).length (by omega)
    have hr1 := rowsB (putN (sumN l[i].2).toNat)
    have hr2 := rowsB (putN (putBk l[i]).length)
    have hrow : idxRow l[i] = putN (sumN l[i].2).toNat ++ putN (putBk l[i]).length := rfl
    rw [hrow] at ih2 ⊢
    have hpl1 := putN_len64 (n := (sumN l[i].2).toNat) (by omega)
    have hpl2 := putN_len64 (n := (putBk l[i]).length) (by omega)
    have hpn1 := putN_pos (sumN l[i].2).toNat
    have hpn2 := putN_pos (putBk l[i]).length
    generalize R _ = Q at ih2 ⊢
    generalize putN (sumN l[i].2).toNat = A at *
    generalize putN (putBk l[i]).length = B at *
    generalize hj : (sumN l[i].2).toNat = j at *
    have hj' : sumN l[i].2 = (j : Int) := by omega
    have ws : IntKind.wrap .i64 (totB (l.take (i + 1)) - totB (l.take i)) = (j : Int) := by rw [wrap64 (by omega) (by omega)]; omega
    have wq : IntKind.wrap .i64 (((blksB (l.take (i + 1))).length : Int) - ((blksB (l.take i)).length : Int)) = ((putBk l[i]).length : Int) := by rw [wrap64 (by omega) (by omega)]; omega
    have wu1 := wrap_u64 (n := j) (by omega)
    have wu2 := wrap_u64 (n := (putBk l[i]).length) (by omega)
    have wi := wrapIdx (i := i) (by omega)
    have hb1 : ¬ (70368744177664 < out.length + A.length) := by omega
    have hb2 : ¬ (70368744177664 < out.length + A.length + B.length) := by omega
    have hb2' : ¬ (70368744177664 < out.length + (A.length + B.length)) := by omega
    by_cases hl1 : i + 1 < l.length
    · have he1 := entGo_get l 0 0 (i + 1) hl1
      simp only [Int.zero_add, Nat.zero_add] at he1
      have hi1' : i + 1 < (entGo 0 0 l).length := by omega
      have hx1 : (entGo 0 0 l)[i + 1] = (totB (l.take (i + 1)), (blksB (l.take (i + 1))).length) := by simpa [List.getElem?_eq_getElem hi1'] using he1
      have hl1' : (i : Int) + 1 < (l.length : Int) := by omega
      generalize totB (l.take (i + 1)) = T1 at *
      generalize totB (l.take i) = T0 at *
      generalize (blksB (l.take (i + 1))).length = P1 at *
      generalize (blksB (l.take i)).length = P0 at *
      generalize (putBk l[i]).length = m at *
      generalize entGo 0 0 l = es at *
      simp [go_sem, run_codeL E L19_0.eq_1, hlt, hx, hx1, h0, hel, hl1, hl1', wi, ws, wq, wu1, wu2, hV1, hV2, hr1, hr2, hb1, hb2, hb2', hpn1, hpn2, purse_eq, encEnt, ho]
      rw [run_inLoop']
      simp [go_sem, purse_eq, List.range_succ]
      simpa [Nat.add_assoc] using ih2
    · have hl1' : ¬ ((i : Int) + 1 < (l.length : Int)) := by omega
      have hend : i + 1 = l.length := by omega
      have ht1 : l.take (i + 1) = l := List.take_of_length_le (by omega)
      rw [ht1] at ws wq
      rw [hbl] at wq
      generalize totB (l.take i) = T0 at *
      generalize (blksB (l.take i)).length = P0 at *
      generalize (putBk l[i]).length = m at *
      generalize entGo 0 0 l = es at *
      generalize totB l = T1 at *
      simp [go_sem, run_codeL E L19_0.eq_1, hlt, hx, h0, hel, hl1, hl1', wi, ws, wq, wu1, wu2, hV1, hV2, hr1, hr2, hb1, hb2, hb2', hpn1, hpn2, purse_eq, encEnt, ho]
      rw [run_inLoop']
      simp [go_sem, purse_eq, List.range_succ]
      simpa [Nat.add_assoc] using ih2
end Go.AM.R1
open Go Go.AM
namespace Go.AM.R1

theorem idxIn_byte (l : List Bk) : ∀ c ∈ putN l.length ++ l.flatMap idxRow, c < 256 := by
  intro c hc
  rcases List.mem_append.1 hc with h | h
  · exact putN_lt256 _ _ h
  · obtain ⟨x, _, h⟩ := List.mem_flatMap.1 h
    exact idxRow_byte x c h
theorem idxIn_len (l : List Bk) (hg : Good 0 l) : l.length < 18446744073709551616 → (putN l.length ++ l.flatMap idxRow).length ≤ 20 + 20 * l.length := by
  intro hl
  have h1 := putN_len64 hl
  have h2 : ∀ (l : List Bk) (t : Int), Good t l → (l.flatMap idxRow).length ≤ 20 * l.length := by
    intro l
    induction l with
    | nil => simp
    | cons x l ih =>
      intro t g
      have := idxRow_len x g.2.1
      have := ih _ g.2.2.2
      simp only [List.flatMap_cons, List.length_append, List.length_cons]; omega
  have := h2 l 0 hg
  rw [List.length_append]; omega
theorem sput_spec (b : List Nat) (hl : b.length ≤ 1000000) (l : List Bk) (hg : Good 0 l) (hbl : blksB l = b) (nl lb le : Bool) :
    call E (.func (.func 19) [] []) [.ptr 0 0] (ixH nl lb le b (entGo 0 0 l) (totB l))
      = some (.own (ixH nl lb le b (entGo 0 0 l) (totB l)).length (idxB l).length 1 0 (idxB l).length, ixH nl lb le b (entGo 0 0 l) (totB l) ++ [.arr true false false 1 ((idxB l).map encB)]) := by
  rw [call_func E E19]
  have hln := good_len l 0 hg
  rw [hbl] at hln
  have hb1 := idxIn_byte l
  have hb2 := idxIn_len l hg (by omega)
  have hS := seal_spec (putN l.length ++ l.flatMap idxRow) hb1 false (by omega)
  rw [show sealB (putN l.length ++ l.flatMap idxRow) = idxB l from rfl] at hS
  have hV := vput_spec l.length (by omega)
  have hpn := putN_pos l.length
  have hp64 := putN_len64 (n := l.length) (by omega)
  by_cases hb0 : b = []
  · subst hb0
    have hl0 : l = [] := by cases l with | nil => rfl | cons x r => simp at hln
    subst hl0
    simp [putN_small (show 0 < 128 by omega), encB] at hV hS
    have w0 : IntKind.wrap .u64 0 = 0 := rfl
    cases nl
    · simp [go_sem, ir19, ixH, hV, hS, w0, purse_eq, nilS]
      rw [run_inLoop']
      simp [go_sem, purse_eq, List.range_succ, run_codeL E L19_0.eq_1, encB, hS]
    · simp [go_sem, ir19, ixH, hV, hS, w0, purse_eq, nilS]
      rw [run_inLoop']
      simp [go_sem, purse_eq, List.range_succ, run_codeL E L19_0.eq_1, encB, hS]
  · have hel := entGo_length l 0 0
    have wu := wrap_u64 (n := l.length) (by omega)
    have hL := sput_loop b hl l hg (by rw [hbl]) lb le [.code (.seq (.reg [⟨none, some 71, .copy (.t 3)⟩, ⟨none, some 72, .call 83 [.t 71]⟩, ⟨none, some 2, .copy (.t 72)⟩] [] []) .ret)]
      (fun out => some (.own 3 (sealB out).length 1 0 (sealB out).length, ixH nl lb le b (entGo 0 0 l) (totB l) ++ [.arr true false false 1 ((sealB out).map encB)])) ?_ l.length 0 (putN l.length) (by omega) hpn (by omega) (fun c hc => putN_lt256 _ _ hc)
    · rw [List.drop_zero, show sealB (putN l.length ++ l.flatMap idxRow) = idxB l from rfl] at hL
      have hlen3 : (ixH nl lb le b (entGo 0 0 l) (totB l)).length = 3 := by simp [ixH, hb0]
      rw [hlen3]
      generalize some (AVal.own 3 (idxB l).length 1 0 (idxB l).length, _) = Q at hL ⊢
      simp [go_sem, ir19, ixH, hb0, hel, hV, wu, purse_eq]
      rw [run_inLoop']
      simp [go_sem, purse_eq, List.range_succ]
      exact hL
    · intro out τ H h1 h2 h3
      have hS2 := seal_spec out h1 false (by omega)
      simp [go_sem, h3, hS2, ixH, hb0, hel, purse_eq, List.range_succ]
end Go.AM.R1
open Go Go.AM
namespace Go.AM.R1

def entV (i : Nat) (es : List Ent) : AVal := if es = [] then nilS else .own i es.length 2 0 es.length
def entH (es : List Ent) : Heap := if es = [] then [] else [.arr true false false 2 (es.map encEnt)]
theorem rows2 (es : List Ent) : rowsOk 2 (es.map encEnt) = true := rowsOk_map (f := encEnt) (fun _ => rfl) es
end Go.AM.R1
open Go Go.AM
namespace Go.AM.R1

/-! ### The bytes of a log that is made of rows -/
def madeGo : Int → List (List Run) → List Bk
  | _, [] => []
  | t, r :: s => if r.length ≤ 20 ∧ chk r = 0 ∧ chkB t (joined [] r) = 0 then (t, joined [] r) :: madeGo (t + sumN r) s else madeGo t s
def madeL (rows : List RowV) : List Bk := madeGo 0 ((rows.take 20).map RowV.l)
theorem Run.Fit.ok {r : Run} (h : r.Fit) : r.Ok := ⟨h.1.1, h.1.2⟩
theorem joined_drive {l : List Run} (h : ∀ r ∈ l, 0 ≤ r.Drive ∧ r.Drive ≤ 4294967295) : ∀ r ∈ joined [] l, 0 ≤ r.Drive ∧ r.Drive ≤ 4294967295 :=
  joined_mem l [] (fun r => 0 ≤ r.Drive ∧ r.Drive ≤ 4294967295) (fun r hr _ => h r hr) (fun x r hx _ _ => hx) (by simp)
theorem madeGo_good : ∀ (l : List (List Run)) (t : Int), (∀ r ∈ l, ∀ x ∈ r, x.Fit) → Good t (madeGo t l)
  | [], t, _ => trivial
  | r :: s, t, h => by
    rw [madeGo]
    split
    · rename_i h1
      have hs := joined_chk h1.2.1
      refine ⟨rfl, h1.2.2, joined_drive fun x hx => (h r (by simp) x hx).2.2, ?_⟩
      rw [hs.2.1]
      exact madeGo_good s _ fun r hr => h r (by simp [hr])
    · exact madeGo_good s _ fun r hr => h r (by simp [hr])
theorem madeL_good {rows : List RowV} (h : ∀ r ∈ rows, r.Fit) : Good 0 (madeL rows) := madeGo_good _ 0 (by
  intro r hr
  obtain ⟨v, hv, rfl⟩ := List.mem_map.1 hr
  exact (h v (List.mem_of_mem_take hv)).1)
theorem madeGo_length : ∀ (l : List (List Run)) (t : Int), (madeGo t l).length ≤ l.length
  | [], t => by simp [madeGo]
  | r :: s, t => by
    rw [madeGo]
    split
    · have := madeGo_length s (t + sumN r); simp; omega
    · have := madeGo_length s t; simp; omega
theorem putBk_len20 {x : Bk} (h : chkB x.1 x.2 = 0) (hl : x.2.length ≤ 20) : (putBk x).length ≤ 230 := by
  obtain ⟨h1, h2, h3, h4, h5, h6⟩ := chkB_ok h
  have := bytes_len5 (numsN x.1 x.2) (nums_lt h1 h3 (chk_right h4).1)
  have e : (numsN x.1 x.2).length = 2 * x.2.length + 2 := by simp only [numsN, List.length_cons, runN_length]
  have h7 := whole_len (numsN x.1 x.2)
  have h8 := putN_len64 (n := (bytesN (numsN x.1 x.2)).length) (by omega)
  unfold putBk; omega
theorem madeGo_bytes : ∀ (l : List (List Run)) (t : Int), (blksB (madeGo t l)).length ≤ 230 * l.length
  | [], t => by simp [madeGo, blksB]
  | r :: s, t => by
    rw [madeGo]
    split
    · rename_i h1
      have := madeGo_bytes s (t + sumN r)
      have := putBk_len20 (x := (t, joined [] r)) h1.2.2 (by have := joined_length r []; simp at this; show (joined [] r).length ≤ 20; omega)
      rw [blksB_cons, List.length_append, List.length_cons]; omega
    · have := madeGo_bytes s t; simp; omega
theorem blksB_byte : ∀ (l : List Bk) (t : Int), Good t l → ∀ c ∈ blksB l, c < 256
  | [], _, _ => by simp [blksB]
  | x :: l, t, g => by
    intro c hc
    rw [blksB_cons] at hc
    rcases List.mem_append.1 hc with h | h
    · exact wholeB_byte _ (nums_lt64 g.2.1) (by have := nums_bytes g.2.1; omega) c h
    · exact blksB_byte l _ g.2.2.2 c h

theorem made_loop (rows : List RowV) (hl : rows.length ≤ 9223372036854775807) (hf : ∀ r ∈ rows, r.Fit) (nl fu : Bool) (k : List Item) (R : List Nat → Option (AVal × Heap))
    (hk : ∀ (out : List Nat) τ, lk 3 τ = .own 0 out.length 1 0 out.length → finK 0 [.tmp 2] (run E 0 k τ [.arr true false out.isEmpty 1 (out.map encB)]) = R out) :
    ∀ (d i : Nat) (out : List Nat) (t : Int), i + d = (rows.take 20).length → out.length ≤ 42000 * i → (0 ≤ t ∧ t ≤ 1073741824) →
   finK 0 [.tmp 2] (run E 0 (.code L22_0 :: .inLoop [0, 3, 4, 5] L22_0 :: .inBlock 0 :: k)
     [(0, .imm nl fu true (rows.map encRow)), (3, .own 0 out.length 1 0 out.length), (4, .lit (.int .i64 t)), (5, .lit (.int .i64 i))] [.arr true false out.isEmpty 1 (out.map encB)])
    = R (out ++ blksB (madeGo t (((rows.take 20).drop i).map RowV.l))) := by
  intro d
  induction d with
  | zero =>
    intro i out t hi hol ht
    have hi2 : i = (rows.take 20).length := by omega
    rw [List.drop_eq_nil_of_le (by omega)]
    simp at hi2
    by_cases hlt : i < rows.length
    · have h20 : ¬ (i : Int) < 20 := by omega
      simp [go_sem, run_codeL E L22_0.eq_1, hlt, h20, madeGo, blksB]
      exact hk out _ rfl
    · simp [go_sem, run_codeL E L22_0.eq_1, hlt, madeGo, blksB]
      exact hk out _ rfl
  | succ d ih =>
    intro i out t hi hol ht
    have hlt' : i < (rows.take 20).length := by omega
    rw [List.drop_eq_getElem_cons hlt', List.map_cons, madeGo]
    have hlt : i < rows.length := by simp at hlt'; omega
    have h20 : (i : Int) < 20 := by simp at hlt'; omega
    rw [List.getElem_take]
    have hfi := hf _ (List.getElem_mem hlt)
    have wi := wrapIdx (i := i) (by omega)
    have hT := fun nl fu => ticks_spec rows[i].l hfi.2 (fun r hr => (hfi.1 r hr).ok) nl fu
    rw [ticks_eq] at hT
    have ih0 := ih (i + 1) out t (by omega) (by omega) ht
    by_cases h1 : rows[i].l.length ≤ 20
    · have h1' : ¬ (20 : Int) < (rows[i].l.length : Int) := by omega
      by_cases h2 : chk rows[i].l = 0
      · have hs := joined_chk h2
        have hsu := (chk_right h2).2
        have hR := chk_right h2
        have hp := posSum_of_right rows[i].l (fun r hr => by have := hR.1 r hr; omega)
        have hj := same_joins rows[i].l (by omega) (fun r hr => (hfi.1 r hr).ok) (by omega)
        have hJ := join_spec rows[i].l (by omega) (fun r hr => (hfi.1 r hr).ok) rows[i].nl rows[i].fu
        rw [hj] at hJ
        have hjl := joined_length rows[i].l []
        have hjr := chk_right hs.1
        have hjok : ∀ r ∈ joined [] rows[i].l, r.Ok := fun r hr => by
          have := hjr.1 r hr
          have hb : r.Bus = 0 ∨ r.Bus = 1 := by
            have hc := hs.1
            unfold chk at hc
            split at hc
            · rename_i hall
              have := List.all_eq_true.1 hall r hr
              simp [right] at this
              omega
            · omega
          exact ⟨by omega, by omega⟩
        have hP := fun (nl fu : Bool) (hc : chkB t (joined [] rows[i].l) = 0) => bput_spec t (by omega) (joined [] rows[i].l) (by simp at hjl; omega) hjok nl fu hc
        have hPb := fun (nl fu : Bool) (hc : chkB t (joined [] rows[i].l) ≠ 0) => bput_bad t (by omega) (joined [] rows[i].l) (by simp at hjl; omega) hjok nl fu hc
        rw [h2] at hT
        by_cases h3 : chkB t (joined [] rows[i].l) = 0
        · rw [if_pos ⟨h1, h2, h3⟩, blksB_cons]
          have hne := (chkB_ok h3).2.1
          have h6 := (chkB_ok h3).2.2.2.2.2
          have hP1 := hP false false h3
          rw [show wholeB (numsN t (joined [] rows[i].l)) = putBk (t, joined [] rows[i].l) from rfl] at hP1
          have hlen := putBk_len (x := (t, joined [] rows[i].l)) h3
          have ih1 := ih (i + 1) (out ++ putBk (t, joined [] rows[i].l)) (t + sumN rows[i].l) (by omega) (by simp; omega) (by omega)
          rw [List.append_assoc] at ih1
          have wt : IntKind.wrap .i64 (t + sumN rows[i].l) = t + sumN rows[i].l := by rw [wrap64 (by omega) (by omega)]
          have hr := rowsB (putBk (t, joined [] rows[i].l))
          have hbb : ¬ (70368744177664 < out.length + (putBk (t, joined [] rows[i].l)).length) := by omega
          have hpne : putBk (t, joined [] rows[i].l) ≠ [] := by intro q; rw [q] at hlen; simp at hlen
          generalize R _ = Q at ih1 ⊢
          clear ih0 ih hPb hP
          generalize putBk (t, joined [] rows[i].l) = B at *
          simp [resV, resH, hne] at hJ
          simp [encBlk] at hP1
          rcases snoc_cases out with rfl | ⟨o, x, rfl⟩
          · have hBe : B.isEmpty = false := by cases B with | nil => exact absurd rfl hpne | cons x r => rfl
            have hbb0 : ¬ (70368744177664 < B.length) := by omega
            simp [hBe] at ih1
            simp [go_sem, run_codeL E L22_0.eq_1, hlt, h20, h1', hT, hJ, hP1, wt, wi, hr, purse_eq, encRow, hpne, hBe, hbb0]
            rw [run_inLoop']
            simp [go_sem, purse_eq, List.range_succ]
            simpa [encRow] using ih1
          · have hbb2 : ¬ (70368744177664 < o.length + 1 + B.length) := by simpa using hbb
            simp [isEmpty_snoc] at ih1
            simp [go_sem, run_codeL E L22_0.eq_1, hlt, h20, h1', hT, hJ, hP1, wt, wi, hr, purse_eq, encRow, hpne, hbb2]
            rw [run_inLoop']
            simp [go_sem, purse_eq, List.range_succ]
            simpa [encRow, isEmpty_snoc, Nat.add_assoc, Nat.add_comm 1 B.length] using ih1
        · rw [if_neg (by intro q; exact h3 q.2.2)]
          generalize R _ = Q at ih0 ⊢
          clear ih
          by_cases hne : joined [] rows[i].l = []
          · have hP1 := hPb true true h3
            simp [resV, resH, hne] at hJ
            simp [encBlk, hne] at hP1
            rw [hne] at h3
            simp [go_sem, run_codeL E L22_0.eq_1, hlt, h20, h1', hT, hJ, hP1, h3, wi, purse_eq, encRow, nilS]
            rw [run_inLoop']
            simp [go_sem, purse_eq, List.range_succ]
            simpa [encRow] using ih0
          · have hP1 := hPb false false h3
            simp [resV, resH, hne] at hJ
            simp [encBlk] at hP1
            simp [go_sem, run_codeL E L22_0.eq_1, hlt, h20, h1', hT, hJ, hP1, h3, wi, purse_eq, encRow]
            rw [run_inLoop']
            simp [go_sem, purse_eq, List.range_succ]
            simpa [encRow] using ih0
      · rw [if_neg (by intro q; exact h2 q.2.1)]
        generalize R _ = Q at ih0 ⊢
        clear ih
        simp [go_sem, run_codeL E L22_0.eq_1, hlt, h20, h1', hT, h2, wi, purse_eq, encRow]
        rw [run_inLoop']
        simp [go_sem, purse_eq, List.range_succ]
        simpa [encRow] using ih0
    · rw [if_neg (by intro q; exact h1 q.1)]
      have h1' : (20 : Int) < (rows[i].l.length : Int) := by omega
      generalize R _ = Q at ih0 ⊢
      clear ih
      simp [go_sem, run_codeL E L22_0.eq_1, hlt, h20, h1', hT, wi, purse_eq, encRow]
      rw [run_inLoop']
      simp [go_sem, purse_eq, List.range_succ]
      simpa [encRow] using ih0
def madeB (rows : List RowV) : List Nat := blksB (madeL rows)
theorem made_spec (rows : List RowV) (hl : rows.length ≤ 9223372036854775807) (hf : ∀ r ∈ rows, r.Fit) (nl fu : Bool) :
    call E (.func (.func 22) [] []) [.imm nl fu true (rows.map encRow)] []
      = some (.own 0 (madeB rows).length 1 0 (madeB rows).length, [.arr true false (madeB rows).isEmpty 1 ((madeB rows).map encB)]) := by
  rw [call_func E E22]
  simp [go_sem, ir22, purse_eq]
  rw [run_inLoop']
  simp [go_sem, purse_eq]
  have h := made_loop rows hl hf nl fu [.code (.seq (.reg [⟨none, some 58, .copy (.t 3)⟩, ⟨none, some 2, .copy (.t 58)⟩] [] []) .ret)] (fun out => some (.own 0 out.length 1 0 out.length, [.arr true false out.isEmpty 1 (out.map encB)])) ?_ (rows.take 20).length 0 [] 0 (by omega) (by simp) (by omega)
  · simpa [madeB, madeL] using h
  · intro out τ h
    simp [go_sem, h, purse_eq]
end Go.AM.R1
open Go Go.AM
namespace Go.AM.R1

theorem openE_seal (x : List Nat) : openE (sealB x) = 0 := by
  have hl := sealB_length x
  rw [seal_take _ (by omega), hl]
  show sealB ((x ++ _).take _) = _
  rw [Nat.add_sub_cancel, List.take_left]
theorem open_any (b : List Nat) (hb : ∀ c ∈ b, c < 256) (hl : b.length ≤ 1099511627775) (nl fu : Bool) (hnl : nl = false ∨ b = []) :
    call E (.func (.func 24) [] []) [.imm nl fu true (b.map encB)] []
      = some (if openE b = 0 then (.tup [.own 0 (b.length - 4) 1 0 (b.length - 4), .lit (.int .i64 0)], [.arr true false (b.take (b.length - 4)).isEmpty 1 ((b.take (b.length - 4)).map encB)])
        else (.tup [nilS, .lit (.int .i64 (openE b))], [])) := by
  cases nl with
  | false => exact open_spec b hb hl fu
  | true =>
    have hb0 : b = [] := by rcases hnl with h | h; cases h; exact h
    subst hb0
    rw [call_func E E24]
    have w4 : IntKind.wrap .i64 (-4) = -4 := rfl
    simp [go_sem, ir24, purse_eq, openE, nilS, w4]
theorem idxB_open (l : List Bk) : openE (idxB l) = 0 := openE_seal _
theorem idxB_byte (l : List Bk) : ∀ c ∈ idxB l, c < 256 := by
  intro c hc
  rcases List.mem_append.1 hc with h | h
  · exact idxIn_byte l c h
  · exact tail_byte _ c h
theorem idxB_len (l : List Bk) (hg : Good 0 l) (hl : l.length ≤ 1000000) : (idxB l).length ≤ 24 + 20 * l.length := by
  have := idxIn_len l hg (by omega)
  unfold idxB; rw [sealB_length]; omega
def getX (b whole : List Nat) (nl : Bool) : AVal × Heap :=
  if openE b = 0 then
    if (scanB whole).2.1 = whole.length then
      if idxB (scanB whole).1 = b then (.tup [.ptr 0 0, .lit (.int .i64 0)], ixH nl false false whole (entGo 0 0 (scanB whole).1) (totB (scanB whole).1))
      else (.tup [.lit (.pointer none), .lit (.int .i64 24)], [])
    else (.tup [.lit (.pointer none), .lit (.int .i64 11)], [])
  else (.tup [.lit (.pointer none), .lit (.int .i64 (openE b))], [])
end Go.AM.R1
open Go Go.AM
namespace Go.AM.R1

/-! ### Which block has a tick -/
def entIx : List Bk → Int → Nat
  | [], _ => 0
  | x :: r, t => if t < sumN x.2 then 0 else 1 + entIx r (t - sumN x.2)
theorem entIx_lt : ∀ (l : List Bk) (t : Int), 0 ≤ t → t < totB l → entIx l t < l.length
  | [], t, h0, h => by simp [totB] at h; omega
  | x :: r, t, h0, h => by
    rw [entIx]
    split
    · simp
    · have := entIx_lt r (t - sumN x.2) (by omega) (by simp only [totB] at h; omega)
      simp; omega
theorem entIx_bounds : ∀ (l : List Bk) (t : Int), 0 ≤ t → t < totB l → totB (l.take (entIx l t)) ≤ t ∧ t < totB (l.take (entIx l t + 1))
  | [], t, h0, h => by simp [totB] at h; omega
  | x :: r, t, h0, h => by
    rw [entIx]
    split
    · rename_i h1
      simp [totB]; omega
    · have := entIx_bounds r (t - sumN x.2) (by omega) (by simp only [totB] at h; omega)
      rw [show 1 + entIx r (t - sumN x.2) = entIx r (t - sumN x.2) + 1 by omega]
      simp only [List.take_succ_cons, totB]
      omega
/-- Ticks ahead of a block grow with its number. -/
theorem tot_mono {l : List Bk} (hg : Good 0 l) : ∀ {i j : Nat}, i ≤ j → totB (l.take i) ≤ totB (l.take j) := by
  intro i j h
  induction j with
  | zero => have : i = 0 := by omega
            subst this; exact Int.le_refl _
  | succ j ih =>
    by_cases hij : i = j + 1
    · subst hij; exact Int.le_refl _
    · have h1 := ih (by omega)
      by_cases hj : j < l.length
      · have := (take_succ_tot l j hj).1
        obtain ⟨g2, _⟩ := good_get l 0 j hj hg
        have := (chk_right (chkB_ok g2).2.2.2.1).2
        omega
      · rw [List.take_of_length_le (show l.length ≤ j + 1 by omega)]
        rw [List.take_of_length_le (show l.length ≤ j by omega)] at h1
        exact h1
def ixI (k : Nat) (lb le : Bool) (b : List Nat) (es : List Ent) (T : Int) : Heap :=
  [.box [.own (1 + k) b.length 1 0 b.length, .own (2 + k) es.length 2 0 es.length, .lit (.int .i64 T)], .arr true lb false 1 (b.map encB), .arr true le false 2 (es.map encEnt)]
theorem behind_spec (lb le : Bool) (b : List Nat) (es : List Ent) (T tick : Int) (i : Nat) (e : Ent) (he : es[i]? = some e) :
    call E (.func (.func 131) [] [.ptr 0 0, .ptr 4 0]) [.lit (.int .i64 i)] (.box [.ptr 1 0] :: ixI 1 lb le b es T ++ [.box [.lit (.int .i64 tick)]])
      = some (.lit (.bool (decide (tick < e.1))), .box [.ptr 1 0] :: ixI 1 lb le b es T ++ [.box [.lit (.int .i64 tick)]]) := by
  rw [call_func E E131]
  have hlt := (List.getElem?_eq_some_iff.1 he).1
  have hx := (List.getElem?_eq_some_iff.1 he).2
  simp [go_sem, ir131, ixI, purse_eq, hlt, hx, encEnt, List.range_succ]
theorem search_loop (lb le : Bool) (b : List Nat) (l : List Bk) (hg : Good 0 l) (hl : l.length ≤ 1000000) (T tick : Int) (h0 : 0 ≤ tick) (h1 : tick < totB l) (k : List Item) (R : Option (AVal × Heap))
    (hk : ∀ τ, lk 5 τ = .lit (.int .i64 ((entIx l tick + 1 : Nat) : Int)) → finK 5 [.tmp 4] (run E 5 k τ (.box [.ptr 1 0] :: ixI 1 lb le b (entGo 0 0 l) T ++ [.box [.lit (.int .i64 tick)]])) = R) :
    ∀ (d i j : Nat), j ≤ i + d → i ≤ entIx l tick + 1 → entIx l tick + 1 ≤ j → j ≤ l.length →
   finK 5 [.tmp 4] (run E 5 (.code L132_0 :: .inLoop [1, 5, 6] L132_0 :: .inBlock 0 :: k)
     [(1, .func (.func 131) [] [.ptr 0 0, .ptr 4 0]), (5, .lit (.int .i64 i)), (6, .lit (.int .i64 j))] (.box [.ptr 1 0] :: ixI 1 lb le b (entGo 0 0 l) T ++ [.box [.lit (.int .i64 tick)]])) = R := by
  obtain ⟨e1, e2⟩ := entIx_bounds l tick h0 h1
  intro d
  induction d with
  | zero =>
    intro i j hd hi hj hjl
    have : i = j := by omega
    subst this
    have hik : i = entIx l tick + 1 := by omega
    simp [go_sem, run_codeL E L132_0.eq_1]
    exact hk _ (by rw [hik]; rfl)
  | succ d ih =>
    intro i j hd hi hj hjl
    by_cases hij : i < j
    · have hm : (i + j) / 2 < j := by omega
      have hml : (i + j) / 2 < l.length := by omega
      have he := entGo_get l 0 0 ((i + j) / 2) hml
      simp only [Int.zero_add, Nat.zero_add] at he
      have hB := behind_spec lb le b (entGo 0 0 l) T tick ((i + j) / 2) _ he
      simp only [] at hB
      have ws : IntKind.wrap .i64 ((i : Int) + (j : Int)) = ((i + j : Nat) : Int) := by rw [wrap64 (by omega) (by omega)]; omega
      have wu := wrap_u64 (n := i + j) (by omega)
      have wf : ((i + j : Nat) : Int).fdiv (2 ^ 1) = (((i + j) / 2 : Nat) : Int) := by
        rw [show ((2 : Int) ^ 1) = 2 from rfl, Int.fdiv_eq_ediv_of_nonneg _ (by omega)]; omega
      have wm : IntKind.wrap .i64 (((i + j) / 2 : Nat) : Int) = (((i + j) / 2 : Nat) : Int) := wrap64 (by omega) (by omega)
      have wi := wrapIdx (i := (i + j) / 2) (by omega)
      have wf2 : ((i + j : Nat) : Int).fdiv 2 = (((i + j) / 2 : Nat) : Int) := by
        rw [Int.fdiv_eq_ediv_of_nonneg _ (by omega)]; omega
      by_cases hc : tick < totB (l.take ((i + j) / 2))
      · have hle : entIx l tick + 1 ≤ (i + j) / 2 := by
          apply Classical.byContradiction
          intro hn
          have := tot_mono hg (show (i + j) / 2 ≤ entIx l tick by omega)
          omega
        have ih2 := ih i ((i + j) / 2) (by omega) hi hle (by omega)
        rw [decide_eq_true hc] at hB
        clear he
        generalize (i + j) / 2 = h at *
        generalize i + j = s at *
        simp [ixI] at hB ih2
        simp [go_sem, run_codeL E L132_0.eq_1, hij, ws, wu, wf, wf2, wm, ixI, hB, purse_eq]
        rw [run_inLoop']
        simp [go_sem, purse_eq, List.range_succ]
        exact ih2
      · have hle : (i + j) / 2 + 1 ≤ entIx l tick + 1 := by
          apply Classical.byContradiction
          intro hn
          have := tot_mono hg (show entIx l tick + 1 ≤ (i + j) / 2 by omega)
          omega
        have ih2 := ih ((i + j) / 2 + 1) j (by omega) hle hj hjl
        rw [decide_eq_false hc] at hB
        clear he
        generalize (i + j) / 2 = h at *
        generalize i + j = s at *
        simp [ixI] at hB ih2
        simp [go_sem, run_codeL E L132_0.eq_1, hij, ws, wu, wf, wf2, wm, wi, ixI, hB, purse_eq]
        rw [run_inLoop']
        simp [go_sem, purse_eq, List.range_succ]
        exact ih2
    · have hik : i = entIx l tick + 1 := by omega
      have hij' : ¬ (i : Int) < (j : Int) := by omega
      simp [go_sem, run_codeL E L132_0.eq_1, hij]
      exact hk _ (by rw [hik]; rfl)
theorem search_spec (lb le : Bool) (b : List Nat) (l : List Bk) (hg : Good 0 l) (hl : l.length ≤ 1000000) (T tick : Int) (h0 : 0 ≤ tick) (h1 : tick < totB l) :
    call E (.func (.func 132) [] []) [.lit (.int .i64 l.length), .func (.func 131) [] [.ptr 0 0, .ptr 4 0]] (.box [.ptr 1 0] :: ixI 1 lb le b (entGo 0 0 l) T ++ [.box [.lit (.int .i64 tick)]])
      = some (.lit (.int .i64 ((entIx l tick + 1 : Nat) : Int)), .box [.ptr 1 0] :: ixI 1 lb le b (entGo 0 0 l) T ++ [.box [.lit (.int .i64 tick)]]) := by
  rw [call_func E E132]
  have hlt := entIx_lt l tick h0 h1
  have hL := search_loop lb le b l hg hl T tick h0 h1 [.code (.seq (.reg [⟨none, some 25, .copy (.t 5)⟩, ⟨none, some 4, .copy (.t 25)⟩] [] []) .ret)]
    (some (.lit (.int .i64 ((entIx l tick + 1 : Nat) : Int)), .box [.ptr 1 0] :: ixI 1 lb le b (entGo 0 0 l) T ++ [.box [.lit (.int .i64 tick)]])) ?_ l.length 0 l.length (by omega) (by omega) (by omega) (by omega)
  · generalize some (AVal.lit _, _) = Q at hL ⊢
    simp [ixI] at hL
    simp [go_sem, ir132, ixI, purse_eq]
    rw [run_inLoop']
    simp [go_sem, purse_eq, List.range_succ]
    exact hL
  · intro τ h5
    simp [go_sem, h5, purse_eq, ixI, List.range_succ]
theorem ixH_big {b : List Nat} (hb : b ≠ []) (lb le : Bool) (es : List Ent) (T : Int) : ixH false lb le b es T = ixI 0 lb le b es T := by simp [ixH, ixI, hb]
/-- The number of the entry that has a tick. -/
theorem entry_spec (l : List Bk) (hg : Good 0 l) (hl : (blksB l).length ≤ 1000000) (lb le : Bool) (tick : Int) (ht : -9223372036854775808 ≤ tick ∧ tick ≤ 9223372036854775807) :
    call E (.func (.func 89) [] []) [.ptr 0 0, .lit (.int .i64 tick)] (ixH false lb le (blksB l) (entGo 0 0 l) (totB l))
      = some (if 0 ≤ tick ∧ tick < totB l then .tup [.lit (.int .i64 (entIx l tick)), .lit (.int .i64 0)] else .tup [.lit (.int .i64 0), .lit (.int .i64 10)], ixH false lb le (blksB l) (entGo 0 0 l) (totB l)) := by
  rw [call_func E E89]
  have hln := good_len l 0 hg
  have hel := entGo_length l 0 0
  by_cases hc : 0 ≤ tick ∧ tick < totB l
  · rw [if_pos hc]
    have hb0 : blksB l ≠ [] := by
      intro q
      rw [q] at hln
      have : l = [] := by cases l with | nil => rfl | cons x r => simp at hln
      subst this
      simp [totB] at hc; omega
    have hS := search_spec lb le (blksB l) l hg (by omega) (totB l) tick hc.1 hc.2
    have hlt := entIx_lt l tick hc.1 hc.2
    have h1 : ¬ tick < 0 := by omega
    have h2 : ¬ totB l ≤ tick := by omega
    have w1 : IntKind.wrap .i64 (((entIx l tick + 1 : Nat) : Int) - 1) = (entIx l tick : Int) := by rw [wrap64 (by omega) (by omega)]; omega
    have w2 : IntKind.wrap .i64 ((entIx l tick : Int) + 1 - 1) = (entIx l tick : Int) := by rw [wrap64 (by omega) (by omega)]; omega
    rw [ixH_big hb0]
    simp only [ixI] at hS ⊢
    generalize entGo 0 0 l = es at *
    generalize totB l = T at *
    simp [hel] at hS w1 w2
    simp [go_sem, ir89, h1, h2, hel, hS, w1, w2, purse_eq, List.range_succ]
  · rw [if_neg hc]
    by_cases hb0 : blksB l = []
    · have hl0 : l = [] := by cases l with | nil => rfl | cons x r => rw [hb0] at hln; simp at hln
      subst hl0
      by_cases h1 : tick < 0
      · simp [go_sem, ir89, ixH, h1, hb0, nilS, purse_eq, List.range_succ, entGo, totB]
      · have h2 : (0 : Int) ≤ tick := by omega
        simp [go_sem, ir89, ixH, h1, h2, hb0, nilS, purse_eq, List.range_succ, entGo, totB]
    · rw [ixH_big hb0]
      by_cases h1 : tick < 0
      · simp [go_sem, ir89, ixI, h1, purse_eq, List.range_succ]
      · have h2 : totB l ≤ tick := by omega
        simp [go_sem, ir89, ixI, h1, h2, purse_eq, List.range_succ]
end Go.AM.R1
open Go Go.AM
namespace Go.AM.R1

/-! ### What an index tells -/
def allR (l : List Bk) : List Run := l.flatMap (·.2)
theorem allR_cons (x : Bk) (l : List Bk) : allR (x :: l) = x.2 ++ allR l := rfl
theorem allR_append (l m : List Bk) : allR (l ++ m) = allR l ++ allR m := by simp [allR]
theorem sumN_append : ∀ (l m : List Run), sumN (l ++ m) = sumN l + sumN m
  | [], m => by simp [sumN]
  | r :: l, m => by
    rw [List.cons_append, show sumN (r :: (l ++ m)) = r.N + sumN (l ++ m) from rfl, sumN_append l m, show sumN (r :: l) = r.N + sumN l from rfl]; omega
theorem allR_sum : ∀ l : List Bk, sumN (allR l) = totB l
  | [] => rfl
  | x :: l => by rw [allR_cons, sumN_append, allR_sum l]; rfl
theorem chk_all_right {l : List Run} (h : chk l = 0) : l.all right = true := by
  unfold chk at h
  cases ha : l.all right with
  | true => rfl
  | false => rw [ha] at h; simp at h
theorem good_right : ∀ (l : List Bk) (t : Int), Good t l → (allR l).all right = true
  | [], _, _ => rfl
  | x :: l, t, g => by
    rw [allR_cons, List.all_append, good_right l _ g.2.2.2, chk_all_right (chkB_ok g.2.1).2.2.2.1]; rfl
theorem good_chk {l : List Bk} {t : Int} (h0 : 0 ≤ t) (h1 : t ≤ 1073741824) (g : Good t l) : chk (allR l) = 0 := by
  have := good_tot l t h0 h1 g
  unfold chk
  rw [if_pos (good_right l t g), if_neg (by rw [allR_sum]; omega)]
theorem good_ok {l : List Bk} {t : Int} (h0 : 0 ≤ t) (h1 : t ≤ 1073741824) (g : Good t l) : ∀ r ∈ allR l, r.Ok := fun r hr => by
  have := (chk_right (good_chk h0 h1 g)).1 r hr
  exact ⟨by omega, by omega⟩
theorem bytesN_ge (l : List Nat) : l.length ≤ (bytesN l).length := by
  induction l with
  | nil => simp
  | cons n l ih =>
    have := List.length_pos_iff.2 (putN_pos n)
    simp only [bytesN, List.flatMap_cons, List.length_append, List.length_cons] at ih ⊢
    omega
theorem runs_le : ∀ (l : List Bk), 2 * (allR l).length ≤ (blksB l).length
  | [] => by simp [allR, blksB]
  | x :: l => by
    have h1 := runs_le l
    have h2 := bytesN_ge (numsN x.1 x.2)
    have h3 := whole_len (numsN x.1 x.2)
    have e : (numsN x.1 x.2).length = 2 * x.2.length + 2 := by simp only [numsN, List.length_cons, runN_length]
    rw [allR_cons, blksB_cons, List.length_append, List.length_append]
    show _ ≤ (wholeB (numsN x.1 x.2)).length + _
    omega
theorem pick_append : ∀ (A B : List Run) (t : Int), (∀ r ∈ A, 0 ≤ r.N) → 0 ≤ t → pick t (A ++ B) = if t < sumN A then pick t A else pick (t - sumN A) B
  | [], B, t, _, h0 => by
    have h : ¬ t < 0 := by omega
    simp [sumN, h]
  | r :: A, B, t, h, h0 => by
    have hr := h r (by simp)
    have hs : 0 ≤ sumN A := by
      have := expand_length A fun x hx => h x (by simp [hx])
      omega
    rw [List.cons_append, pick, pick, show sumN (r :: A) = r.N + sumN A from rfl]
    by_cases h1 : t < r.N
    · rw [if_pos h1, if_pos (by omega), if_pos h1]
    · rw [if_neg h1, pick_append A B (t - r.N) (fun x hx => h x (by simp [hx])) (by omega)]
      by_cases h2 : t - r.N < sumN A
      · rw [if_pos h2, if_pos (by omega), if_neg h1]
      · rw [if_neg h2, if_neg (by omega)]
        congr 1; omega
theorem good_nonneg {l : List Bk} {t : Int} (g : Good t l) : ∀ r ∈ allR l, 1 ≤ r.N ∧ r.N ≤ 1073741824 := fun r hr => right_N (List.all_eq_true.1 (good_right l t g) r hr)
/-- A tick of all is one of the block that has it. -/
theorem pick_all {l : List Bk} (hg : Good 0 l) {i : Nat} (hi : i < l.length) {t : Int} (h0 : totB (l.take i) ≤ t) (h1 : t < totB (l.take (i + 1))) : pick t (allR l) = pick (t - totB (l.take i)) l[i].2 := by
  have e : l = l.take i ++ (l[i] :: l.drop (i + 1)) := by rw [← List.drop_eq_getElem_cons hi, List.take_append_drop]
  have ht := tot_take_le l i hg
  have hk := (take_succ_tot l i hi).1
  obtain ⟨g2, _⟩ := good_get l 0 i hi hg
  have gr := (chk_right (chkB_ok g2).2.2.2.1).1
  conv => lhs; rw [e]
  rw [allR_append, pick_append _ _ _ (fun r hr => by have := good_nonneg (good_take l 0 i hg) r hr; omega) (by omega), allR_sum, if_neg (by omega), allR_cons,
    pick_append _ _ _ (fun r hr => by have := gr r hr; omega) (by omega), if_pos (by omega)]
theorem sfind_spec (l : List Bk) (hg : Good 0 l) (hl : (blksB l).length ≤ 1000000) (lb le : Bool) (tick : Int) (ht : -9223372036854775808 ≤ tick ∧ tick ≤ 9223372036854775807) :
    call E (.func (.func 27) [] []) [.ptr 0 0, .lit (.int .i64 tick)] (ixH false lb le (blksB l) (entGo 0 0 l) (totB l))
      = some (if 0 ≤ tick ∧ tick < totB l then .tup [.lit (.int .i64 ((blksB (l.take (entIx l tick))).length)), .lit (.int .i64 0)] else .tup [.lit (.int .i64 0), .lit (.int .i64 10)], ixH false lb le (blksB l) (entGo 0 0 l) (totB l)) := by
  rw [call_func E E27]
  have hE := entry_spec l hg hl lb le tick ht
  have hln := good_len l 0 hg
  have hel := entGo_length l 0 0
  by_cases hc : 0 ≤ tick ∧ tick < totB l
  · rw [if_pos hc] at hE ⊢
    have hlt := entIx_lt l tick hc.1 hc.2
    have hb0 : blksB l ≠ [] := by
      intro q; rw [q] at hln
      have : l.length = 0 := by simp at hln; omega
      omega
    have he := entGo_get l 0 0 _ hlt
    simp only [Int.zero_add, Nat.zero_add] at he
    have hi' : entIx l tick < (entGo 0 0 l).length := by omega
    have hx : (entGo 0 0 l)[entIx l tick] = (totB (l.take (entIx l tick)), (blksB (l.take (entIx l tick))).length) := by simpa [List.getElem?_eq_getElem hi'] using he
    rw [ixH_big hb0] at hE ⊢
    clear he
    generalize (blksB (l.take (entIx l tick))).length = p at *
    generalize totB (l.take (entIx l tick)) = tp at *
    generalize entIx l tick = i at *
    generalize entGo 0 0 l = es at *
    simp [ixI, hel] at hE
    simp [go_sem, ir27, ixI, hE, hx, hel, hlt, encEnt, purse_eq, List.range_succ]
  · rw [if_neg hc] at hE ⊢
    by_cases hb0 : blksB l = []
    · have hl0 : l = [] := by cases l with | nil => rfl | cons x r => rw [hb0] at hln; simp at hln
      subst hl0
      simp [ixH, hb0, entGo, totB, nilS] at hE
      simp [go_sem, ir27, ixH, hb0, hE, entGo, totB, nilS, purse_eq, List.range_succ]
    · rw [ixH_big hb0] at hE ⊢
      generalize entGo 0 0 l = es at *
      simp [ixI, hel] at hE
      simp [go_sem, ir27, ixI, hE, hel, purse_eq, List.range_succ]
/-- One block read. -/
theorem read_spec (l : List Bk) (hg : Good 0 l) (hl : (blksB l).length ≤ 1000000) (lb le : Bool) (i : Nat) (hi : i < l.length) :
    call E (.func (.func 90) [] []) [.ptr 0 0, .lit (.int .i64 i)] (ixI 0 lb le (blksB l) (entGo 0 0 l) (totB l))
      = some (.own 3 l[i].2.length 3 0 l[i].2.length, ixI 0 true le (blksB l) (entGo 0 0 l) (totB l) ++ [.arr true true false 3 (l[i].2.map encRun)]) := by
  rw [call_func E E90]
  have hel := entGo_length l 0 0
  have he := entGo_get l 0 0 i hi
  simp only [Int.zero_add, Nat.zero_add] at he
  have hi' : i < (entGo 0 0 l).length := by omega
  have hx : (entGo 0 0 l)[i] = (totB (l.take i), (blksB (l.take i)).length) := by simpa [List.getElem?_eq_getElem hi'] using he
  have hp := blks_take_le l i
  obtain ⟨g2, g3, _⟩ := good_get l 0 i hi hg
  have e : l = l.take i ++ (l[i] :: l.drop (i + 1)) := by rw [← List.drop_eq_getElem_cons hi, List.take_append_drop]
  have hd : (blksB l).drop (blksB (l.take i)).length = putBk l[i] ++ blksB (l.drop (i + 1)) := by
    conv => lhs; rw [e]
    rw [blksB_append, show (l.take i ++ l[i] :: l.drop (i + 1)).take i = l.take i by rw [← e], List.drop_left, blksB_cons]
  have hgb : getB ((blksB l).drop (blksB (l.take i)).length) = ((l[i].1, l[i].2), ((putBk l[i]).length : Int), 0) := by
    rw [hd]; exact get_of_put g2 g3 _
  have bb := blksB_byte l 0 hg
  have hG := bget_spec ((blksB l).drop (blksB (l.take i)).length) (fun c hc => bb c (List.mem_of_mem_drop hc)) (by simp; omega) false (false && decide (False)) (.inl rfl)
  rw [hgb] at hG
  have hne := (chkB_ok g2).2.1
  have hcut : cutE ((blksB l).map encB) (blksB (l.take i)).length ((blksB l).length - (blksB (l.take i)).length) = ((blksB l).drop (blksB (l.take i)).length).map encB := by
    unfold cutE
    rw [List.take_of_length_le (l := (blksB l).map encB) (by simp; omega), List.map_drop]
  clear hd he hgb bb
  generalize (blksB (l.take i)).length = p at *
  generalize totB (l.take i) = tp at *
  generalize blksB l = b at *
  generalize entGo 0 0 l = es at *
  generalize l[i] = x at *
  simp [resV, resHl, hne] at hG
  rw [List.map_drop] at hcut
  simp [go_sem, ir90, ixI, hx, hel, hi, encEnt, hp, hcut, hG, purse_eq, List.range_succ]
end Go.AM.R1
open Go Go.AM
namespace Go.AM.R1

theorem all_right_append {A B : List Run} : (A ++ B).all right = (A.all right && B.all right) := List.all_append
theorem sat18_spec (l : List Bk) (hg : Good 0 l) (hl : (blksB l).length ≤ 1000000) (lb le : Bool) (tick : Int) (ht : -9223372036854775808 ≤ tick ∧ tick ≤ 9223372036854775807) :
    call E (.func (.func 28) [] []) [.ptr 0 0, .lit (.int .i64 tick)] (ixH false lb le (blksB l) (entGo 0 0 l) (totB l))
      = some (if 0 ≤ tick ∧ tick < totB l then (.tup [.agg (encRun ((pick tick (allR l)).getD zeroRun)), .lit (.int .i64 1), .lit (.int .i64 0)], ixH false true le (blksB l) (entGo 0 0 l) (totB l))
        else (.tup [.agg (encRun zeroRun), .lit (.int .i64 0), .lit (.int .i64 10)], ixH false lb le (blksB l) (entGo 0 0 l) (totB l))) := by
  rw [call_func E E28]
  have hE := entry_spec l hg hl lb le tick ht
  have hln := good_len l 0 hg
  have hel := entGo_length l 0 0
  by_cases hc : 0 ≤ tick ∧ tick < totB l
  · rw [if_pos hc] at hE ⊢
    have hlt := entIx_lt l tick hc.1 hc.2
    obtain ⟨b1, b2⟩ := entIx_bounds l tick hc.1 hc.2
    have hb0 : blksB l ≠ [] := by
      intro q; rw [q] at hln
      have : l.length = 0 := by simp at hln; omega
      omega
    have he := entGo_get l 0 0 _ hlt
    simp only [Int.zero_add, Nat.zero_add] at he
    have hi' : entIx l tick < (entGo 0 0 l).length := by omega
    have hx : (entGo 0 0 l)[entIx l tick] = (totB (l.take (entIx l tick)), (blksB (l.take (entIx l tick))).length) := by simpa [List.getElem?_eq_getElem hi'] using he
    have hR := read_spec l hg hl lb le _ hlt
    obtain ⟨g2, g3, _⟩ := good_get l 0 _ hlt hg
    have gk := chkB_ok g2
    have hk := (take_succ_tot l _ hlt).1
    have htt := tot_take_le l (entIx l tick) hg
    have hne := gk.2.1
    have hA := at_spec l[entIx l tick].2 (by omega) (chkB_Ok g2) (tick - totB (l.take (entIx l tick))) (by omega) false false
    obtain ⟨r, hr⟩ := pick_some (l := l[entIx l tick].2) (t := tick - totB (l.take (entIx l tick))) (by omega) (by omega)
    have hat : atRun l[entIx l tick].2 (tick - totB (l.take (entIx l tick))) = (r, 0) := by
      unfold atRun
      rw [if_neg (by simp [gk.2.2.2.1]), if_neg (by omega), hr]; rfl
    rw [hat] at hA
    have w1 : IntKind.wrap .i64 (tick - totB (l.take (entIx l tick))) = tick - totB (l.take (entIx l tick)) := by
      have := good_tot l 0 (by omega) (by omega) hg
      rw [wrap64 (by omega) (by omega)]
    rw [pick_all hg hlt b1 b2, hr]
    rw [ixH_big hb0] at hE ⊢
    rw [ixH_big hb0]
    clear he hat hr
    generalize (blksB (l.take (entIx l tick))).length = p at *
    generalize totB (l.take (entIx l tick)) = tp at *
    generalize l[entIx l tick] = x at *
    generalize entIx l tick = i at *
    generalize entGo 0 0 l = es at *
    generalize blksB l = b at *
    generalize totB l = T at *
    simp [ixI, hel] at hE hR
    simp [encRun] at hA
    simp [go_sem, ir28, ixI, hE, hR, hx, hel, hlt, hA, w1, encEnt, encRun, purse_eq, List.range_succ]
  · rw [if_neg hc] at hE ⊢
    by_cases hb0 : blksB l = []
    · have hl0 : l = [] := by cases l with | nil => rfl | cons x r => rw [hb0] at hln; simp at hln
      subst hl0
      simp [ixH, hb0, entGo, totB, nilS] at hE
      simp [go_sem, ir28, ixH, hb0, hE, entGo, totB, nilS, purse_eq, encRun, zeroRun, List.range_succ]
    · rw [ixH_big hb0] at hE ⊢
      generalize entGo 0 0 l = es at *
      simp [ixI, hel] at hE
      simp [go_sem, ir28, ixI, hE, hel, purse_eq, encRun, zeroRun, List.range_succ]
end Go.AM.R1
open Go Go.AM
namespace Go.AM.R1

def cutB (l : List Bk) (a b : Int) : List Run × Int :=
  if a < 0 ∨ b < a ∨ totB l < b then ([], 10) else if a = b then ([], 0) else (joined [] (betweenGo a b 0 (allR l)), 0)
theorem expand_allR_len {l : List Bk} {t : Int} (g : Good t l) : ((expand (allR l)).length : Int) = totB l := by
  rw [expand_length _ fun r hr => by have := good_nonneg g r hr; omega, allR_sum]
theorem take_drop_mid {α : Type} (P A S : List α) {a b : Nat} (h1 : P.length ≤ a) (h2 : a ≤ b) (h3 : b ≤ P.length + A.length) :
    ((P ++ (A ++ S)).take b).drop a = (A.take (b - P.length)).drop (a - P.length) := by
  rw [List.take_append, List.take_of_length_le (show P.length ≤ b by omega), List.drop_append, List.drop_eq_nil_of_le h1, List.nil_append, List.take_append_of_le_length (by omega)]
/-- The blocks from one on. -/
def midB (l : List Bk) (f c : Nat) : List Bk := (l.drop f).take c
theorem mid_split (l : List Bk) (f c : Nat) : l = l.take f ++ (midB l f c ++ (l.drop f).drop c) := by
  unfold midB; rw [List.take_append_drop, List.take_append_drop]
theorem mid_good {l : List Bk} (hg : Good 0 l) (f c : Nat) : Good (totB (l.take f)) (midB l f c) := by
  have h := hg
  rw [mid_split l f c, good_append, good_append] at h
  have := h.2.1
  rwa [Int.zero_add] at this
theorem mid_tot {l : List Bk} {f c : Nat} (h : f + c ≤ l.length) : totB (midB l f c) = totB (l.take (f + c)) - totB (l.take f) := by
  have : l.take (f + c) = l.take f ++ midB l f c := by unfold midB; rw [List.take_add]
  rw [this, totB_append]; omega
theorem cut_mid {l : List Bk} (hg : Good 0 l) {f c : Nat} (hf : f + c ≤ l.length) {a b : Int} (h1 : totB (l.take f) ≤ a) (h2 : a ≤ b) (h3 : b ≤ totB (l.take (f + c))) :
    cutRuns (allR (midB l f c)) (a - totB (l.take f)) (b - totB (l.take f)) = (joined [] (betweenGo a b 0 (allR l)), 0) := by
  have hm := mid_good hg f c
  have ht := tot_take_le l f hg
  have hmt := mid_tot hf
  have hck := good_chk ht.1 ht.2 hm
  have hnn : ∀ r ∈ allR (midB l f c), 0 ≤ r.N := fun r hr => by have := good_nonneg hm r hr; omega
  have hnl : ∀ r ∈ allR l, 0 ≤ r.N := fun r hr => by have := good_nonneg hg r hr; omega
  unfold cutRuns
  rw [if_neg (by simp [hck]), if_neg (by rw [allR_sum]; omega)]
  congr 1
  rw [cut_law _ hnn, cut_law _ hnl]
  congr 1
  have e : expand (allR l) = expand (allR (l.take f)) ++ (expand (allR (midB l f c)) ++ expand (allR ((l.drop f).drop c))) := by
    conv => lhs; rw [mid_split l f c]
    rw [allR_append, allR_append, expand_append, expand_append]
  have l1 := expand_allR_len (good_take l 0 f hg)
  have l2 := expand_allR_len hm
  rw [e, take_drop_mid _ _ _ (by omega) (by omega) (by omega)]
  congr 1
  · omega
  · congr 1; omega
theorem cut18_loop (l : List Bk) (hg : Good 0 l) (hl : (blksB l).length ≤ 1000000) (le : Bool) (from_ to : Int) (f c : Nat) (hfc : f + c ≤ l.length) (k : List Item) (R : Option (AVal × Heap))
    (hk : ∀ τ, lk 0 τ = .ptr 0 0 → lk 1 τ = .lit (.int .i64 from_) → lk 2 τ = .lit (.int .i64 to) → lk 8 τ = .lit (.int .i64 f) → lk 12 τ = .own 4 (allR (midB l f c)).length 3 0 (allR (midB l f c)).length →
      finK 3 [.tmp 6, .tmp 7] (run E 3 k τ (ixI 0 true le (blksB l) (entGo 0 0 l) (totB l) ++ [.dead, .arr true false false 3 ((allR (midB l f c)).map encRun)])) = R) :
    ∀ (d i : Nat), i + d = c → 1 ≤ i →
   finK 3 [.tmp 6, .tmp 7] (run E 3 (.code L30_0 :: .inLoop [0, 1, 2, 8, 12, 54, 55] L30_0 :: .inBlock 1 :: k)
     [(0, .ptr 0 0), (1, .lit (.int .i64 from_)), (2, .lit (.int .i64 to)), (8, .lit (.int .i64 f)), (12, .own 4 (allR (midB l f i)).length 3 0 (allR (midB l f i)).length), (54, .lit (.int .i64 c)), (55, .lit (.int .i64 i))]
     (ixI 0 true le (blksB l) (entGo 0 0 l) (totB l) ++ [.dead, .arr true false false 3 ((allR (midB l f i)).map encRun)])) = R := by
  have hln := good_len l 0 hg
  intro d
  induction d with
  | zero =>
    intro i hi h1
    have : i = c := by omega
    subst this
    simp [go_sem, run_codeL E L30_0.eq_1]
    exact hk _ rfl rfl rfl rfl rfl
  | succ d ih =>
    intro i hi h1
    have hlt : i < c := by omega
    have hfi : f + i < l.length := by omega
    have ih2 := ih (i + 1) (by omega) (by omega)
    have hR := read_spec l hg hl true le (f + i) hfi
    have hm : allR (midB l f (i + 1)) = allR (midB l f i) ++ l[f + i].2 := by
      have : midB l f (i + 1) = midB l f i ++ [l[f + i]] := by
        unfold midB
        rw [List.take_succ_eq_append_getElem (by simp; omega)]
        simp
      rw [this, allR_append]; simp [allR]
    rw [hm] at ih2
    obtain ⟨g2, g3, _⟩ := good_get l 0 _ hfi hg
    have hne := (chkB_ok g2).2.1
    have hr := (rowsOk_map (sz := 3) (f := encRun) (fun _ => rfl) l[f + i].2 : _)
    have hrl := runs_le l
    have hml : (allR (midB l f i)).length + l[f + i].2.length ≤ 1000000 := by
      have h2 : allR l = allR (l.take f) ++ (allR (midB l f (i + 1)) ++ allR ((l.drop f).drop (i + 1))) := by
        conv => lhs; rw [mid_split l f (i + 1)]
        rw [allR_append, allR_append]
      have := congrArg List.length h2
      rw [hm] at this
      simp only [List.length_append] at this
      omega
    have hbb : ¬ (70368744177664 < ((allR (midB l f i)).length + l[f + i].2.length) * 24) := by omega
    have w1 : IntKind.wrap .i64 ((f : Int) + (i : Int)) = ((f + i : Nat) : Int) := by rw [wrap64 (by omega) (by omega)]; omega
    have wi := wrapIdx (i := i) (by omega)
    generalize allR (midB l f i) = A at *
    generalize l[f + i] = x at *
    clear hm
    generalize blksB l = b at *
    generalize entGo 0 0 l = es at *
    generalize totB l = T at *
    simp [ixI] at hR ih2
    simp [go_sem, run_codeL E L30_0.eq_1, hlt, ixI, w1, wi, hR, hr, hbb, hne, purse_eq]
    rw [run_inLoop']
    simp [go_sem, purse_eq, List.range_succ]
    exact ih2
theorem scut18_spec (l : List Bk) (hg : Good 0 l) (hl : (blksB l).length ≤ 1000000) (lb le : Bool) (a b : Int) (ha : -9223372036854775808 ≤ a ∧ a ≤ 9223372036854775807) (hb : -9223372036854775808 ≤ b ∧ b ≤ 9223372036854775807) :
    ∃ lb', call E (.func (.func 30) [] []) [.ptr 0 0, .lit (.int .i64 a), .lit (.int .i64 b)] (ixH false lb le (blksB l) (entGo 0 0 l) (totB l))
      = some (.tup [resV (ixH false lb le (blksB l) (entGo 0 0 l) (totB l)).length ((cutB l a b).1.map encRun), .lit (.int .i64 (cutB l a b).2)], ixH false lb' le (blksB l) (entGo 0 0 l) (totB l) ++ resH [] ((cutB l a b).1.map encRun)) := by
  have hln := good_len l 0 hg
  have hel := entGo_length l 0 0
  have hgt := good_tot l 0 (by omega) (by omega) hg
  by_cases h1 : a < 0 ∨ b < a ∨ totB l < b
  · refine ⟨lb, ?_⟩
    rw [call_func E E30]
    have e : cutB l a b = ([], 10) := by unfold cutB; rw [if_pos h1]
    rw [e]
    by_cases hb0 : blksB l = []
    · have hl0 : l = [] := by cases l with | nil => rfl | cons x r => rw [hb0] at hln; simp at hln
      subst hl0
      simp only [totB] at h1
      by_cases h2 : a < 0
      · simp [go_sem, ir30, ixH, hb0, entGo, totB, nilS, purse_eq, resV, resH, h2, List.range_succ]
      · by_cases h3 : b < a
        · simp [go_sem, ir30, ixH, hb0, entGo, totB, nilS, purse_eq, resV, resH, h2, h3, List.range_succ]
        · have h4 : 0 < b := by omega
          simp [go_sem, ir30, ixH, hb0, entGo, totB, nilS, purse_eq, resV, resH, h2, h3, h4, List.range_succ]
    · rw [ixH_big hb0]
      by_cases h2 : a < 0
      · simp [go_sem, ir30, ixI, nilS, purse_eq, resV, resH, h2, List.range_succ]
      · by_cases h3 : b < a
        · simp [go_sem, ir30, ixI, nilS, purse_eq, resV, resH, h2, h3, List.range_succ]
        · have h4 : totB l < b := by omega
          simp [go_sem, ir30, ixI, nilS, purse_eq, resV, resH, h2, h3, h4, List.range_succ]
  · have h2 : ¬ a < 0 := by omega
    have h3 : ¬ b < a := by omega
    have h4 : ¬ totB l < b := by omega
    by_cases h5 : a = b
    · refine ⟨lb, ?_⟩
      rw [call_func E E30]
      have e : cutB l a b = ([], 0) := by unfold cutB; rw [if_neg h1, if_pos h5]
      rw [e]
      subst h5
      by_cases hb0 : blksB l = []
      · have hl0 : l = [] := by cases l with | nil => rfl | cons x r => rw [hb0] at hln; simp at hln
        subst hl0
        simp only [totB] at h4
        simp [go_sem, ir30, ixH, hb0, entGo, totB, nilS, purse_eq, resV, resH, h2, h3, h4, List.range_succ]
      · rw [ixH_big hb0]
        simp [go_sem, ir30, ixI, nilS, purse_eq, resV, resH, h2, h3, h4, List.range_succ]
    · refine ⟨true, ?_⟩
      rw [call_func E E30]
      have e : cutB l a b = (joined [] (betweenGo a b 0 (allR l)), 0) := by unfold cutB; rw [if_neg h1, if_neg h5]
      have hb0 : blksB l ≠ [] := by
        intro q; rw [q] at hln
        have : l = [] := by cases l with | nil => rfl | cons x r => simp at hln
        subst this; simp [totB] at h4; omega
      have E1 := entry_spec l hg hl lb le a ha
      have E2 := entry_spec l hg hl lb le (b - 1) (by omega)
      have f1 := entIx_lt l a (by omega) (by omega)
      have f2 := entIx_lt l (b - 1) (by omega) (by omega)
      obtain ⟨b1, b2⟩ := entIx_bounds l a (by omega) (by omega)
      obtain ⟨b3, b4⟩ := entIx_bounds l (b - 1) (by omega) (by omega)
      have fle : entIx l a ≤ entIx l (b - 1) := by
        apply Classical.byContradiction
        intro hn
        have := tot_mono hg (show entIx l (b - 1) + 1 ≤ entIx l a by omega)
        omega
      rw [if_pos (show 0 ≤ a ∧ a < totB l by omega)] at E1
      rw [if_pos (show 0 ≤ b - 1 ∧ b - 1 < totB l by omega)] at E2
      generalize hf : entIx l a = f at *
      generalize hgg : entIx l (b - 1) = g at *
      obtain ⟨c, hc⟩ : ∃ c, g = f + c := ⟨g - f, by omega⟩
      have hM := cut_mid hg (f := f) (c := c + 1) (by omega) (a := a) (b := b) b1 (by omega) (by rw [show f + (c + 1) = g + 1 by omega]; omega)
      rw [← e] at hM
      have hm := mid_good hg f (c + 1)
      have htf := tot_take_le l f hg
      have hrl := runs_le l
      have hml : (allR (midB l f (c + 1))).length ≤ (allR l).length := by
        have h2 : allR l = allR (l.take f) ++ (allR (midB l f (c + 1)) ++ allR ((l.drop f).drop (c + 1))) := by
          conv => lhs; rw [mid_split l f (c + 1)]
          rw [allR_append, allR_append]
        have := congrArg List.length h2
        simp only [List.length_append] at this
        omega
      have hC := cut_spec (allR (midB l f (c + 1))) (by omega) (good_ok htf.1 htf.2 hm) (a - totB (l.take f)) (b - totB (l.take f)) false false
      rw [hM] at hC
      have he := entGo_get l 0 0 f f1
      simp only [Int.zero_add, Nat.zero_add] at he
      have hi' : f < (entGo 0 0 l).length := by omega
      have hx : (entGo 0 0 l)[f] = (totB (l.take f), (blksB (l.take f)).length) := by simpa [List.getElem?_eq_getElem hi'] using he
      have hR := read_spec l hg hl lb le f f1
      have w1 : IntKind.wrap .i64 (b - 1) = b - 1 := by rw [wrap64 (by omega) (by omega)]
      have w2 : IntKind.wrap .i64 ((g : Int) - (f : Int)) = (c : Int) := by rw [wrap64 (by omega) (by omega)]; omega
      have w3 : IntKind.wrap .i64 ((c : Int) + 1) = ((c + 1 : Nat) : Int) := by rw [wrap64 (by omega) (by omega)]; omega
      have w4 : IntKind.wrap .i64 (f : Int) = (f : Int) := wrap64 (by omega) (by omega)
      have w5 : IntKind.wrap .i64 1 = 1 := rfl
      have w6 : IntKind.wrap .i64 (a - totB (l.take f)) = a - totB (l.take f) := wrap64 (by omega) (by omega)
      have w7 : IntKind.wrap .i64 (b - totB (l.take f)) = b - totB (l.take f) := wrap64 (by omega) (by omega)
      have hmid1 : allR (midB l f 1) = l[f].2 := by
        unfold midB
        rw [List.drop_eq_getElem_cons f1, List.take_succ_cons, List.take_zero, allR_cons]
        exact List.append_nil _
      obtain ⟨g2, g3, _⟩ := good_get l 0 _ f1 hg
      have hne := (chkB_ok g2).2.1
      have h4096 := (chkB_ok g2).2.2.1
      have hr := (rowsOk_map (sz := 3) (f := encRun) (fun _ => rfl) l[f].2 : _)
      have hbb : ¬ (70368744177664 < l[f].2.length * 24) := by omega
      rw [ixH_big hb0]
      rw [ixH_big hb0]
      simp only [ixH_big hb0] at E1 E2
      have hlen3 : (ixI 0 lb le (blksB l) (entGo 0 0 l) (totB l)).length = 3 := rfl
      rw [hlen3]
      have hL := cut18_loop l hg hl le a b f (c + 1) (by omega) [.code (.seq (.reg [⟨none, some 66, .copy (.t 0)⟩, ⟨none, some 67, .nilCheck (.t 66)⟩, ⟨none, some 68, .fieldA 1 (.t 67)⟩, ⟨none, some 69, .load false 1 (.t 68)⟩, ⟨none, some 70, .copy (.t 8)⟩, ⟨none, some 71, .idxS 2 (.t 69) (.t 70)⟩, ⟨none, some 72, .fieldA 0 (.t 71)⟩, ⟨none, some 73, .load false 1 (.t 72)⟩, ⟨none, some 14, .copy (.t 73)⟩] [] [])
          (.seq (.reg [⟨none, some 74, .copy (.t 12)⟩, ⟨none, some 75, .copy (.t 1)⟩, ⟨none, some 76, .copy (.t 14)⟩, ⟨none, some 77, .bin .sub (.t 75) (.t 76)⟩, ⟨none, some 78, .copy (.t 2)⟩, ⟨none, some 79, .copy (.t 14)⟩, ⟨none, some 80, .bin .sub (.t 78) (.t 79)⟩, ⟨none, some 81, .call 92 [.t 74, .t 77, .t 80]⟩, ⟨none, some 82, .extract (.t 81) 0⟩, ⟨none, some 83, .extract (.t 81) 1⟩, ⟨none, some 6, .copy (.t 82)⟩, ⟨none, some 7, .copy (.t 83)⟩] [] []) .ret))]
        (some (.tup [resV 3 ((cutB l a b).1.map encRun), .lit (.int .i64 (cutB l a b).2)], ixI 0 true le (blksB l) (entGo 0 0 l) (totB l) ++ resH [] ((cutB l a b).1.map encRun))) ?_ c 1 (by omega) (by omega)
      · rw [hmid1] at hL
        generalize some (AVal.tup _, _) = Q at hL ⊢
        clear hC hM e he hx hmid1 hml hrl hm w6 w7 b1 b2 b3 b4 htf hgt
        generalize l[f] = x at *
        generalize blksB l = B at *
        generalize entGo 0 0 l = es at *
        generalize totB l = T at *
        simp [ixI] at E1 E2 hR hL
        simp at w3
        simp [go_sem, ir30, ixI, h2, h3, h4, h5, E1, E2, w1, w2, w3, purse_eq]
        rw [run_inLoop']
        simp [go_sem, purse_eq, List.range_succ]
        have h01 : (0 : Int) < (c : Int) + 1 := by omega
        simp [go_sem, run_codeL E L30_0.eq_1, h01, w4, w5, hR, hr, hbb, hne, purse_eq]
        rw [run_inLoop']
        simp [go_sem, purse_eq, List.range_succ]
        exact hL
      · intro τ t0 t1 t2 t8 t12
        generalize cutB l a b = S at *
        clear e hM hmid1
        generalize totB (l.take f) = tp at *
        generalize allR (midB l f (c + 1)) = A at *
        generalize blksB l = B at *
        generalize entGo 0 0 l = es at *
        generalize totB l = T at *
        by_cases hS : S.1 = []
        · simp [resV, resH, hS] at hC
          simp [go_sem, t0, t1, t2, t8, t12, ixI, hx, hel, f1, w6, w7, hC, encEnt, resV, resH, hS, purse_eq, List.range_succ, nilS]
        · simp [resV, resH, hS] at hC
          simp [go_sem, t0, t1, t2, t8, t12, ixI, hx, hel, f1, w6, w7, hC, encEnt, resV, resH, hS, purse_eq, List.range_succ, nilS]
end Go.AM.R1
open Go Go.AM
namespace Go.AM.R1

/-! ### All runs, and a part of them, as the document tells them -/
theorem rruns_loop (l : List Bk) (hl : (allR l).length ≤ 1048576) (hl2 : l.length ≤ 1048576) (hne : ∀ x ∈ l, x.2 ≠ []) (nl fu : Bool) (k : List Item) (R : List Run → Option (AVal × Heap))
    (hk : ∀ (out : List Run) τ, lk 3 τ = .own 0 out.length 3 0 out.length → finK 0 [.tmp 2] (run E 0 k τ [.arr true false out.isEmpty 3 (out.map encRun)]) = R out) :
    ∀ (d i : Nat), i + d = l.length →
   finK 0 [.tmp 2] (run E 0 (.code L62_0 :: .inLoop [0, 3, 4] L62_0 :: .inBlock 0 :: k)
     [(0, .imm nl fu true (l.map encBk)), (3, .own 0 (allR (l.take i)).length 3 0 (allR (l.take i)).length), (4, .lit (.int .i64 i))] [.arr true false (allR (l.take i)).isEmpty 3 ((allR (l.take i)).map encRun)])
   = R (allR l) := by
  intro d
  induction d with
  | zero =>
    intro i hi
    have : i = l.length := by omega
    subst this
    simp [go_sem, run_codeL E L62_0.eq_1]
    exact hk _ _ rfl
  | succ d ih =>
    intro i hi
    have hlt : i < l.length := by omega
    have hm : allR (l.take (i + 1)) = allR (l.take i) ++ l[i].2 := by
      rw [List.take_succ_eq_append_getElem hlt, allR_append, allR_cons]; simp [allR]
    have ih2 := ih (i + 1) (by omega)
    rw [hm] at ih2
    have hle : (allR (l.take i)).length + l[i].2.length ≤ 1048576 := by
      have h2 : allR l = allR (l.take (i + 1)) ++ allR (l.drop (i + 1)) := by rw [← allR_append, List.take_append_drop]
      have := congrArg List.length h2
      rw [hm] at this
      simp only [List.length_append] at this
      omega
    have hn := hne _ (List.getElem_mem hlt)
    have hr := (rowsOk_map (sz := 3) (f := encRun) (fun _ => rfl) l[i].2 : _)
    have wi := wrapIdx (i := i) (by omega)
    have hbb : ¬ (70368744177664 < ((allR (l.take i)).length + l[i].2.length) * 24) := by omega
    generalize R _ = Q at *
    generalize allR (l.take i) = A at *
    clear hm
    have hAe : (A ++ l[i].2).isEmpty = false := by
      cases hq : A ++ l[i].2 with
      | nil => exact absurd (List.append_eq_nil_iff.1 hq).2 hn
      | cons x r => rfl
    rw [hAe] at ih2
    simp [encBk] at ih2
    cases A with
    | nil =>
      have hbb2 : ¬ (70368744177664 < l[i].2.length * 24) := by simpa using hbb
      simp at ih2
      simp [go_sem, run_codeL E L62_0.eq_1, hlt, hr, wi, hbb2, hn, purse_eq, encBk, List.getElem?_eq_getElem hlt]
      rw [run_inLoop']
      simp [go_sem, purse_eq]
      simpa using ih2
    | cons x xs =>
      have hbb2 : ¬ (70368744177664 < (xs.length + 1 + l[i].2.length) * 24) := by simpa using hbb
      simp at ih2
      simp [go_sem, run_codeL E L62_0.eq_1, hlt, hr, wi, hbb2, hn, purse_eq, encBk, List.getElem?_eq_getElem hlt]
      rw [run_inLoop']
      simp [go_sem, purse_eq]
      simpa using ih2
theorem rruns_spec (l : List Bk) (hg : Good 0 l) (hl : (blksB l).length ≤ 1000000) (nl fu : Bool) :
    call E (.func (.func 62) [] []) [.imm nl fu true (l.map encBk)] []
      = some (.own 0 (joined [] (allR l)).length 3 0 (joined [] (allR l)).length, [.arr true false (joined [] (allR l)).isEmpty 3 ((joined [] (allR l)).map encRun)]) := by
  rw [call_func E E62]
  have hrl := runs_le l
  have hln := good_len l 0 hg
  have hgt := good_tot l 0 (by omega) (by omega) hg
  have hnn : ∀ r ∈ allR l, 0 ≤ r.N := fun r hr => by have := good_nonneg hg r hr; omega
  have hJ := fun nl fu => refJoin_spec (allR l) (by omega) (good_ok (by omega) (by omega) hg) (by rw [posSum_of_right _ hnn, allR_sum]; omega) nl fu
  simp [go_sem, ir62, purse_eq]
  rw [run_inLoop']
  simp [go_sem, purse_eq]
  have h := rruns_loop l (by omega) (by omega) (fun x hx => by
      obtain ⟨i, hi⟩ := List.mem_iff_getElem.1 hx
      obtain ⟨hi, rfl⟩ := hi
      exact (chkB_ok (good_get l 0 i hi hg).1).2.1) nl fu [.code (.seq (.reg [⟨none, some 19, .copy (.t 3)⟩, ⟨none, some 20, .call 93 [.t 19]⟩, ⟨none, some 2, .copy (.t 20)⟩] [] []) .ret)]
      (fun out => finK 0 [.tmp 2] (run E 0 [.code (.seq (.reg [⟨none, some 19, .copy (.t 3)⟩, ⟨none, some 20, .call 93 [.t 19]⟩, ⟨none, some 2, .copy (.t 20)⟩] [] []) .ret)] [(3, .own 0 out.length 3 0 out.length)] [.arr true false out.isEmpty 3 (out.map encRun)])) ?_ l.length 0 (by omega)
  · simp [show allR ([] : List Bk) = [] from rfl] at h
    rw [h]
    generalize joined [] (allR l) = J at *
    generalize allR l = A at *
    simp [go_sem, hJ, purse_eq]
  · intro out τ h3
    simp [go_sem, h3]
    generalize backK _ _ = q
    rcases q with _ | ⟨v, H⟩
    · rfl
    · simp [go_sem]
theorem r18runs_spec (b : List Nat) (hb : ∀ c ∈ b, c < 256) (hl : b.length ≤ 1000000) (nl fu : Bool) :
    call E (.func (.func 25) [] []) [.imm nl fu true (b.map encB)] []
      = some (.own 0 (joined [] (allR (scanB b).1)).length 3 0 (joined [] (allR (scanB b).1)).length, [.arr true false (joined [] (allR (scanB b).1)).isEmpty 3 ((joined [] (allR (scanB b).1)).map encRun)]) := by
  rw [call_func E E25]
  have hN := rscan_spec b hb hl nl fu
  obtain ⟨f1, f2, f3, f4, f5⟩ := scanB_facts hb
  have hR := fun nl fu => rruns_spec (scanB b).1 f1 (by omega) nl fu
  generalize joined [] (allR (scanB b).1) = J at *
  generalize scanB b = g at *
  simp [go_sem, ir25, hN, hR, purse_eq]
theorem lpart_loop (l : List Run) (hl : l.length ≤ 1048576) (hl2 : ∀ r ∈ l, 0 ≤ r.N ∧ r.N ≤ 1073741824) (a b : Int) (ha : 0 ≤ a ∧ a ≤ 1073741824) (hb : 0 ≤ b ∧ b ≤ 1073741824) (nl fu : Bool) (k : List Item) (R : List Run → Option (AVal × Heap))
    (hk : ∀ (out : List Run) τ, lk 7 τ = .own 0 out.length 3 0 out.length → finK 0 [.tmp 6] (run E 0 k τ [.arr true false out.isEmpty 3 (out.map encRun)]) = R out) :
    ∀ (d i : Nat) (at_ : Int) (out : List Run), i + d = l.length → 0 ≤ at_ → at_ ≤ 1073741824 * i → out.length ≤ i →
   finK 0 [.tmp 6] (run E 0 (.code L32_0 :: .inLoop [0, 1, 2, 7, 8, 9] L32_0 :: .inBlock 0 :: k)
     [(0, .imm nl fu true (l.map encRun)), (1, .lit (.int .i64 a)), (2, .lit (.int .i64 b)), (7, .own 0 out.length 3 0 out.length), (8, .lit (.int .i64 at_)), (9, .lit (.int .i64 i))] [.arr true false out.isEmpty 3 (out.map encRun)])
   = R (out ++ betweenGo a b at_ (l.drop i)) := by
  intro d
  induction d with
  | zero =>
    intro i at_ out hi h0 h3 h4
    have : i = l.length := by omega
    subst this
    simp [go_sem, run_codeL E L32_0.eq_1, betweenGo]
    exact hk out _ rfl
  | succ d ih =>
    intro i at_ out hi h0 h3 h4
    have hlt : i < l.length := by omega
    have hr := hl2 _ (List.getElem_mem hlt)
    have w2 := wrapIdx (i := i) (by omega)
    have w1 : IntKind.wrap .i64 (at_ + l[i].N) = at_ + l[i].N := wrap64 (by omega) (by omega)
    rw [List.drop_eq_getElem_cons hlt, betweenGo]
    obtain ⟨x, hx, hx1⟩ : ∃ x, (if b < at_ + l[i].N then b else at_ + l[i].N) = x ∧ (0 ≤ x ∧ x ≤ 2251799813685248) := ⟨_, rfl, by split <;> omega⟩
    obtain ⟨y, hy, hy1⟩ : ∃ y, (if a > at_ then a else at_) = y ∧ (0 ≤ y ∧ y ≤ 2251799813685248) := ⟨_, rfl, by split <;> omega⟩
    have hp : part at_ a b l[i].N = x - y := by unfold part; rw [hx, hy]
    have w3 : IntKind.wrap .i64 (x - y) = x - y := wrap64 (by omega) (by omega)
    rw [hp]
    have step : ∀ out' : List Run, out'.length ≤ i + 1 → (∀ Q, R (out' ++ betweenGo a b (at_ + l[i].N) (l.drop (i + 1))) = Q → finK 0 [.tmp 6] (run E 0 (.code L32_0 :: .inLoop [0, 1, 2, 7, 8, 9] L32_0 :: .inBlock 0 :: k)
     [(0, .imm nl fu true (l.map encRun)), (1, .lit (.int .i64 a)), (2, .lit (.int .i64 b)), (7, .own 0 out'.length 3 0 out'.length), (8, .lit (.int .i64 (at_ + l[i].N))), (9, .lit (.int .i64 (i + 1 : Nat)))] [.arr true false out'.isEmpty 3 (out'.map encRun)]) = Q) := fun out' ho Q hq => by
      rw [ih (i + 1) (at_ + l[i].N) out' (by omega) (by omega) (by omega) ho, hq]
    by_cases hq : 0 < x - y
    · rw [if_pos hq]
      have hq' : y < x := by omega
      have st := step (out ++ [⟨x - y, l[i].Bus, l[i].Drive⟩]) (by simp; omega) _ rfl
      rw [List.append_assoc] at st
      generalize R _ = Q at st ⊢
      rcases snoc_cases out with rfl | ⟨o, e, rfl⟩
      · simp [encRun] at st
        by_cases c1 : b < at_ + l[i].N <;> by_cases c2 : at_ < a <;> simp [c1] at hx <;> simp [c2] at hy <;> subst hx hy <;>
        (simp [go_sem, run_codeL E L32_0.eq_1, hlt, List.getElem?_eq_getElem hlt, encRun, w1, w2, w3, c1, c2, hq', purse_eq]
         rw [run_inLoop']
         simp [go_sem, purse_eq]
         simpa using st)
      · have hbb : ¬ (70368744177664 < (o.length + 1 + 1) * 24) := by simp at h4; omega
        simp [encRun, isEmpty_snoc] at st
        by_cases c1 : b < at_ + l[i].N <;> by_cases c2 : at_ < a <;> simp [c1] at hx <;> simp [c2] at hy <;> subst hx hy <;>
        (simp [go_sem, run_codeL E L32_0.eq_1, hlt, List.getElem?_eq_getElem hlt, encRun, w1, w2, w3, c1, c2, hq', hbb, purse_eq]
         rw [run_inLoop']
         simp [go_sem, purse_eq]
         simpa [Nat.add_assoc, isEmpty_snoc] using st)
    · rw [if_neg hq, List.nil_append]
      have hq' : ¬ y < x := by omega
      have st := step out (by omega) _ rfl
      generalize R _ = Q at st ⊢
      simp [encRun] at st
      by_cases c1 : b < at_ + l[i].N <;> by_cases c2 : at_ < a <;> simp [c1] at hx <;> simp [c2] at hy <;> subst hx hy <;>
      (simp [go_sem, run_codeL E L32_0.eq_1, hlt, List.getElem?_eq_getElem hlt, encRun, w1, w2, w3, c1, c2, hq', purse_eq]
       rw [run_inLoop']
       simp [go_sem, purse_eq]
       simpa using st)
theorem lpart_spec (l : List Run) (hl : l.length ≤ 1048576) (hl2 : ∀ r ∈ l, 0 ≤ r.N ∧ r.N ≤ 1073741824) (hs : sumN l ≤ 1073741824) (a b : Int) (ha : 0 ≤ a ∧ a ≤ 1073741824) (hb : 0 ≤ b ∧ b ≤ 1073741824) (nl fu : Bool) :
    call E (.func (.func 32) [] []) [.imm nl fu true (l.map encRun), .lit (.int .i64 a), .lit (.int .i64 b)] []
      = some (.own 0 (joined [] (betweenGo a b 0 l)).length 3 0 (joined [] (betweenGo a b 0 l)).length, [.arr true false (joined [] (betweenGo a b 0 l)).isEmpty 3 ((joined [] (betweenGo a b 0 l)).map encRun)]) := by
  rw [call_func E E32]
  have hm := between_mem a b l 0 hl2
  have hlen := between_length a b l 0
  have hp := posSum_le (betweenGo a b 0 l) 1073741824 (by omega) (fun r hr => (hm r hr).2)
  have hJ := fun nl fu => refJoin_spec (betweenGo a b 0 l) (by omega) (fun r hr => ⟨by have := hm r hr; omega, by have := hm r hr; omega⟩) (by omega) nl fu
  simp [go_sem, ir32, purse_eq]
  rw [run_inLoop']
  simp [go_sem, purse_eq]
  have h := lpart_loop l hl hl2 a b ha hb nl fu [.code (.seq (.reg [⟨none, some 56, .copy (.t 7)⟩, ⟨none, some 57, .call 93 [.t 56]⟩, ⟨none, some 6, .copy (.t 57)⟩] [] []) .ret)]
      (fun out => finK 0 [.tmp 6] (run E 0 [.code (.seq (.reg [⟨none, some 56, .copy (.t 7)⟩, ⟨none, some 57, .call 93 [.t 56]⟩, ⟨none, some 6, .copy (.t 57)⟩] [] []) .ret)] [(7, .own 0 out.length 3 0 out.length)] [.arr true false out.isEmpty 3 (out.map encRun)])) ?_ l.length 0 0 [] (by omega) (by omega) (by omega) (by simp)
  · simp at h
    rw [h]
    generalize joined [] (betweenGo a b 0 l) = J at *
    generalize betweenGo a b 0 l = A at *
    simp [go_sem, hJ, purse_eq]
  · intro out τ h3
    simp [go_sem, h3]
    generalize backK _ _ = q
    rcases q with _ | ⟨v, H⟩
    · rfl
    · simp [go_sem]
end Go.AM.R1
open Go Go.AM Go.Proofs
namespace Go.AM.R1
theorem awake18 : call E (.func (.func 15) [] []) [] [] = some (.lit (.bool true), []) :=
  (call_iff E).2 ⟨3000, by kernel_rfl⟩
end Go.AM.R1
open Go Go.AM Go.Proofs
namespace Go.AM.R1
theorem pick_joined {l : List Run} (h : chk l = 0) (t : Int) (h0 : 0 ≤ t) : pick t (joined [] l) = pick t l := by
  have hj := joined_chk h
  rw [pick_expand _ t h0 (fun r hr => by have := (chk_right hj.1).1 r hr; omega), pick_expand _ t h0 (fun r hr => by have := (chk_right h).1 r hr; omega), hj.2.2]
/-- What the loop has found, after so many entries. -/
def wantI (l : List Bk) (tick : Int) (i : Nat) : Nat := if i = 0 then 0 else (blksB (l.take (min (i - 1) (entIx l tick)))).length
theorem rentGo_get : ∀ (l : List Bk) (t : Int) (p i : Nat) (h : i < l.length) (h' : i < (rentGo t p l).length), ((rentGo t p l)[i]).1 = t + totB (l.take i) ∧ ((rentGo t p l)[i]).2.1 = p + (blksB (l.take i)).length
  | [], _, _, i, h, _ => by simp at h
  | x :: l, t, p, 0, h, h' => by simp [rentGo, totB, blksB]
  | x :: l, t, p, i + 1, h, h' => by
    have := rentGo_get l (t + sumN x.2) (p + (putBk x).length) i (by simpa using h) (by simpa [rentGo] using h')
    simp only [rentGo, List.getElem_cons_succ, List.take_succ_cons, totB, blksB_cons, List.length_append]
    omega
theorem want_loop (l : List Bk) (hg : Good 0 l) (hl : l.length ≤ 1000000) (tick : Int) (h0 : 0 ≤ tick) (h1 : tick < totB l) (a b T : Int) (B : List Nat) (es : List Ent) (jf : Bool) (J : List Run) (c1 c2 c3 : Int) (v13 v14 v15 v17 v18 : Int) (k : List Item) (R : Option (AVal × Heap))
    (hk : ∀ τ, lk 1 τ = .lit (.int .i64 tick) → lk 5 τ = .ptr 0 0 → lk 8 τ = .ptr 2 0 → lk 12 τ = .own 6 J.length 3 0 J.length → lk 13 τ = .lit (.int .i64 v13) → lk 14 τ = .lit (.int .i64 v14) → lk 15 τ = .lit (.int .i64 v15) → lk 16 τ = .ptr 7 0 → lk 17 τ = .lit (.int .i64 v17) → lk 18 τ = .lit (.int .i64 v18) →
      lk 19 τ = .lit (.int .i64 (blksB (l.take (entIx l tick))).length) → finK 0 [.tmp 6] (run E 0 k τ [.box [.lit (.int .i64 a), .lit (.int .i64 b)], .dead, .box [.own 3 B.length 1 0 B.length, .own 4 l.length 2 0 l.length, .lit (.int .i64 T)], .arr true true false 1 (B.map encB), .arr true false false 2 (es.map encEnt),
        .arr true false false 4 ((rentGo 0 0 l).map encREnt), .arr true true jf 3 (J.map encRun), .box [.lit (.int .i64 c1), .lit (.int .i64 c2), .lit (.int .u32 c3)]]) = R) :
    ∀ (d i : Nat), i + d = l.length →
   finK 0 [.tmp 6] (run E 0 (.code L5_0 :: .inLoop [1, 5, 8, 10, 12, 13, 14, 15, 16, 17, 18, 19, 20] L5_0 :: .inBlock 0 :: k)
     [(1, .lit (.int .i64 tick)), (5, .ptr 0 0), (8, .ptr 2 0), (10, .own 5 l.length 4 0 l.length), (12, .own 6 J.length 3 0 J.length), (13, .lit (.int .i64 v13)), (14, .lit (.int .i64 v14)), (15, .lit (.int .i64 v15)), (16, .ptr 7 0), (17, .lit (.int .i64 v17)), (18, .lit (.int .i64 v18)),
       (19, .lit (.int .i64 (wantI l tick i))), (20, .lit (.int .i64 i))]
     [.box [.lit (.int .i64 a), .lit (.int .i64 b)], .dead, .box [.own 3 B.length 1 0 B.length, .own 4 l.length 2 0 l.length, .lit (.int .i64 T)], .arr true true false 1 (B.map encB), .arr true false false 2 (es.map encEnt),
        .arr true false false 4 ((rentGo 0 0 l).map encREnt), .arr true true jf 3 (J.map encRun), .box [.lit (.int .i64 c1), .lit (.int .i64 c2), .lit (.int .u32 c3)]]) = R := by
  obtain ⟨e1, e2⟩ := entIx_bounds l tick h0 h1
  have hix := entIx_lt l tick h0 h1
  have hrl := rentGo_length l 0 0
  intro d
  induction d with
  | zero =>
    intro i hi
    have : i = l.length := by omega
    subst this
    have hw : wantI l tick l.length = (blksB (l.take (entIx l tick))).length := by
      unfold wantI
      rw [if_neg (by omega), Nat.min_eq_right (by omega)]
    rw [hw]
    simp [go_sem, run_codeL E L5_0.eq_1]
    exact hk _ rfl rfl rfl rfl rfl rfl rfl rfl rfl rfl rfl
  | succ d ih =>
    intro i hi
    have hlt : i < l.length := by omega
    have hx := rentGo_get l 0 0 i hlt (by omega)
    simp only [Int.zero_add, Nat.zero_add] at hx
    have ih2 := ih (i + 1) (by omega)
    have wi := wrapIdx (i := i) (by omega)
    by_cases hq : totB (l.take i) ≤ tick
    · have hle : i ≤ entIx l tick := by
        apply Classical.byContradiction
        intro hn
        have := tot_mono hg (show entIx l tick + 1 ≤ i by omega)
        omega
      have hw : wantI l tick (i + 1) = (blksB (l.take i)).length := by unfold wantI; rw [if_neg (by omega), Nat.add_sub_cancel, Nat.min_eq_left hle]
      rw [hw] at ih2
      clear hw
      generalize wantI l tick i = wv at *
      generalize (blksB (l.take i)).length = p at *
      generalize totB (l.take i) = tp at *
      simp at ih2
      simp [go_sem, run_codeL E L5_0.eq_1, hlt, hx, hrl, hq, wi, encREnt, purse_eq]
      rw [run_inLoop']
      simp [go_sem, purse_eq, List.range_succ]
      exact ih2
    · have hle : entIx l tick < i := by
        apply Classical.byContradiction
        intro hn
        have := tot_mono hg (show i ≤ entIx l tick by omega)
        omega
      have hw : wantI l tick (i + 1) = wantI l tick i := by
        unfold wantI
        rw [if_neg (by omega), if_neg (by omega), Nat.add_sub_cancel, Nat.min_eq_right (by omega), Nat.min_eq_right (by omega)]
      rw [hw] at ih2
      clear hw
      generalize wantI l tick i = wv at *
      generalize (blksB (l.take i)).length = p at *
      generalize totB (l.take i) = tp at *
      simp at ih2
      simp [go_sem, run_codeL E L5_0.eq_1, hlt, hx, hrl, hq, wi, encREnt, purse_eq]
      rw [run_inLoop']
      simp [go_sem, purse_eq, List.range_succ]
      exact ih2
theorem cutB_good {l : List Bk} (hg : Good 0 l) {a b : Int} (h : ¬ (a < 0 ∨ b < a ∨ totB l < b)) : cutB l a b = (joined [] (betweenGo a b 0 (joined [] (allR l))), 0) := by
  have hck := good_chk (by omega) (by omega) hg
  have hJ := joined_chk hck
  have h1 : ∀ r ∈ allR l, 0 ≤ r.N := fun r hr => by have := (chk_right hck).1 r hr; omega
  have h2 : ∀ r ∈ joined [] (allR l), 0 ≤ r.N := fun r hr => by have := (chk_right hJ.1).1 r hr; omega
  unfold cutB
  rw [if_neg h, cut_law _ h1, cut_law _ h2, hJ.2.2]
  by_cases he : a = b
  · rw [if_pos he, he, List.drop_eq_nil_of_le (by simp; omega)]; rfl
  · rw [if_neg he]
set_option maxHeartbeats 2000000 in
theorem seekFinds_spec (rows : List RowV) (hl : (∀ r ∈ rows, r.Fit) ∧ rows.length ≤ 9223372036854775807) (nl fu : Bool) (tick a b : Int) (ht : -9223372036854775808 ≤ tick ∧ tick ≤ 9223372036854775807)
    (ha : -9223372036854775808 ≤ a ∧ a ≤ 9223372036854775807) (hb : -9223372036854775808 ≤ b ∧ b ≤ 9223372036854775807) :
    call E (.func (.func 5) [] []) [.imm nl fu true (rows.map encRow), .lit (.int .i64 tick), .agg [.lit (.int .i64 a), .lit (.int .i64 b)]] [] = some (.lit (.bool true), []) := by
  rw [call_func E E5]
  have hA := made_spec rows hl.2 hl.1 nl fu
  have gA := madeL_good hl.1
  have lA := madeGo_bytes ((rows.take 20).map RowV.l) 0
  rw [show madeGo 0 ((rows.take 20).map RowV.l) = madeL rows from rfl] at lA
  simp only [List.length_map, List.length_take] at lA
  unfold madeB at hA
  generalize madeL rows = l at *
  have bA := blksB_byte l 0 gA
  have sA := scanB_put gA
  have nA := good_len l 0 gA
  have oA := fun fu => sof_spec (blksB l) bA (by omega) false fu (.inl rfl)
  have eA := fun fu => rents_spec (blksB l) bA (by omega) false fu
  have rA := fun fu => r18runs_spec (blksB l) bA (by omega) false fu
  rw [sA] at oA eA rA
  simp only [if_true] at oA eA
  have hck := good_chk (by omega) (by omega) gA
  have hgt := good_tot l 0 (by omega) (by omega) gA
  have hrl := runs_le l
  have hJ := joined_chk hck
  have hJl := joined_length (allR l) []
  simp at hJl
  have hJr := chk_right hJ.1
  have hJs : sumN (joined [] (allR l)) = totB l := by rw [hJ.2.1, allR_sum]
  have cA := fun fu => count_spec (joined [] (allR l)) (by omega) hJr.1 false fu
  rw [hJs] at cA
  have fA := fun lb le => sfind_spec l gA (by omega) lb le tick ht
  have tA := fun lb le => sat18_spec l gA (by omega) lb le tick ht
  have aA := fun fu => at_spec (joined [] (allR l)) (by omega) (fun r hr => ⟨by have := hJr.1 r hr; omega, by have := hJr.1 r hr; omega⟩) tick ht false fu
  have hrl' := rentGo_length l 0 0
  have hel := entGo_length l 0 0
  by_cases hc : 0 ≤ tick ∧ tick < totB l
  · simp only [if_pos hc] at fA tA
    have hl0 : l ≠ [] := by rintro rfl; simp [totB] at hc; omega
    have hb0 : blksB l ≠ [] := fun q => hl0 (by cases l with | nil => rfl | cons x r => rw [q] at nA; simp at nA)
    have hbe : (blksB l).isEmpty = false := by cases hq : blksB l with | nil => exact absurd hq hb0 | cons x r => rfl
    have hre : (rentGo 0 0 l).isEmpty = false := by
      cases hq : rentGo 0 0 l with
      | nil => rw [hq] at hrl'; exact absurd (List.length_eq_zero_iff.1 hrl'.symm) hl0
      | cons x r => rfl
    simp only [ixH_big hb0] at oA fA tA
    generalize hJJ : joined [] (allR l) = J at *
    obtain ⟨lb', cC⟩ := scut18_spec l gA (by omega) true false a b ha hb
    simp only [ixH_big hb0] at cC
    have hlen3 : (ixI 0 true false (blksB l) (entGo 0 0 l) (totB l)).length = 3 := rfl
    rw [hlen3] at cC
    generalize entGo 0 0 l = es at *
    generalize blksB l = B at *
    generalize hTT : totB l = T at *
    have h2 : ¬ tick < 0 := by omega
    have h3 : ¬ T ≤ tick := by omega
    have fA := fA false false
    have tA := tA false false
    simp [ixI, hel, hbe, hre, encRun] at hA oA eA fA tA
    simp [go_sem, ir5, hA, oA, eA, rA, cA, fA, tA, h2, h3, hel, hrl', purse_eq, List.range_succ, encRun]
    rw [run_inLoop']
    simp [go_sem, purse_eq, List.range_succ]
    have hW := fun k hk => want_loop l gA (by omega) tick hc.1 (by omega) a b T B es J.isEmpty J ((pick tick (allR l)).getD zeroRun).N ((pick tick (allR l)).getD zeroRun).Bus ((pick tick (allR l)).getD zeroRun).Drive T (blksB (l.take (entIx l tick))).length 0 1 0 k (some (.lit (.bool true), [])) hk l.length 0 (by omega)
    rw [show wantI l tick 0 = 0 from rfl] at hW
    simp at hW
    refine hW _ ?_
    clear hW
    intro τ t1 t5 t8 t12 t13 t14 t15 t16 t17 t18 t19
    have hnr := hJr.1
    have hat : atRun J tick = ((pick tick (allR l)).getD zeroRun, 0) := by
      unfold atRun
      rw [if_neg (by simp [hJ.1]), if_neg (by omega), ← hJJ, pick_joined hck tick hc.1]
    rw [hat] at aA
    generalize ((pick tick (allR l)).getD zeroRun) = r0 at *
    simp only [encRun] at aA
    by_cases hbad : a < 0 ∨ b < a ∨ T < b
    · have e : cutB l a b = ([], 10) := by unfold cutB; rw [if_pos (by rw [hTT]; exact hbad)]
      rw [e] at cC
      simp [ixI, hel, resV, resH, nilS] at cC
      by_cases k1 : a < 0
      · simp [go_sem, t1, t5, t8, t12, t13, t14, t15, t16, t17, t18, t19, aA, cC, hat, ixI, hel, purse_eq, List.range_succ, encRun, awake18, nilS, k1]
      · by_cases k2 : b < a
        · simp [go_sem, t1, t5, t8, t12, t13, t14, t15, t16, t17, t18, t19, aA, cC, hat, ixI, hel, purse_eq, List.range_succ, encRun, awake18, nilS, k1, k2]
        · have k3 : T < b := by omega
          simp [go_sem, t1, t5, t8, t12, t13, t14, t15, t16, t17, t18, t19, aA, cC, hat, ixI, hel, purse_eq, List.range_succ, encRun, awake18, nilS, k1, k2, k3]
    · have e := cutB_good gA (a := a) (b := b) (by rw [hTT]; exact hbad)
      rw [hJJ] at e
      rw [e] at cC
      have k1 : ¬ a < 0 := by omega
      have k2 : ¬ b < a := by omega
      have k3 : ¬ T < b := by omega
      have pA := lpart_spec J (by omega) (fun r hr => ⟨by have := hnr r hr; omega, (hnr r hr).2⟩) (by omega) a b (by omega) (by omega) false J.isEmpty
      have hbl := between_length a b J 0
      have hjl2 := joined_length (betweenGo a b 0 J) []
      simp at hjl2
      have sm := fun nl fu fu' => same_spec (joined [] (betweenGo a b 0 J)) (joined [] (betweenGo a b 0 J)) (by omega) nl fu false fu'
      simp only [decide_true] at sm
      generalize joined [] (betweenGo a b 0 J) = S at *
      by_cases hS : S = []
      · subst hS
        have sm0 := sm true true true
        simp [ixI, hel, resV, resH, nilS] at cC pA sm0
        simp [go_sem, t1, t5, t8, t12, t13, t14, t15, t16, t17, t18, t19, aA, cC, hat, ixI, hel, purse_eq, List.range_succ, encRun, awake18, nilS, k1, k2, k3, pA, sm0]
      · have hSe : S.isEmpty = false := by cases S with | nil => exact absurd rfl hS | cons x r => rfl
        simp [ixI, hel, resV, resH, hS, hSe] at cC pA
        simp [go_sem, t1, t5, t8, t12, t13, t14, t15, t16, t17, t18, t19, aA, cC, hat, ixI, hel, purse_eq, List.range_succ, encRun, awake18, nilS, k1, k2, k3, pA, sm, hS, hSe]
  · simp only [if_neg hc] at fA tA
    obtain ⟨lb', cC⟩ := scut18_spec l gA (by omega) false false a b ha hb
    have hnr := hJr.1
    have fA := fA false false
    have tA := tA false false
    by_cases hl0 : l = []
    · have hTT : totB l = 0 := by rw [hl0]; rfl
      have hB : blksB l = [] := by rw [hl0]; rfl
      have hE : entGo 0 0 l = [] := by rw [hl0]; rfl
      have hRR : rentGo 0 0 l = [] := by rw [hl0]; rfl
      have hJJ : joined [] (allR l) = [] := by rw [hl0]; rfl
      rw [hJJ] at hJs hJr hJl rA cA
      have hLL : l.length = 0 := by rw [hl0]; rfl
      simp only [hB, hE, hRR, hTT, hLL] at hA oA eA rA cA fA tA cC
      simp [ixH, nilS, encRun, zeroRun] at hA oA eA rA cA fA tA cC
      by_cases q1 : tick < 0
      · by_cases hbad : a < 0 ∨ b < a ∨ 0 < b
        · have e : cutB l a b = ([], 10) := by unfold cutB; rw [if_pos (by rw [hTT]; exact hbad)]
          rw [e] at cC
          simp [resV, resH, nilS] at cC
          by_cases k1 : a < 0
          · simp [go_sem, ir5, hA, oA, eA, rA, cA, fA, tA, q1, cC, purse_eq, List.range_succ, awake18, nilS, k1]
          · by_cases k2 : b < a
            · simp [go_sem, ir5, hA, oA, eA, rA, cA, fA, tA, q1, cC, purse_eq, List.range_succ, awake18, nilS, k1, k2]
            · have k3 : 0 < b := by omega
              simp [go_sem, ir5, hA, oA, eA, rA, cA, fA, tA, q1, cC, purse_eq, List.range_succ, awake18, nilS, k1, k2, k3]
        · have a0 : a = 0 := by omega
          have b0 : b = 0 := by omega
          subst a0 b0
          have e : cutB l 0 0 = ([], 0) := by unfold cutB; rw [if_neg (by rw [hTT]; omega), if_pos rfl]
          rw [e] at cC
          have pA := lpart_spec [] (by simp) (by simp) (by simp [sumN]) 0 0 (by omega) (by omega) false true
          have sm0 := same_spec [] [] (by simp) true true false true
          simp [resV, resH, nilS, betweenGo, joined] at cC pA sm0
          simp [go_sem, ir5, hA, oA, eA, rA, cA, fA, tA, q1, cC, purse_eq, List.range_succ, awake18, nilS, pA, sm0]
      · have q2 : 0 ≤ tick := by omega
        by_cases hbad : a < 0 ∨ b < a ∨ 0 < b
        · have e : cutB l a b = ([], 10) := by unfold cutB; rw [if_pos (by rw [hTT]; exact hbad)]
          rw [e] at cC
          simp [resV, resH, nilS] at cC
          by_cases k1 : a < 0
          · simp [go_sem, ir5, hA, oA, eA, rA, cA, fA, tA, q1, q2, cC, purse_eq, List.range_succ, awake18, nilS, k1]
          · by_cases k2 : b < a
            · simp [go_sem, ir5, hA, oA, eA, rA, cA, fA, tA, q1, q2, cC, purse_eq, List.range_succ, awake18, nilS, k1, k2]
            · have k3 : 0 < b := by omega
              simp [go_sem, ir5, hA, oA, eA, rA, cA, fA, tA, q1, q2, cC, purse_eq, List.range_succ, awake18, nilS, k1, k2, k3]
        · have a0 : a = 0 := by omega
          have b0 : b = 0 := by omega
          subst a0 b0
          have e : cutB l 0 0 = ([], 0) := by unfold cutB; rw [if_neg (by rw [hTT]; omega), if_pos rfl]
          rw [e] at cC
          have pA := lpart_spec [] (by simp) (by simp) (by simp [sumN]) 0 0 (by omega) (by omega) false true
          have sm0 := same_spec [] [] (by simp) true true false true
          simp [resV, resH, nilS, betweenGo, joined] at cC pA sm0
          simp [go_sem, ir5, hA, oA, eA, rA, cA, fA, tA, q1, q2, cC, purse_eq, List.range_succ, awake18, nilS, pA, sm0]
    · have hb0 : blksB l ≠ [] := fun q => hl0 (by cases l with | nil => rfl | cons x r => rw [q] at nA; simp at nA)
      have hbe : (blksB l).isEmpty = false := by cases hq : blksB l with | nil => exact absurd hq hb0 | cons x r => rfl
      have hre : (rentGo 0 0 l).isEmpty = false := by
        cases hq : rentGo 0 0 l with
        | nil => rw [hq] at hrl'; exact absurd (List.length_eq_zero_iff.1 hrl'.symm) hl0
        | cons x r => rfl
      simp only [ixH_big hb0] at oA fA tA cC
      have hlen3 : (ixI 0 false false (blksB l) (entGo 0 0 l) (totB l)).length = 3 := rfl
      rw [hlen3] at cC
      generalize hJJ : joined [] (allR l) = J at *
      generalize rentGo 0 0 l = rs at *
      generalize entGo 0 0 l = es at *
      generalize blksB l = B at *
      generalize hTT : totB l = T at *
      simp [ixI, hel, hbe, hre, encRun, zeroRun] at hA oA eA fA tA
      by_cases q1 : tick < 0
      · by_cases hbad : a < 0 ∨ b < a ∨ T < b
        · have e : cutB l a b = ([], 10) := by unfold cutB; rw [if_pos (by rw [hTT]; exact hbad)]
          rw [e] at cC
          simp [ixI, hel, resV, resH, nilS] at cC
          by_cases k1 : a < 0
          · simp [go_sem, ir5, hA, oA, eA, rA, cA, fA, tA, q1, cC, ixI, hel, hrl', purse_eq, List.range_succ, encRun, zeroRun, awake18, nilS, k1]
          · by_cases k2 : b < a
            · simp [go_sem, ir5, hA, oA, eA, rA, cA, fA, tA, q1, cC, ixI, hel, hrl', purse_eq, List.range_succ, encRun, zeroRun, awake18, nilS, k1, k2]
            · have k3 : T < b := by omega
              simp [go_sem, ir5, hA, oA, eA, rA, cA, fA, tA, q1, cC, ixI, hel, hrl', purse_eq, List.range_succ, encRun, zeroRun, awake18, nilS, k1, k2, k3]
        · have e := cutB_good gA (a := a) (b := b) (by rw [hTT]; exact hbad)
          rw [hJJ] at e
          rw [e] at cC
          have k1 : ¬ a < 0 := by omega
          have k2 : ¬ b < a := by omega
          have k3 : ¬ T < b := by omega
          have pA := lpart_spec J (by omega) (fun r hr => ⟨by have := hnr r hr; omega, (hnr r hr).2⟩) (by omega) a b (by omega) (by omega) false J.isEmpty
          have hbl := between_length a b J 0
          have hjl2 := joined_length (betweenGo a b 0 J) []
          simp at hjl2
          have sm := fun nl fu fu' => same_spec (joined [] (betweenGo a b 0 J)) (joined [] (betweenGo a b 0 J)) (by omega) nl fu false fu'
          simp only [decide_true] at sm
          generalize joined [] (betweenGo a b 0 J) = S at *
          by_cases hS : S = []
          · subst hS
            have sm0 := sm true true true
            simp [ixI, hel, resV, resH, nilS] at cC pA sm0
            simp [go_sem, ir5, hA, oA, eA, rA, cA, fA, tA, q1, cC, ixI, hel, hrl', purse_eq, List.range_succ, encRun, zeroRun, awake18, nilS, k1, k2, k3, pA, sm0]
          · have hSe : S.isEmpty = false := by cases S with | nil => exact absurd rfl hS | cons x r => rfl
            simp [ixI, hel, resV, resH, hS, hSe] at cC pA
            simp [go_sem, ir5, hA, oA, eA, rA, cA, fA, tA, q1, cC, ixI, hel, hrl', purse_eq, List.range_succ, encRun, zeroRun, awake18, nilS, k1, k2, k3, pA, sm, hS, hSe]
      · have q2 : T ≤ tick := by omega
        by_cases hbad : a < 0 ∨ b < a ∨ T < b
        · have e : cutB l a b = ([], 10) := by unfold cutB; rw [if_pos (by rw [hTT]; exact hbad)]
          rw [e] at cC
          simp [ixI, hel, resV, resH, nilS] at cC
          by_cases k1 : a < 0
          · simp [go_sem, ir5, hA, oA, eA, rA, cA, fA, tA, q1, q2, cC, ixI, hel, hrl', purse_eq, List.range_succ, encRun, zeroRun, awake18, nilS, k1]
          · by_cases k2 : b < a
            · simp [go_sem, ir5, hA, oA, eA, rA, cA, fA, tA, q1, q2, cC, ixI, hel, hrl', purse_eq, List.range_succ, encRun, zeroRun, awake18, nilS, k1, k2]
            · have k3 : T < b := by omega
              simp [go_sem, ir5, hA, oA, eA, rA, cA, fA, tA, q1, q2, cC, ixI, hel, hrl', purse_eq, List.range_succ, encRun, zeroRun, awake18, nilS, k1, k2, k3]
        · have e := cutB_good gA (a := a) (b := b) (by rw [hTT]; exact hbad)
          rw [hJJ] at e
          rw [e] at cC
          have k1 : ¬ a < 0 := by omega
          have k2 : ¬ b < a := by omega
          have k3 : ¬ T < b := by omega
          have pA := lpart_spec J (by omega) (fun r hr => ⟨by have := hnr r hr; omega, (hnr r hr).2⟩) (by omega) a b (by omega) (by omega) false J.isEmpty
          have hbl := between_length a b J 0
          have hjl2 := joined_length (betweenGo a b 0 J) []
          simp at hjl2
          have sm := fun nl fu fu' => same_spec (joined [] (betweenGo a b 0 J)) (joined [] (betweenGo a b 0 J)) (by omega) nl fu false fu'
          simp only [decide_true] at sm
          generalize joined [] (betweenGo a b 0 J) = S at *
          by_cases hS : S = []
          · subst hS
            have sm0 := sm true true true
            simp [ixI, hel, resV, resH, nilS] at cC pA sm0
            simp [go_sem, ir5, hA, oA, eA, rA, cA, fA, tA, q1, q2, cC, ixI, hel, hrl', purse_eq, List.range_succ, encRun, zeroRun, awake18, nilS, k1, k2, k3, pA, sm0]
          · have hSe : S.isEmpty = false := by cases S with | nil => exact absurd rfl hS | cons x r => rfl
            simp [ixI, hel, resV, resH, hS, hSe] at cC pA
            simp [go_sem, ir5, hA, oA, eA, rA, cA, fA, tA, q1, q2, cC, ixI, hel, hrl', purse_eq, List.range_succ, encRun, zeroRun, awake18, nilS, k1, k2, k3, pA, sm, hS, hSe]
end Go.AM.R1
open Go Go.AM Go.AM.R1 Go.Proofs
namespace Go.Proofs.Ytppdlldajaihbaa
open Go.ChangeShapes Go.WideShapes Go.ChangeAt Go.RowKit
namespace seekFinds
theorem own : ownKnob Try.prog.godebug = none := by kernel_rfl
theorem laidOut : laidOutB Try.prog = true := by kernel_rfl
theorem mixed : Try.prog.follows .mixedOrders = true := by kernel_rfl
set_option maxRecDepth 100000 in
theorem contract (H : Type) (enc : TypeId × Value → H) (W : World) (base : Nat) (args : Array Value) (ds gs : List (DataW H)) (before : List MemPlace)
    (hval : ∀ (j : Nat) t v, Try.f5.params[j]? = some t → args[j]? = some v → Value.okWide Try.prog W .any base t v)
    (hW : DataW.Whole enc Try.prog Try.f5.params.toList Rows.seekFindsSpec.vars false W args.toList ds gs before) :
    Calls Try.prog 5 args W fun e W' => ∃ v, e = .returned v ∧ Rows.seekFindsSpec.post enc Try.prog Try.f5 false true false false W args v W' := by
  refine law_contract (id := 5) (f := Try.f5) (s := Rows.seekFindsSpec) (k := 7) (nargs := 3) (base := base) (ds := ds) (gs := gs) (before := before) mixed R1.hE laidOut ?e1 ?e2 (tb := 4) ?e3 Try.underlying4 ?e4 ?e5 ?e7 ?e8 ?e6
  case e7 => exact hval
  case e8 => exact hW
  case e1 => rfl
  case e3 => kernel_rfl
  case e4 => rw [Try.params5]; rfl
  · rw [Try.params5]; decide +kernel
  · intro ds h
    match ds, h with
    | [d1, d2, d3], _ => rfl
  · intro cs hA
    rw [Try.params5] at hA
    obtain ⟨d1, r1, a1, s1, rfl, rfl, h1, hA⟩ := decArgs_cons hA
    obtain ⟨d2, r2, a2, s2, rfl, rfl, h2, hA⟩ := decArgs_cons hA
    obtain ⟨d3, r3, a3, s3, rfl, rfl, h3, hA⟩ := decArgs_cons hA
    obtain ⟨rfl, rfl⟩ := decArgs_nil hA
    obtain ⟨nl, fu, l, rfl, hl⟩ := decV_rows (n := 3) Try.underlying41 Try.underlying49 ⟨_, _, _, Try.underlying56, Try.underlying3, Try.underlying3, Try.underlying54⟩ h1
    obtain ⟨tick, -, hw, rfl⟩ := decV_int (n := 6) Try.underlying3 h2
    obtain ⟨ab, hab, rfl, hw2⟩ := decV_ints (n := 5) Try.underlying48 Try.underlying3 h3
    match ab, hab, hw2 with
    | [a, b], _, hw2 =>
      obtain ⟨n, hn⟩ := (call_iff R1.E).1 (seekFinds_spec l hl nl fu tick a b (wf64 hw) (wf64 (hw2 a (by simp))) (wf64 (hw2 b (by simp))))
      exact ⟨n, _, hn⟩

set_option maxRecDepth 100000 in
theorem lifted (os : Os) (started : os.Started) (H : Type) (enc : TypeId × Value → H) :
    ReturnsInHanded {} Try.checked os 5 .any (Rows.seekFindsSpec.pre6 enc Try.prog Try.f5 Rows.seekFindsRow.domain false) (Rows.seekFindsSpec.post enc Try.prog Try.f5 false true false false) := by
  refine returnsInHanded_of_change (C := Try.checked) own started (by kernel_rfl) Try.func5
    (ChangeSpec.witness6 (enc := enc) (C := Try.checked) false ⟨#[], #[.slice none 0 0, .int .i64 0, .agg #[.int .i64 0, .int .i64 0]], []⟩ 8 (by kernel_rfl) (by kernel_rfl) (by kernel_rfl) (by kernel_rfl)) ?_
  intro W base args ds gs before hval hW _ _
  exact contract H enc W base args ds gs before hval hW

theorem proved : Rows.SeekFindsSaid :=
  OpenClaim.holds_of_wide 5 Try.f5 rfl rfl rfl rfl rfl rfl rfl ⟨rfl, rfl, rfl, rfl, rfl⟩ rfl rfl rfl rfl rfl (by kernel_rfl) Try.func5 (by kernel_rfl)
    (of_decide_eq_true (by kernel_rfl)) (by unfold Func.isWrapper; first | (rw [if_pos (by decide +kernel)]; kernel_rfl) | (rw [if_neg (by decide +kernel)]; exact ⟨rfl, rfl⟩))
    (fun os started H enc _ => lifted os started H enc)
end seekFinds
theorem seekFindsProved : Rows.SeekFindsSaid := seekFinds.proved
end Go.Proofs.Ytppdlldajaihbaa
