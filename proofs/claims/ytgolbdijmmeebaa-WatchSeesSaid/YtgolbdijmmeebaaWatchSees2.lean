/- The law WatchSees of package magnetolaw19 returns true for every input, and its arguments read as before. -/
import Derived.Test.YtgolbdijmmeebaaWatchSees1
import Derived.ProofKit
set_option linter.unusedVariables false
set_option linter.unusedSimpArgs false
open Go Go.AM
namespace Go.AM.R1
/-! ### Fields -/
def extF (m : List Bool) : Bool := (m[13]?).getD false
def dataF (m : List Bool) : Nat := if extF m = true then 39 else 19
def ctrlF (m : List Bool) : Nat := if extF m = true then 33 else 14
def rtrF (m : List Bool) : Bool := (m[if extF m = true then 32 else 12]?).getD false
def sizeF (m : List Bool) : Nat := min (valB ((m.take (dataF m)).drop (dataF m - 4))) 8
def sumF (m : List Bool) : Nat := if rtrF m = true then dataF m else dataF m + 8 * sizeF m
def encHead (e r : Bool) (c d s : Nat) : List AVal := [.lit (.bool e), .lit (.bool r), .lit (.int .i64 c), .lit (.int .i64 d), .lit (.int .i64 s)]
/-- Arithmetic that is decided on the way. -/
theorem ltT {a b : Int} (h : a < b) : (a < b) = True := eq_true h
theorem ltF {a b : Int} (h : b ≤ a) : (a < b) = False := eq_false (by omega)
theorem leT {a b : Int} (h : a ≤ b) : (a ≤ b) = True := eq_true h
theorem leF {a b : Int} (h : b < a) : (a ≤ b) = False := eq_false (by omega)
theorem nltT {a b : Nat} (h : a < b) : (a < b) = True := eq_true h
theorem nltF {a b : Nat} (h : b ≤ a) : (a < b) = False := eq_false (by omega)
theorem nleT {a b : Nat} (h : a ≤ b) : (a ≤ b) = True := eq_true h
theorem nleF {a b : Nat} (h : b < a) : (a ≤ b) = False := eq_false (by omega)
theorem sumF_ge (m : List Bool) : dataF m ≤ sumF m ∧ sumF m ≤ dataF m + 64 ∧ (dataF m = 19 ∨ dataF m = 39) := by
  unfold sumF sizeF
  have : dataF m = 19 ∨ dataF m = 39 := by unfold dataF; split <;> omega
  split <;> omega
theorem read1 (m : List Bool) (h : m.length ≤ 13) (nl fu : Bool) : call E (.func (.func 116) [] []) [.imm nl fu true (m.map encLv)] [] = some (.tup [.agg (encHead false false 0 0 0), .lit (.bool false)], []) := by
  rw [call_func E E116]
  have h1 : (m.length : Int) ≤ 13 := by omega
  simp [go_sem, ir116, h1, encHead, purse_eq, List.range_succ]
theorem read2 (m : List Bool) (h : 14 ≤ m.length) (h2 : m.length < dataF m) (nl fu : Bool) : call E (.func (.func 116) [] []) [.imm nl fu true (m.map encLv)] [] = some (.tup [.agg (encHead (extF m) false (ctrlF m) (dataF m) 0), .lit (.bool false)], []) := by
  rw [call_func E E116]
  have h1 : ¬ (m.length : Int) ≤ 13 := by omega
  have h13 : 13 < m.length := by omega
  have e : extF m = m[13] := by unfold extF; rw [List.getElem?_eq_getElem h13]; rfl
  unfold dataF at h2
  unfold ctrlF dataF
  rw [e] at h2 ⊢
  cases hx : m[13]
  · have h3 : (m.length : Int) < 19 := by simp [hx] at h2; omega
    simp [go_sem, ir116, h1, h3, List.getElem?_eq_getElem h13, encLv, hx, lv, encHead, purse_eq, List.range_succ]
  · have h3 : (m.length : Int) < 39 := by simp [hx] at h2; omega
    simp [go_sem, ir116, h1, h3, List.getElem?_eq_getElem h13, encLv, hx, lv, encHead, purse_eq, List.range_succ]
theorem read3 (m : List Bool) (h : dataF m ≤ m.length) (hl : m.length ≤ 1000000) (nl fu : Bool) : call E (.func (.func 116) [] []) [.imm nl fu true (m.map encLv)] [] = some (.tup [.agg (encHead (extF m) (rtrF m) (ctrlF m) (dataF m) (sizeF m)), .lit (.bool true)], []) := by
  rw [call_func E E116]
  have hd : dataF m = 19 ∨ dataF m = 39 := by unfold dataF; split <;> omega
  have h1 : ¬ (m.length : Int) ≤ 13 := by omega
  have h13 : 13 < m.length := by omega
  have e : extF m = m[13] := by unfold extF; rw [List.getElem?_eq_getElem h13]; rfl
  have hr := rowsLv m
  have hv := fun fu => value_spec ((m.take (dataF m)).drop (dataF m - 4)) (by simp; omega) nl fu
  have hvb := valB_lt ((m.take (dataF m)).drop (dataF m - 4))
  rw [show ((m.take (dataF m)).drop (dataF m - 4)).length = 4 from by simp; omega] at hvb
  rw [List.map_drop, List.map_take] at hv
  have w : IntKind.wrap .i64 (valB ((m.take (dataF m)).drop (dataF m - 4)) : Int) = valB ((m.take (dataF m)).drop (dataF m - 4)) := wrap64 (by omega) (by omega)
  have hs : (if (8 : Int) < (valB ((m.take (dataF m)).drop (dataF m - 4)) : Int) then (8 : Int) else (valB ((m.take (dataF m)).drop (dataF m - 4)) : Int)) = (sizeF m : Int) := by
    unfold sizeF; split <;> omega
  have hs2 : (if 8 < valB ((m.take (dataF m)).drop (dataF m - 4)) then (8 : Int) else (valB ((m.take (dataF m)).drop (dataF m - 4)) : Int)) = (sizeF m : Int) := by
    unfold sizeF; split <;> omega
  have hF1 := hv (fu && decide (dataF m = m.length))
  generalize valB ((m.take (dataF m)).drop (dataF m - 4)) = v at *
  generalize sizeF m = z at *
  unfold rtrF ctrlF
  have hx : extF m = true ↔ dataF m = 39 := by unfold dataF; split <;> simp_all
  cases hxx : m[13]
  · have hd19 : dataF m = 19 := by rcases hd with q | q; exact q; rw [e, hxx] at hx; simp at hx; omega
    have h3 : ¬ (m.length : Int) < 19 := by omega
    have h12 : 12 < m.length := by omega
    have h19 : 19 ≤ m.length := by omega
    rw [hd19] at hF1
    have e' : extF m = false := by rw [e, hxx]
    rw [e', hd19]
    have ws : IntKind.wrap .i64 15 = 15 := rfl
    simp [go_sem, ir116, h1, h3, List.getElem?_eq_getElem h13, List.getElem?_eq_getElem h12, encLv, hxx, lv, encHead, hr, h19, ws, hF1, w, hs, hs2, purse_eq, List.range_succ]
  · have hd39 : dataF m = 39 := by rw [e, hxx] at hx; simpa using hx
    have h3 : ¬ (m.length : Int) < 39 := by omega
    have h32 : 32 < m.length := by omega
    have h39 : 39 ≤ m.length := by omega
    rw [hd39] at hF1
    have e' : extF m = true := by rw [e, hxx]
    rw [e', hd39]
    have ws : IntKind.wrap .i64 35 = 35 := rfl
    simp [go_sem, ir116, h1, h3, List.getElem?_eq_getElem h13, List.getElem?_eq_getElem h32, encLv, hxx, lv, encHead, hr, h39, ws, hF1, w, hs, hs2, purse_eq, List.range_succ]
theorem hsum_spec (e r : Bool) (c d s : Nat) (hd : d ≤ 1000) (hs : s ≤ 8) : call E (.func (.func 145) [] []) [.agg (encHead e r c d s)] [] = some (.lit (.int .i64 ((if r = true then d else d + 8 * s : Nat))), []) := by
  rw [call_func E E145]
  have w1 : IntKind.wrap .i64 (8 * (s : Int)) = 8 * s := wrap64 (by omega) (by omega)
  have w2 : IntKind.wrap .i64 ((d : Int) + 8 * (s : Int)) = d + 8 * s := wrap64 (by omega) (by omega)
  cases r <;> simp [go_sem, ir145, encHead, w1, w2, purse_eq, List.range_succ]
/-- The field of the next level, and which one of it. -/
def nextF (m : List Bool) : Nat × Nat :=
  if m.length = 0 then (0, 0)
  else if m.length ≤ 13 ∨ extF m = true ∧ m.length ≤ 32 then (1, m.length - 1)
  else if m.length < dataF m then (2, m.length - ctrlF m)
  else if m.length < sumF m then (3, m.length - dataF m)
  else if m.length < sumF m + 15 then (4, m.length - sumF m)
  else if m.length < sumF m + 16 then (5, 0)
  else if m.length < sumF m + 17 then (6, 0)
  else if m.length < sumF m + 18 then (7, 0)
  else if m.length < sumF m + 25 then (8, m.length - (sumF m + 18))
  else (9, 0)
theorem next_small (m : List Bool) (h : m.length < dataF m) (nl fu : Bool) : call E (.func (.func 113) [] []) [.imm nl fu true (m.map encLv)] [] = some (.tup [.lit (.int .i64 (nextF m).1), .lit (.int .i64 (nextF m).2), .lit (.int .i64 0)], []) := by
  rw [call_func E E113]
  have hd : dataF m = 19 ∨ dataF m = 39 := by unfold dataF; split <;> omega
  have hc := check_lv m (by omega) nl fu
  by_cases h0 : m.length = 0
  · have hr := read1 m (by omega) nl fu
    have hn : nextF m = (0, 0) := by unfold nextF; rw [if_pos h0]
    have h0' : (m.length : Int) = 0 := by omega
    have hm : m = [] := List.length_eq_zero_iff.1 h0
    subst hm
    rw [hn]
    simp [encHead] at hr hc
    simp [go_sem, ir113, hc, hr, purse_eq, List.range_succ]
  · have h0' : ¬ (m.length : Int) = 0 := by omega
    have hmn : m ≠ [] := by intro q; subst q; simp at h0
    by_cases h13 : m.length ≤ 13
    · have hr := read1 m h13 nl fu
      have hn : nextF m = (1, m.length - 1) := by unfold nextF; rw [if_neg h0, if_pos (.inl h13)]
      rw [hn]
      have h13' : (m.length : Int) ≤ 13 := by omega
      have w : IntKind.wrap .i64 ((m.length : Int) - 1) = ((m.length - 1 : Nat) : Int) := by rw [wrap64 (by omega) (by omega)]; omega
      simp [encHead] at hr
      simp [go_sem, ir113, hc, hr, hmn, h0, h13', w, purse_eq, List.range_succ]
    · have hr := read2 m (by omega) h nl fu
      have h13' : ¬ (m.length : Int) ≤ 13 := by omega
      by_cases h32 : extF m = true ∧ m.length ≤ 32
      · have hn : nextF m = (1, m.length - 1) := by unfold nextF; rw [if_neg h0, if_pos (.inr h32)]
        rw [hn]
        have h32' : (m.length : Int) ≤ 32 := by omega
        have w : IntKind.wrap .i64 ((m.length : Int) - 1) = ((m.length - 1 : Nat) : Int) := by rw [wrap64 (by omega) (by omega)]; omega
        simp [encHead, h32.1] at hr
        simp [go_sem, ir113, hc, hr, hmn, h0, h13', h32', w, purse_eq, List.range_succ]
      · have hn : nextF m = (2, m.length - ctrlF m) := by unfold nextF; rw [if_neg h0, if_neg (by rintro (q | q); exact h13 q; exact h32 q), if_pos h]
        rw [hn]
        have hcl : ctrlF m ≤ m.length := by
          unfold ctrlF; split
          · rename_i q; have : ¬ m.length ≤ 32 := fun q2 => h32 ⟨q, q2⟩; omega
          · omega
        have w : IntKind.wrap .i64 ((m.length : Int) - (ctrlF m : Int)) = ((m.length - ctrlF m : Nat) : Int) := by rw [wrap64 (by omega) (by omega)]; omega
        cases hx : extF m
        · simp [encHead, hx] at hr
          simp [go_sem, ir113, hc, hr, hmn, h0, h13', w, purse_eq, List.range_succ]
        · have h32' : ¬ (m.length : Int) ≤ 32 := by have : ¬ m.length ≤ 32 := fun q2 => h32 ⟨hx, q2⟩; omega
          simp [encHead, hx] at hr
          simp [go_sem, ir113, hc, hr, hmn, h0, h13', h32', w, purse_eq, List.range_succ]
set_option maxHeartbeats 4000000 in
theorem next_whole (m : List Bool) (h : dataF m ≤ m.length) (hl : m.length ≤ sumF m + 25) (nl fu : Bool) : call E (.func (.func 113) [] []) [.imm nl fu true (m.map encLv)] [] = some (.tup [.lit (.int .i64 (nextF m).1), .lit (.int .i64 (nextF m).2), .lit (.int .i64 0)], []) := by
  rw [call_func E E113]
  obtain ⟨s1, s2, hd⟩ := sumF_ge m
  have hc := check_lv m (by omega) nl fu
  have hr := read3 m h (by omega) nl fu
  have hS := hsum_spec (extF m) (rtrF m) (ctrlF m) (dataF m) (sizeF m) (by omega) (by unfold sizeF; omega)
  rw [show (if rtrF m = true then dataF m else dataF m + 8 * sizeF m) = sumF m from rfl] at hS
  have h0 : ¬ m.length = 0 := by omega
  have hmn : m ≠ [] := by intro q; subst q; simp at h0
  have h13 : ¬ (m.length : Int) ≤ 13 := by omega
  have hx32 : ¬ (extF m = true ∧ m.length ≤ 32) := by
    rintro ⟨q1, q2⟩
    have : dataF m = 39 := by unfold dataF; rw [if_pos q1]
    omega
  have hn : nextF m = if m.length < sumF m then (3, m.length - dataF m)
      else if m.length < sumF m + 15 then (4, m.length - sumF m)
      else if m.length < sumF m + 16 then (5, 0) else if m.length < sumF m + 17 then (6, 0) else if m.length < sumF m + 18 then (7, 0)
      else if m.length < sumF m + 25 then (8, m.length - (sumF m + 18)) else (9, 0) := by
    unfold nextF
    rw [if_neg h0, if_neg (by rintro (q | q); omega; exact hx32 q), if_neg (by omega)]
  rw [hn]
  clear hn
  have hx32' : extF m = true → ¬ (m.length : Int) ≤ 32 := fun q1 q2 => hx32 ⟨q1, by omega⟩
  clear hx32
  generalize extF m = e at *
  generalize rtrF m = r at *
  generalize ctrlF m = c at *
  generalize dataF m = d at *
  generalize sizeF m = z at *
  generalize sumF m = s at *
  have w0 : IntKind.wrap .i64 ((s : Int) - (d : Int)) = s - d := wrap64 (by omega) (by omega)
  have w1 : IntKind.wrap .i64 (d : Int) = d := wrap64 (by omega) (by omega)
  have w2 : IntKind.wrap .i64 ((d : Int) + ((s : Int) - (d : Int))) = s := by rw [wrap64 (by omega) (by omega)]; omega
  have w3 : IntKind.wrap .i64 (s : Int) = s := wrap64 (by omega) (by omega)
  have w4 : IntKind.wrap .i64 ((s : Int) + 15) = s + 15 := wrap64 (by omega) (by omega)
  have w5 : IntKind.wrap .i64 ((s : Int) + 15 + 1) = s + 16 := by rw [wrap64 (by omega) (by omega)]; omega
  have w6 : IntKind.wrap .i64 ((s : Int) + 16 + 1) = s + 17 := by rw [wrap64 (by omega) (by omega)]; omega
  have w7 : IntKind.wrap .i64 ((s : Int) + 17 + 1) = s + 18 := by rw [wrap64 (by omega) (by omega)]; omega
  have w8 : IntKind.wrap .i64 ((s : Int) + 18 + 7) = s + 25 := by rw [wrap64 (by omega) (by omega)]; omega
  have v3 : IntKind.wrap .i64 ((m.length : Int) - (d : Int)) = ((m.length - d : Nat) : Int) := by rw [wrap64 (by omega) (by omega)]; omega
  simp [encHead] at hr hS
  have q1 : IntKind.wrap .i64 1 = 1 := rfl
  have q2 : IntKind.wrap .i64 2 = 2 := rfl
  have q3 : IntKind.wrap .i64 3 = 3 := rfl
  have q4 : IntKind.wrap .i64 4 = 4 := rfl
  have q5 : IntKind.wrap .i64 5 = 5 := rfl
  have q6 : IntKind.wrap .i64 6 = 6 := rfl
  have q7 : IntKind.wrap .i64 7 = 7 := rfl
  have q8 : IntKind.wrap .i64 8 = 8 := rfl
  have q9 : IntKind.wrap .i64 9 = 9 := rfl
  have g0 : ¬ m.length < d := by omega
  have g9 : ¬ (s : Int) + 25 < (m.length : Int) := by omega
  have vv : IntKind.wrap .i64 0 = 0 := rfl
  by_cases c1 : m.length < s
  · simp only [if_pos c1]
    cases e
    · simp [go_sem, ir113, run_codeL E L113_0.eq_1, aop_idxV, idxVG_agg, run_inLoop', hc, hr, hS, hmn, h0, g0, q1, q2, q3, q4, q5, q6, q7, q8, q9, g9, c1, h13, w0, w1, w2, w3, w4, w5, w6, w7, w8, v3, vv, purse_eq, List.range_succ]
    · have h32 := hx32' rfl
      simp [go_sem, ir113, run_codeL E L113_0.eq_1, aop_idxV, idxVG_agg, run_inLoop', hc, hr, hS, hmn, h0, g0, q1, q2, q3, q4, q5, q6, q7, q8, q9, g9, c1, h13, h32, w0, w1, w2, w3, w4, w5, w6, w7, w8, v3, vv, purse_eq, List.range_succ]
  · simp only [if_neg c1]
    by_cases c2 : m.length < s + 15
    · simp only [if_pos c2]
      have d2 : (m.length : Int) < (s : Int) + 15 := by omega
      have vv : IntKind.wrap .i64 ((m.length : Int) - (s : Int)) = ((m.length - s : Nat) : Int) := by rw [wrap64 (by omega) (by omega)]; omega
      cases e
      · simp [go_sem, ir113, run_codeL E L113_0.eq_1, aop_idxV, idxVG_agg, run_inLoop', hc, hr, hS, hmn, h0, g0, q1, q2, q3, q4, q5, q6, q7, q8, q9, g9, c1, d2, h13, w0, w1, w2, w3, w4, w5, w6, w7, w8, v3, vv, purse_eq, List.range_succ]
      · have h32 := hx32' rfl
        simp [go_sem, ir113, run_codeL E L113_0.eq_1, aop_idxV, idxVG_agg, run_inLoop', hc, hr, hS, hmn, h0, g0, q1, q2, q3, q4, q5, q6, q7, q8, q9, g9, c1, d2, h13, h32, w0, w1, w2, w3, w4, w5, w6, w7, w8, v3, vv, purse_eq, List.range_succ]
    · simp only [if_neg c2]
      have d2 : ¬ (m.length : Int) < (s : Int) + 15 := by omega
      by_cases c3 : m.length < s + 16
      · simp only [if_pos c3]
        have d3 : (m.length : Int) < (s : Int) + 16 := by omega
        have vv : IntKind.wrap .i64 ((m.length : Int) - ((s : Int) + 15)) = 0 := by rw [wrap64 (by omega) (by omega)]; omega
        cases e
        · simp [go_sem, ir113, run_codeL E L113_0.eq_1, aop_idxV, idxVG_agg, run_inLoop', hc, hr, hS, hmn, h0, g0, q1, q2, q3, q4, q5, q6, q7, q8, q9, g9, c1, d2, d3, h13, w0, w1, w2, w3, w4, w5, w6, w7, w8, v3, vv, purse_eq, List.range_succ]
        · have h32 := hx32' rfl
          simp [go_sem, ir113, run_codeL E L113_0.eq_1, aop_idxV, idxVG_agg, run_inLoop', hc, hr, hS, hmn, h0, g0, q1, q2, q3, q4, q5, q6, q7, q8, q9, g9, c1, d2, d3, h13, h32, w0, w1, w2, w3, w4, w5, w6, w7, w8, v3, vv, purse_eq, List.range_succ]
      · simp only [if_neg c3]
        have d3 : ¬ (m.length : Int) < (s : Int) + 16 := by omega
        by_cases c4 : m.length < s + 17
        · simp only [if_pos c4]
          have d4 : (m.length : Int) < (s : Int) + 17 := by omega
          have vv : IntKind.wrap .i64 ((m.length : Int) - ((s : Int) + 16)) = 0 := by rw [wrap64 (by omega) (by omega)]; omega
          cases e
          · simp [go_sem, ir113, run_codeL E L113_0.eq_1, aop_idxV, idxVG_agg, run_inLoop', hc, hr, hS, hmn, h0, g0, q1, q2, q3, q4, q5, q6, q7, q8, q9, g9, c1, d2, d3, d4, h13, w0, w1, w2, w3, w4, w5, w6, w7, w8, v3, vv, purse_eq, List.range_succ]
          · have h32 := hx32' rfl
            simp [go_sem, ir113, run_codeL E L113_0.eq_1, aop_idxV, idxVG_agg, run_inLoop', hc, hr, hS, hmn, h0, g0, q1, q2, q3, q4, q5, q6, q7, q8, q9, g9, c1, d2, d3, d4, h13, h32, w0, w1, w2, w3, w4, w5, w6, w7, w8, v3, vv, purse_eq, List.range_succ]
        · simp only [if_neg c4]
          have d4 : ¬ (m.length : Int) < (s : Int) + 17 := by omega
          by_cases c5 : m.length < s + 18
          · simp only [if_pos c5]
            have d5 : (m.length : Int) < (s : Int) + 18 := by omega
            have vv : IntKind.wrap .i64 ((m.length : Int) - ((s : Int) + 17)) = 0 := by rw [wrap64 (by omega) (by omega)]; omega
            cases e
            · simp [go_sem, ir113, run_codeL E L113_0.eq_1, aop_idxV, idxVG_agg, run_inLoop', hc, hr, hS, hmn, h0, g0, q1, q2, q3, q4, q5, q6, q7, q8, q9, g9, c1, d2, d3, d4, d5, h13, w0, w1, w2, w3, w4, w5, w6, w7, w8, v3, vv, purse_eq, List.range_succ]
            · have h32 := hx32' rfl
              simp [go_sem, ir113, run_codeL E L113_0.eq_1, aop_idxV, idxVG_agg, run_inLoop', hc, hr, hS, hmn, h0, g0, q1, q2, q3, q4, q5, q6, q7, q8, q9, g9, c1, d2, d3, d4, d5, h13, h32, w0, w1, w2, w3, w4, w5, w6, w7, w8, v3, vv, purse_eq, List.range_succ]
          · simp only [if_neg c5]
            have d5 : ¬ (m.length : Int) < (s : Int) + 18 := by omega
            by_cases c6 : m.length < s + 25
            · simp only [if_pos c6]
              have d6 : (m.length : Int) < (s : Int) + 25 := by omega
              have vv : IntKind.wrap .i64 ((m.length : Int) - ((s : Int) + 18)) = ((m.length - (s + 18) : Nat) : Int) := by rw [wrap64 (by omega) (by omega)]; omega
              cases e
              · simp [go_sem, ir113, run_codeL E L113_0.eq_1, aop_idxV, idxVG_agg, run_inLoop', hc, hr, hS, hmn, h0, g0, q1, q2, q3, q4, q5, q6, q7, q8, q9, g9, c1, d2, d3, d4, d5, d6, h13, w0, w1, w2, w3, w4, w5, w6, w7, w8, v3, vv, purse_eq, List.range_succ]
              · have h32 := hx32' rfl
                simp [go_sem, ir113, run_codeL E L113_0.eq_1, aop_idxV, idxVG_agg, run_inLoop', hc, hr, hS, hmn, h0, g0, q1, q2, q3, q4, q5, q6, q7, q8, q9, g9, c1, d2, d3, d4, d5, d6, h13, h32, w0, w1, w2, w3, w4, w5, w6, w7, w8, v3, vv, purse_eq, List.range_succ]
            · simp only [if_neg c6]
              have d6 : ¬ (m.length : Int) < (s : Int) + 25 := by omega
              cases e
              · simp [go_sem, ir113, run_codeL E L113_0.eq_1, aop_idxV, idxVG_agg, run_inLoop', hc, hr, hS, hmn, h0, g0, q1, q2, q3, q4, q5, q6, q7, q8, q9, g9, c1, d2, d3, d4, d5, d6, h13, w0, w1, w2, w3, w4, w5, w6, w7, w8, v3, vv, purse_eq, List.range_succ]
              · have h32 := hx32' rfl
                simp [go_sem, ir113, run_codeL E L113_0.eq_1, aop_idxV, idxVG_agg, run_inLoop', hc, hr, hS, hmn, h0, g0, q1, q2, q3, q4, q5, q6, q7, q8, q9, g9, c1, d2, d3, d4, d5, d6, h13, h32, w0, w1, w2, w3, w4, w5, w6, w7, w8, v3, vv, purse_eq, List.range_succ]
end Go.AM.R1
open Go Go.AM
namespace Go.AM.R1
/-! ### Frames -/
structure Fr where
  id : Int
  ext : Bool
  rtr : Bool
  len : Int
  d0 : Nat
  d1 : Nat
  d2 : Nat
  d3 : Nat
  d4 : Nat
  d5 : Nat
  d6 : Nat
  d7 : Nat
  deriving DecidableEq
def u8v (c : Nat) : AVal := .lit (.int .u8 (c : Int))
def encFr (f : Fr) : List AVal := [.lit (.int .i64 f.id), .lit (.bool f.ext), .lit (.bool f.rtr), .lit (.int .i64 f.len), u8v f.d0, u8v f.d1, u8v f.d2, u8v f.d3, u8v f.d4, u8v f.d5, u8v f.d6, u8v f.d7]
def Fr.zero : Fr := ⟨0, false, false, 0, 0, 0, 0, 0, 0, 0, 0, 0⟩
theorem ahead_spec (m : List Bool) (h : dataF m ≤ m.length) (hl : m.length ≤ 1000000) (nl fu : Bool) : call E (.func (.func 115) [] []) [.imm nl fu true (m.map encLv)] [] = some (.tup [.lit (.int .i64 (sumF m)), .lit (.int .i64 0)], []) := by
  rw [call_func E E115]
  obtain ⟨s1, s2, hd⟩ := sumF_ge m
  have hc := check_lv m (by omega) nl fu
  have hr := read3 m h hl nl fu
  have hS := hsum_spec (extF m) (rtrF m) (ctrlF m) (dataF m) (sizeF m) (by omega) (by unfold sizeF; omega)
  rw [show (if rtrF m = true then dataF m else dataF m + 8 * sizeF m) = sumF m from rfl] at hS
  simp [encHead] at hr hS
  simp [go_sem, ir115, hc, hr, hS, purse_eq, List.range_succ]
/-- Is the sum in levels that of those ahead? -/
def rightF (m : List Bool) : Bool := decide ((m.take (sumF m + 15)).drop (sumF m) = bitsOf 15 (c15L (m.take (sumF m))))
theorem fright_spec (m : List Bool) (h : dataF m ≤ m.length) (h2 : sumF m + 15 ≤ m.length) (hl : m.length ≤ 1000000) (nl fu : Bool) : call E (.func (.func 114) [] []) [.imm nl fu true (m.map encLv)] [] = some (.tup [.lit (.bool (rightF m)), .lit (.int .i64 0)], []) := by
  rw [call_func E E114]
  have hA := ahead_spec m h hl nl fu
  obtain ⟨s1, s2, hd⟩ := sumF_ge m
  have w : IntKind.wrap .i64 ((sumF m : Int) + 15) = ((sumF m + 15 : Nat) : Int) := by rw [wrap64 (by omega) (by omega)]; omega
  have hR := cright_spec (m.take (sumF m + 15)) (by simp; omega) (by simp; omega) nl
  have e : rightC (m.take (sumF m + 15)) = rightF m := by
    unfold rightC rightF
    rw [show (m.take (sumF m + 15)).length - 15 = sumF m from by simp; omega, List.take_take, Nat.min_eq_left (by omega)]
  rw [e, List.map_take] at hR
  have hr := rowsLv m
  generalize rightF m = b at *
  have hlt : ¬ ((m.length : Int) < ((sumF m + 15 : Nat) : Int)) := by omega
  have hlt2 : ¬ (m.length < sumF m + 15) := by omega
  generalize sumF m + 15 = q at *
  simp [go_sem, ir114, hA, w, hlt2, hr, h2, hR, purse_eq, List.range_succ]
def byteF (m : List Bool) (j : Nat) : Nat := if j < (sumF m - dataF m) / 8 then valB ((m.take (dataF m + 8 * (j + 1))).drop (dataF m + 8 * j)) else 0
def idF (m : List Bool) : Nat := if extF m = true then valB ((m.take 12).drop 1) * 262144 + valB ((m.take 32).drop 14) else valB ((m.take 12).drop 1)
def frameOf (m : List Bool) : Fr := ⟨idF m, extF m, rtrF m, sizeF m, byteF m 0, byteF m 1, byteF m 2, byteF m 3, byteF m 4, byteF m 5, byteF m 6, byteF m 7⟩
theorem ior_i64_add {x y : Nat} (hx : x < 2048) (hy : y < 2 ^ 18) : ior .i64 ((x * 262144 : Nat) : Int) (y : Int) = ((x * 262144 + y : Nat) : Int) := by
  have e : (BitVec.ofInt 64 ((x * 262144 : Nat) : Int) ||| BitVec.ofInt 64 (y : Int)).toNat = x * 262144 + y := by
    rw [BitVec.toNat_or, BitVec.ofInt_natCast, BitVec.ofInt_natCast, BitVec.toNat_ofNat, BitVec.toNat_ofNat, Nat.mod_eq_of_lt (by omega), Nat.mod_eq_of_lt (by omega)]
    have := Nat.two_pow_add_eq_or_of_lt hy x
    rw [show (2 : Nat) ^ 18 = 262144 from rfl] at this
    rw [Nat.mul_comm x, ← this]
  unfold ior
  show IntKind.wrap .i64 ((BitVec.ofInt 64 ((x * 262144 : Nat) : Int) ||| BitVec.ofInt 64 (y : Int)).toNat : Int) = _
  rw [e, wrap64 (by omega) (by omega)]
/-- The cells of a frame whose first bytes are told. -/
def cellsF (m : List Bool) (a b c d : AVal) (i : Nat) : List AVal := a :: b :: c :: d :: (List.range 8).map fun j => u8v (if j < i then valB ((m.take (dataF m + 8 * (j + 1))).drop (dataF m + 8 * j)) else 0)
theorem cellsF_length (m a b c d i) : (cellsF m a b c d i).length = 12 := by simp [cellsF]
theorem cellsF_set (m : List Bool) (a b c d : AVal) (i : Nat) (hi : i < 8) : (cellsF m a b c d i).set (4 + i) (u8v (valB ((m.take (dataF m + 8 * (i + 1))).drop (dataF m + 8 * i)))) = cellsF m a b c d (i + 1) := by
  apply List.ext_getElem
  · simp [cellsF]
  · intro n h1 h2
    rw [List.getElem_set]
    match n, h1, h2 with
    | 0, _, _ => rw [if_neg (by omega)]; rfl
    | 1, _, _ => rw [if_neg (by omega)]; rfl
    | 2, _, _ => rw [if_neg (by omega)]; rfl
    | 3, _, _ => rw [if_neg (by omega)]; rfl
    | n + 4, h1, h2 =>
      simp only [cellsF, List.getElem_cons_succ, List.getElem_map, List.getElem_range]
      by_cases hn : 4 + i = n + 4
      · have : n = i := by omega
        subst this
        rw [if_pos hn, if_pos (by omega)]
      · rw [if_neg hn]
        by_cases q : n < i
        · rw [if_pos q, if_pos (by omega)]
        · rw [if_neg q, if_neg (by omega)]
theorem cellsF_refs (m : List Bool) (a b c d : AVal) (i : Nat) (ha : refsL [a, b, c, d] = []) : refsL (cellsF m a b c d i) = [] := by
  unfold cellsF
  have : ∀ l : List Nat, refsL (l.map fun j => u8v (if j < i then valB ((m.take (dataF m + 8 * (j + 1))).drop (dataF m + 8 * j)) else 0)) = [] := by
    intro l; induction l with
    | nil => rfl
    | cons x l ihl => rw [List.map_cons, refsL, ihl]; rfl
  simp only [refsL, List.append_nil, List.append_eq_nil_iff] at ha ⊢
  exact ⟨ha.1, ha.2.1, ha.2.2.1, ha.2.2.2, this _⟩
theorem cellsF_ren (m : List Bool) (a b c d : AVal) (i : Nat) (ha : ∀ f, renL f [a, b, c, d] = [a, b, c, d]) (f : Nat → Nat) : renL f (cellsF m a b c d i) = cellsF m a b c d i := by
  unfold cellsF
  have : ∀ l : List Nat, renL f (l.map fun j => u8v (if j < i then valB ((m.take (dataF m + 8 * (j + 1))).drop (dataF m + 8 * j)) else 0)) = l.map fun j => u8v (if j < i then valB ((m.take (dataF m + 8 * (j + 1))).drop (dataF m + 8 * j)) else 0) := by
    intro l; induction l with
    | nil => rfl
    | cons x l ihl => rw [List.map_cons, renL, ihl]; rfl
  have h := ha f
  simp only [renL, List.cons.injEq, and_true] at h ⊢
  exact ⟨h.1, h.2.1, h.2.2.1, h.2.2.2, this _⟩
theorem frame_loop (m : List Bool) (nb : Nat) (hnb : nb ≤ 8) (hd : dataF m ≤ 39) (hm : dataF m + 8 * nb ≤ m.length) (hl : m.length ≤ 1000000) (nl fu : Bool) (e r : Bool) (cc z : Nat) (Z : List AVal) (a b c d : AVal) (k : List Item) (R : List AVal → Option (AVal × Heap))
    (hk : ∀ τ cs, cs.length = 12 → refsL cs = [] → (∀ f, renL f cs = cs) → lk 2 τ = .ptr 0 0 → lk 8 τ = .ptr 2 0 → finK 0 [.cell 2 true 12, .tmp 3] (run E 0 k τ [.box Z, .box (encHead e r cc (dataF m) z), .box cs]) = R cs) (hZ : refsL Z = []) (ha : refsL [a, b, c, d] = []) (hra : ∀ f, renL f [a, b, c, d] = [a, b, c, d]) :
    ∀ (q i : Nat), i + q = nb →
   finK 0 [.cell 2 true 12, .tmp 3] (run E 0 (.code L88_0 :: .inLoop [0, 2, 6, 8, 61, 62] L88_0 :: .inBlock 1 :: k) [(0, .imm nl fu true (m.map encLv)), (2, .ptr 0 0), (6, .ptr 1 0), (8, .ptr 2 0), (61, .lit (.int .i64 nb)), (62, .lit (.int .i64 i))] [.box Z, .box (encHead e r cc (dataF m) z), .box (cellsF m a b c d i)]) = R (cellsF m a b c d nb) := by
  intro q
  induction q with
  | zero =>
    intro i hi
    have : i = nb := by omega
    subst this
    simp [go_sem, run_codeL E L88_0.eq_1]
    exact hk _ _ (cellsF_length ..) (cellsF_refs _ _ _ _ _ _ ha) (cellsF_ren _ _ _ _ _ _ hra) rfl rfl
  | succ q ih =>
    intro i hi
    have hlt : i < nb := by omega
    have w := wrapIdx (i := i) (by omega)
    have ih2 := ih (i + 1) (by omega)
    rw [← cellsF_set m a b c d i (by omega)] at ih2
    have hcl := cellsF_length m a b c d i
    have hv := fvalue_spec ((m.take (dataF m + 8 * (i + 1))).drop (dataF m + 8 * i)) (by simp; omega) nl
    have hvb := valB_lt ((m.take (dataF m + 8 * (i + 1))).drop (dataF m + 8 * i))
    rw [show ((m.take (dataF m + 8 * (i + 1))).drop (dataF m + 8 * i)).length = 8 from by simp; omega] at hvb
    rw [List.map_drop, List.map_take] at hv
    have hr := rowsLv m
    have h1 : dataF m + 8 * i ≤ dataF m + 8 * (i + 1) := by omega
    have h2 : dataF m + 8 * (i + 1) ≤ m.length := by omega
    have w1 : IntKind.wrap .i64 (8 * (i : Int)) = 8 * i := wrap64 (by omega) (by omega)
    have w2 : IntKind.wrap .i64 ((dataF m : Int) + 8 * (i : Int)) = ((dataF m + 8 * i : Nat) : Int) := by rw [wrap64 (by omega) (by omega)]; omega
    have w3 : IntKind.wrap .i64 (8 * ((i : Int) + 1)) = 8 * ((i : Int) + 1) := wrap64 (by omega) (by omega)
    have w4 : IntKind.wrap .i64 ((dataF m : Int) + 8 * ((i : Int) + 1)) = ((dataF m + 8 * (i + 1) : Nat) : Int) := by rw [wrap64 (by omega) (by omega)]; omega
    have hrc := cellsF_refs m a b c d i ha
    generalize valB ((m.take (dataF m + 8 * (i + 1))).drop (dataF m + 8 * i)) = v at *
    have w5 : IntKind.wrap .u8 (v : Int) = (v : Int) := by rw [wrap8, Nat.mod_eq_of_lt (by omega)]
    generalize cellsF m a b c d nb = Cn at *
    generalize cellsF m a b c d i = cs at *
    have hi8 : i < 8 := by omega
    have hov : List.take (4 + i) cs ++ u8v v :: List.drop (4 + i + 1) cs = cs.set (4 + i) (u8v v) := by
      rw [List.set_eq_take_append_cons_drop, if_pos (by omega)]
    have hle12 : 4 + i + 1 ≤ 12 := by omega
    have hrs : refsL (cs.set (4 + i) (u8v v)) = [] := by
      have : ∀ (l : List AVal) (n : Nat), refsL l = [] → refsL (l.set n (u8v v)) = [] := by
        intro l; induction l with
        | nil => intro n _; rfl
        | cons x l ihl =>
          intro n hx
          rw [refsL, List.append_eq_nil_iff] at hx
          cases n with
          | zero => rw [List.set_cons_zero, refsL, hx.2]; rfl
          | succ n => rw [List.set_cons_succ, refsL, ihl n hx.2, hx.1]; rfl
      exact this _ _ hrc
    generalize dataF m + 8 * (i + 1) = hi1 at *
    generalize dataF m + 8 * i = lo1 at *
    simp [encHead] at ih2 w
    simp [encHead] at hk
    simp only [u8v] at hov hrs ih2
    simp [go_sem, run_codeL E L88_0.eq_1, hlt, encHead, w, w1, w2, w3, w4, w5, hr, h1, h2, hv, hi8, hcl, hov, hle12, hZ, purse_eq, List.range_succ]
    rw [run_inLoop']
    simp [go_sem, purse_eq, List.range_succ, hZ, hrs]
    exact ih2
theorem fframe_spec (m : List Bool) (h : dataF m ≤ m.length) (h2 : sumF m ≤ m.length) (h0 : m[0]? = some false) (hl : m.length ≤ 1000000) (nl fu : Bool) : call E (.func (.func 88) [] []) [.imm nl fu true (m.map encLv)] [] = some (.tup [.agg (encFr (frameOf m)), .lit (.int .i64 0)], []) := by
  rw [call_func E E88]
  obtain ⟨s1, s2, hd⟩ := sumF_ge m
  have hA := ahead_spec m h hl nl fu
  have hR := read3 m h hl nl fu
  have hr := rowsLv m
  have hlt : ¬ ((m.length : Int) < (sumF m : Int)) := by omega
  have hlt2 : ¬ (m.length < sumF m) := by omega
  have h0l : 0 < m.length := by omega
  have h0g : m[0]'h0l = false := by rw [List.getElem?_eq_getElem h0l] at h0; exact Option.some.inj h0
  have h12 : 12 ≤ m.length := by omega
  have hv1 := fun fu => fvalue_spec ((m.take 12).drop 1) (by simp; omega) nl fu
  have hb1 := valB_lt ((m.take 12).drop 1)
  rw [show ((m.take 12).drop 1).length = 11 from by simp; omega] at hb1
  rw [List.map_drop, List.map_take] at hv1
  have w1 : IntKind.wrap .i64 ((sumF m : Int) - (dataF m : Int)) = ((sumF m - dataF m : Nat) : Int) := by rw [wrap64 (by omega) (by omega)]; omega
  have w2 : IntKind.wrap .i64 ((((sumF m - dataF m : Nat) : Int)).tdiv 8) = (((sumF m - dataF m) / 8 : Nat) : Int) := by
    rw [Int.tdiv_eq_ediv_of_nonneg (by omega), wrap64 (by omega) (by omega)]; omega
  have w2' : IntKind.wrap .i64 (((sumF m - dataF m : Nat) : Int) / 8) = (((sumF m - dataF m) / 8 : Nat) : Int) := by
    rw [wrap64 (by omega) (by omega)]; omega
  have hx : extF m = true ↔ dataF m = 39 := by unfold dataF; split <;> simp_all
  have hFo : ∀ a, encFr (frameOf m) = a → a = cellsF m (.lit (.int .i64 (idF m))) (.lit (.bool (extF m))) (.lit (.bool (rtrF m))) (.lit (.int .i64 (sizeF m))) ((sumF m - dataF m) / 8) := fun a ha => by rw [← ha]; rfl
  have hE := hFo _ rfl
  rw [hE]
  clear hFo hE
  have hloop := fun a => frame_loop m ((sumF m - dataF m) / 8) (by omega) (by omega) (by omega) hl nl fu (extF m) (rtrF m) (ctrlF m) (sizeF m) (encFr Fr.zero) a (.lit (.bool (extF m))) (.lit (.bool (rtrF m))) (.lit (.int .i64 (sizeF m)))
  have wq0 : IntKind.wrap .u8 0 = 0 := rfl
  have hc0 : ∀ a b c d, cellsF m a b c d 0 = [a, b, c, d, u8v 0, u8v 0, u8v 0, u8v 0, u8v 0, u8v 0, u8v 0, u8v 0] := by
    intro a b c d
    simp [cellsF, List.range_succ]
  have hcl := cellsF_length m (.lit (.int .i64 (idF m))) (.lit (.bool (extF m))) (.lit (.bool (rtrF m))) (.lit (.int .i64 (sizeF m))) ((sumF m - dataF m) / 8)
  by_cases hxx : extF m = true
  · have h39 := hx.1 hxx
    have h32 : 32 ≤ m.length := by omega
    have hv2 := fun fu => fvalue_spec ((m.take 32).drop 14) (by simp; omega) nl fu
    have hb2 := valB_lt ((m.take 32).drop 14)
    rw [show ((m.take 32).drop 14).length = 18 from by simp; omega] at hb2
    rw [List.map_drop, List.map_take] at hv2
    have w3 : IntKind.wrap .i64 ((valB ((m.take 12).drop 1) : Int) * 262144) = ((valB ((m.take 12).drop 1) * 262144 : Nat) : Int) := by rw [wrap64 (by omega) (by omega)]; omega
    have ho := ior_i64_add (x := valB ((m.take 12).drop 1)) (y := valB ((m.take 32).drop 14)) (by omega) hb2
    have hid : idF m = valB ((m.take 12).drop 1) * 262144 + valB ((m.take 32).drop 14) := by unfold idF; rw [if_pos hxx]
    rw [hid] at hcl ⊢
    have hloop := fun k hk => hloop (.lit (.int .i64 ((valB ((m.take 12).drop 1) * 262144 + valB ((m.take 32).drop 14) : Nat) : Int))) k (fun cs => some (.tup [.agg cs, .lit (.int .i64 0)], [])) hk rfl rfl (fun _ => rfl) ((sumF m - dataF m) / 8) 0 (by omega)
    simp only [hc0] at hloop
    generalize valB ((m.take 12).drop 1) * 262144 + valB ((m.take 32).drop 14) = idv at *
    generalize valB ((m.take 12).drop 1) * 262144 = idu at *
    generalize valB ((m.take 12).drop 1) = ida at *
    generalize valB ((m.take 32).drop 14) = idb at *
    generalize (sumF m - dataF m) / 8 = nb at *
    generalize sumF m - dataF m = sd at *
    simp only [encFr, Fr.zero, encHead, hxx, u8v] at hR hloop ⊢
    simp [hxx] at hloop
    simp only [List.drop_one] at hv1
    simp [go_sem, ir88, hA, hR, hr, hlt2, hxx, h32, h0, h0g, encLv, lv, h12, hv1, w1, w2, w2', hv2, w3, ho,  purse_eq, List.range_succ]
    rw [run_inLoop']
    simp [go_sem, purse_eq, List.range_succ]
    refine hloop _ ?_
    intro τ cs hcs hrcs hrn t2 t8
    have htk : List.take 12 cs = cs := List.take_of_length_le (by omega)
    simp [go_sem, t2, t8, hcs, hrcs, htk, hrn, purse_eq, List.range_succ]
  · have hid : idF m = valB ((m.take 12).drop 1) := by unfold idF; rw [if_neg hxx]
    have hxx : extF m = false := by simpa using hxx
    rw [hid] at hcl ⊢
    have hloop := fun k hk => hloop (.lit (.int .i64 (valB ((m.take 12).drop 1) : Int))) k (fun cs => some (.tup [.agg cs, .lit (.int .i64 0)], [])) hk rfl rfl (fun _ => rfl) ((sumF m - dataF m) / 8) 0 (by omega)
    simp only [hc0] at hloop
    generalize valB ((m.take 12).drop 1) = ida at *
    generalize (sumF m - dataF m) / 8 = nb at *
    generalize sumF m - dataF m = sd at *
    simp only [encFr, Fr.zero, encHead, hxx, u8v] at hR hloop ⊢
    simp [hxx] at hloop
    simp only [List.drop_one] at hv1
    simp [go_sem, ir88, hA, hR, hr, hlt2, hxx, h0, h0g, encLv, lv, h12, hv1, w1, w2, w2',  purse_eq, List.range_succ]
    rw [run_inLoop']
    simp [go_sem, purse_eq, List.range_succ]
    refine hloop _ ?_
    intro τ cs hcs hrcs hrn t2 t8
    have htk : List.take 12 cs = cs := List.take_of_length_le (by omega)
    simp [go_sem, t2, t8, hcs, hrcs, htk, hrn, purse_eq, List.range_succ]
end Go.AM.R1
open Go Go.AM
namespace Go.AM.R1
/-! ### A watcher -/
structure Wt where
  raw : List Bool
  last : Bool
  run : Nat
  acked : Bool
  tick : Nat
  ones : Nat
  on : Bool
  frm : Nat
def Wt.cells (w : Wt) (rv : AVal) : List AVal := [rv, .lit (.int .i64 (lv w.last)), .lit (.int .i64 w.run), .lit (.bool w.acked), .lit (.int .i64 w.tick), .lit (.int .i64 w.ones), .lit (.bool w.on), .lit (.int .i64 w.frm)]
def wH (lk : Bool) (w : Wt) : Heap := if w.raw = [] then [.box (w.cells nilS)] else [.box (w.cells (.own 1 w.raw.length 1 0 w.raw.length)), .arr true lk false 1 (w.raw.map encLv)]
/-- What a level is to a frame, and the taker behind it. -/
def takeP (w : Wt) (b : Bool) : Nat × Wt :=
  if w.run = 5 then (if b = w.last then (1, w) else (0, { w with last := b, run := 1 }))
  else
    let kind := (nextF w.raw).1
    let w1 := if 4 < kind then { w with run := 0 } else if 0 < w.run ∧ b = w.last then { w with run := w.run + 1 } else { w with last := b, run := 1 }
    if kind = 6 then (0, { w1 with acked := !b, raw := w.raw ++ [b] })
    else if (kind = 5 ∧ rightF w.raw = false) ∨ (4 < kind ∧ b = false) then (1, w1)
    else if kind = 8 ∧ (nextF w.raw).2 = 5 then (2, w1)
    else (0, { w1 with raw := w.raw ++ [b] })
def RawOk (m : List Bool) : Prop := m.length ≤ 1000 ∧ (dataF m ≤ m.length → m.length ≤ sumF m + 25)
theorem fnext_spec (m : List Bool) (h : RawOk m) (nl fu : Bool) : call E (.func (.func 113) [] []) [.imm nl fu true (m.map encLv)] [] = some (.tup [.lit (.int .i64 (nextF m).1), .lit (.int .i64 (nextF m).2), .lit (.int .i64 0)], []) := by
  rcases Nat.lt_or_ge m.length (dataF m) with q | q
  · exact next_small m q nl fu
  · exact next_whole m q (h.2 q) nl fu
theorem nextF_five {m : List Bool} (h : (nextF m).1 = 5) : dataF m ≤ m.length ∧ m.length = sumF m + 15 := by
  unfold nextF at h
  split at h; · simp at h
  split at h; · simp at h
  split at h; · simp at h
  split at h; · simp at h
  split at h; · simp at h
  split at h
  · have := (sumF_ge m).1; omega
  split at h; · simp at h
  split at h; · simp at h
  split at h; · simp at h
  simp at h
theorem nextF_le (m : List Bool) : (nextF m).1 ≤ 9 := by
  unfold nextF
  repeat (first | split | omega)
set_option maxHeartbeats 4000000 in
theorem take_nil (w : Wt) (hw : w.raw = []) (hr : w.run ≤ 5) (b lk : Bool) :
    call E (.func (.func 87) [] []) [.ptr 0 0, .lit (.int .i64 (lv b))] (wH lk w) = some (.lit (.int .i64 (takeP w b).1), wH false (takeP w b).2) := by
  rw [call_func E E87]
  obtain ⟨raw, last, run, acked, tick, ones, on, frm⟩ := w
  simp only [] at hw hr
  subst hw
  have hN := fnext_spec [] ⟨by simp, by simp [dataF]⟩ true true
  rw [show nextF [] = (0, 0) from rfl] at hN
  simp at hN
  have w1 : IntKind.wrap .i64 ((run : Int) + 1) = run + 1 := wrap64 (by omega) (by omega)
  by_cases h5 : run = 5
  · subst h5
    cases b <;> cases last <;> simp [go_sem, ir87, takeP, wH, Wt.cells, nilS, lv, purse_eq, List.range_succ]
  · by_cases h0 : run = 0
    · subst h0
      cases b <;> simp [go_sem, ir87, takeP, wH, Wt.cells, nilS, lv, hN, show nextF [] = (0, 0) from rfl, encLv, rowsOk, purse_eq, List.range_succ]
    · have h0' : 0 < run := by omega
      have h5i : ¬ (run : Int) = 5 := by omega
      have h0i : (0 : Int) < run := by omega
      cases b <;> cases last <;> simp [go_sem, ir87, takeP, wH, Wt.cells, nilS, lv, hN, show nextF [] = (0, 0) from rfl, h5, h5i, h0, h0', h0i, w1, encLv, rowsOk, purse_eq, List.range_succ]
set_option maxHeartbeats 16000000 in
theorem take_own (w : Wt) (hraw : w.raw ≠ []) (hok : RawOk w.raw) (hr : w.run ≤ 5) (b lk : Bool) : ∃ lk',
    call E (.func (.func 87) [] []) [.ptr 0 0, .lit (.int .i64 (lv b))] (wH lk w) = some (.lit (.int .i64 (takeP w b).1), wH lk' (takeP w b).2) := by
  rw [call_func E E87]
  obtain ⟨raw, last, run, acked, tick, ones, on, frm⟩ := w
  simp only [] at hraw hok hr
  have w1 : IntKind.wrap .i64 ((run : Int) + 1) = run + 1 := wrap64 (by omega) (by omega)
  have hbb : ¬ (70368744177664 < (raw.length + 1) * 8) := by have := hok.1; omega
  have hrl := rowsLv raw
  by_cases h5 : run = 5
  · subst h5
    refine ⟨lk, ?_⟩
    cases b <;> cases last <;> simp [go_sem, ir87, takeP, wH, Wt.cells, nilS, lv, hraw, purse_eq, List.range_succ]
  · have h5i : ¬ (run : Int) = 5 := by omega
    have hN := fun f => fnext_spec raw hok false f
    have hN1 := hN false
    have hfive := @nextF_five raw
    have h9 := nextF_le raw
    have hR := fun (h : (nextF raw).1 = 5) => fright_spec raw (hfive h).1 (by have := (hfive h).2; omega) (by have := hok.1; omega) false
    refine ⟨true, ?_⟩
    unfold takeP
    simp only [if_neg h5]
    generalize nextF raw = nx at *
    obtain ⟨kind, k⟩ := nx
    simp only [] at hN1 hfive h9 hR ⊢
    clear hN hfive
    have hra : raw ++ [b] ≠ [] := by simp
    by_cases k4 : 4 < kind
    · have k4i : (4 : Int) < kind := by omega
      by_cases k6 : kind = 6
      · subst k6
        cases b <;> simp [go_sem, ir87, wH, Wt.cells, nilS, lv, hN1, hraw, h5i, hbb, hrl, encLv, rowsOk, purse_eq, List.range_succ]
      · have k6i : ¬ (kind : Int) = 6 := by omega
        by_cases k5 : kind = 5
        · subst k5
          have hR := hR rfl
          have hR1 := hR false
          clear hR
          generalize rightF raw = rt at *
          cases rt <;> cases b <;> simp [go_sem, ir87, wH, Wt.cells, nilS, lv, hN1, hR1, hraw, h5i, hbb, hrl, encLv, rowsOk, purse_eq, List.range_succ]
        · have k5i : ¬ (kind : Int) = 5 := by omega
          clear hR
          by_cases k8 : kind = 8
          · subst k8
            by_cases kk : k = 5
            · subst kk
              cases b <;> simp [go_sem, ir87, wH, Wt.cells, nilS, lv, hN1, hraw, h5i, hbb, hrl, encLv, rowsOk, purse_eq, List.range_succ]
            · have kki : ¬ (k : Int) = 5 := by omega
              cases b <;> simp [go_sem, ir87, wH, Wt.cells, nilS, lv, hN1, hraw, h5i, kk, kki, hbb, hrl, encLv, rowsOk, purse_eq, List.range_succ]
          · have k8i : ¬ (kind : Int) = 8 := by omega
            cases b <;> simp [go_sem, ir87, wH, Wt.cells, nilS, lv, hN1, hraw, h5i, k4, k4i, k5, k5i, k6, k6i, k8, k8i, hbb, hrl, encLv, rowsOk, purse_eq, List.range_succ]
    · have k4i : ¬ (4 : Int) < kind := by omega
      have k5i : ¬ (kind : Int) = 5 := by omega
      have k6i : ¬ (kind : Int) = 6 := by omega
      have k8i : ¬ (kind : Int) = 8 := by omega
      have k5 : ¬ kind = 5 := by omega
      have k6 : ¬ kind = 6 := by omega
      have k8 : ¬ kind = 8 := by omega
      clear hR
      by_cases h0 : run = 0
      · subst h0
        cases b <;> simp [go_sem, ir87, wH, Wt.cells, nilS, lv, hN1, hraw, k4, k4i, k5, k5i, k6, k6i, k8, k8i, hbb, hrl, encLv, rowsOk, purse_eq, List.range_succ]
      · have h0' : 0 < run := by omega
        have h0i : (0 : Int) < run := by omega
        cases b <;> cases last <;> simp [go_sem, ir87, wH, Wt.cells, nilS, lv, hN1, hraw, h5i, h0, h0', h0i, w1, k4, k4i, k5, k5i, k6, k6i, k8, k8i, hbb, hrl, encLv, rowsOk, purse_eq, List.range_succ]
end Go.AM.R1
open Go Go.AM
namespace Go.AM.R1
structure Sg where
  kind : Nat
  frm : Nat
  to : Nat
  frame : Fr
  acked : Bool
  deriving DecidableEq
def encSg (s : Sg) : List AVal := [.lit (.int .i64 s.kind), .lit (.int .i64 s.frm), .lit (.int .i64 s.to), .lit (.int .i64 s.frame.id), .lit (.bool s.frame.ext), .lit (.bool s.frame.rtr), .lit (.int .i64 s.frame.len), u8v s.frame.d0, u8v s.frame.d1, u8v s.frame.d2, u8v s.frame.d3, u8v s.frame.d4, u8v s.frame.d5, u8v s.frame.d6, u8v s.frame.d7, .lit (.bool s.acked)]
def startP (w : Wt) (b : Bool) : Wt := if w.on = false ∧ b = false ∧ 10 ≤ w.ones then { w with on := true, frm := w.tick, raw := [], last := false, run := 0, acked := false } else w
def countP (w : Wt) (b : Bool) : Wt := { w with ones := if b = true then w.ones + 1 else 0, tick := w.tick + 1 }
def endP (r : Nat × Wt) : Option Sg × Wt :=
  if r.1 = 0 then (none, r.2)
  else if r.1 = 2 then (some ⟨1, r.2.frm, r.2.tick, frameOf r.2.raw, r.2.acked⟩, { r.2 with on := false })
  else (some ⟨2, r.2.frm, r.2.tick, Fr.zero, false⟩, { r.2 with on := false })
def seeP (w : Wt) (b : Bool) : Option Sg × Wt :=
  if (startP w b).on = false then (none, countP (startP w b) b) else endP (takeP (countP (startP w b) b) b)
structure WOk (w : Wt) : Prop where
  run : w.run ≤ 5
  tick : w.tick ≤ 1000000
  ones : w.ones ≤ 1000000
  raw : w.on = true → w.raw ≠ [] ∧ w.raw[0]? = some false ∧ RawOk w.raw
/-- Nothing is on, and nothing begins. -/
theorem see_A (w : Wt) (h : WOk w) (b lk : Bool) (hon : w.on = false) (hst : ¬ (b = false ∧ 10 ≤ w.ones)) :
    call E (.func (.func 48) [] []) [.ptr 0 0, .lit (.int .i64 (lv b))] (wH lk w) = some (.tup [nilS, .lit (.int .i64 0)], wH lk (seeP w b).2) := by
  rw [call_func E E48]
  obtain ⟨h1, h2, h3, h4⟩ := h
  obtain ⟨raw, last, run, acked, tick, ones, on, frm⟩ := w
  simp only [] at h1 h2 h3 hon hst
  subst hon
  have w1 : IntKind.wrap .i64 ((ones : Int) + 1) = ones + 1 := wrap64 (by omega) (by omega)
  have w2 : IntKind.wrap .i64 ((tick : Int) + 1) = tick + 1 := wrap64 (by omega) (by omega)
  by_cases hr : raw = []
  · cases b
    · have ho : ¬ 10 ≤ ones := fun q => hst ⟨rfl, q⟩
      have hoi : ¬ (10 : Int) ≤ ones := by omega
      simp [go_sem, ir48, seeP, startP, countP, endP, wH, Wt.cells, nilS, lv, hr, ho, hoi, w1, w2, purse_eq, List.range_succ]
    · simp [go_sem, ir48, seeP, startP, countP, endP, wH, Wt.cells, nilS, lv, hr, w1, w2, purse_eq, List.range_succ]
  · cases b
    · have ho : ¬ 10 ≤ ones := fun q => hst ⟨rfl, q⟩
      have hoi : ¬ (10 : Int) ≤ ones := by omega
      simp [go_sem, ir48, seeP, startP, countP, endP, wH, Wt.cells, nilS, lv, hr, ho, hoi, w1, w2, purse_eq, List.range_succ]
    · simp [go_sem, ir48, seeP, startP, countP, endP, wH, Wt.cells, nilS, lv, hr, w1, w2, purse_eq, List.range_succ]
/-- A frame begins. -/
theorem see_B (w : Wt) (h : WOk w) (lk : Bool) (hon : w.on = false) (hst : 10 ≤ w.ones) :
    call E (.func (.func 48) [] []) [.ptr 0 0, .lit (.int .i64 (lv false))] (wH lk w) = some (.tup [nilS, .lit (.int .i64 0)], if w.raw = [] then wH false (seeP w false).2 else [.box ((seeP w false).2.cells (.own 2 1 1 0 1)), .arr true lk false 1 (w.raw.map encLv), .arr true false false 1 [encLv false]]) := by
  rw [call_func E E48]
  obtain ⟨h1, h2, h3, h4⟩ := h
  obtain ⟨raw, last, run, acked, tick, ones, on, frm⟩ := w
  simp only [] at h1 h2 h3 hon hst
  subst hon
  have w1 : IntKind.wrap .i64 ((ones : Int) + 1) = ones + 1 := wrap64 (by omega) (by omega)
  have w2 : IntKind.wrap .i64 ((tick : Int) + 1) = tick + 1 := wrap64 (by omega) (by omega)
  have hoi : (10 : Int) ≤ ones := by omega
  have hT := take_nil ⟨[], false, 0, false, tick + 1, 0, true, tick⟩ rfl (by simp) false false
  simp [takeP, wH, Wt.cells, nilS, lv, show nextF [] = (0, 0) from rfl] at hT
  by_cases hr : raw = []
  · simp [go_sem, ir48, seeP, startP, countP, endP, takeP, show nextF [] = (0, 0) from rfl, wH, Wt.cells, nilS, lv, hr, hst, hoi, w1, w2, hT, purse_eq, List.range_succ]
  · simp [go_sem, ir48, seeP, startP, countP, endP, takeP, show nextF [] = (0, 0) from rfl, wH, Wt.cells, nilS, lv, hr, hst, hoi, w1, w2, hT, purse_eq, List.range_succ]
theorem nextF_eight {m : List Bool} (h : (nextF m).1 = 8) : dataF m ≤ m.length ∧ sumF m + 18 ≤ m.length ∧ (nextF m).2 = m.length - (sumF m + 18) := by
  unfold nextF at h ⊢
  split at h; · simp at h
  split at h; · simp at h
  split at h; · simp at h
  split at h; · simp at h
  split at h; · simp at h
  split at h; · simp at h
  split at h; · simp at h
  split at h; · simp at h
  split at h
  · rename_i q1 q2 q3 q4 q5 q6 q7 q8 q9
    rw [if_neg q1, if_neg q2, if_neg q3, if_neg q4, if_neg q5, if_neg q6, if_neg q7, if_neg q8, if_pos q9]
    exact ⟨by omega, by omega, rfl⟩
  · simp at h
theorem takeP_two {w : Wt} {b : Bool} (h : (takeP w b).1 = 2) : (takeP w b).2.raw = w.raw ∧ dataF w.raw ≤ w.raw.length ∧ w.raw.length = sumF w.raw + 23 := by
  unfold takeP at h ⊢
  split at h
  · split at h <;> simp at h
  · rename_i q1
    simp only [if_neg q1]
    simp only [] at h
    split at h; · simp at h
    split at h; · simp at h
    rename_i q2 q3
    rw [if_neg q2, if_neg q3]
    split at h
    · rename_i q4
      rw [if_pos q4]
      have := nextF_eight q4.1
      refine ⟨?_, this.1, by omega⟩
      simp only []
      split
      · rfl
      · split <;> rfl
    · simp at h
theorem takeP_raw (w : Wt) (b : Bool) (h : w.raw ≠ []) : (takeP w b).2.raw ≠ [] := by
  unfold takeP
  split
  · split <;> exact h
  · simp only []
    split
    · simp
    · split
      · split
        · exact h
        · split <;> exact h
      · split
        · split
          · exact h
          · split <;> exact h
        · simp
theorem takeP_le (w : Wt) (b : Bool) : (takeP w b).1 = 0 ∨ (takeP w b).1 = 1 ∨ (takeP w b).1 = 2 := by
  unfold takeP
  split
  · split <;> simp
  · simp only []
    split
    · simp
    · split
      · simp
      · split <;> simp
theorem takeP_keep (w : Wt) (b : Bool) : (takeP w b).2.frm = w.frm ∧ (takeP w b).2.tick = w.tick ∧ (takeP w b).2.on = w.on ∧ (takeP w b).2.ones = w.ones := by
  have h1 : ∀ (c d : Prop) [Decidable c] [Decidable d] (x y z : Wt), (x.frm = w.frm ∧ x.tick = w.tick ∧ x.on = w.on ∧ x.ones = w.ones) → (y.frm = w.frm ∧ y.tick = w.tick ∧ y.on = w.on ∧ y.ones = w.ones) → (z.frm = w.frm ∧ z.tick = w.tick ∧ z.on = w.on ∧ z.ones = w.ones) →
      ((if c then x else if d then y else z).frm = w.frm ∧ (if c then x else if d then y else z).tick = w.tick ∧ (if c then x else if d then y else z).on = w.on ∧ (if c then x else if d then y else z).ones = w.ones) := by
    intro c d _ _ x y z hx hy hz
    split
    · exact hx
    · split
      · exact hy
      · exact hz
  unfold takeP
  split
  · split <;> exact ⟨rfl, rfl, rfl, rfl⟩
  · simp only []
    split
    · exact h1 _ _ _ _ _ ⟨rfl, rfl, rfl, rfl⟩ ⟨rfl, rfl, rfl, rfl⟩ ⟨rfl, rfl, rfl, rfl⟩
    · split
      · exact h1 _ _ _ _ _ ⟨rfl, rfl, rfl, rfl⟩ ⟨rfl, rfl, rfl, rfl⟩ ⟨rfl, rfl, rfl, rfl⟩
      · split
        · exact h1 _ _ _ _ _ ⟨rfl, rfl, rfl, rfl⟩ ⟨rfl, rfl, rfl, rfl⟩ ⟨rfl, rfl, rfl, rfl⟩
        · exact h1 _ _ _ _ _ ⟨rfl, rfl, rfl, rfl⟩ ⟨rfl, rfl, rfl, rfl⟩ ⟨rfl, rfl, rfl, rfl⟩
/-- A frame is on. -/
theorem see_C (w : Wt) (h : WOk w) (b lk : Bool) (hon : w.on = true) : ∃ lk',
    call E (.func (.func 48) [] []) [.ptr 0 0, .lit (.int .i64 (lv b))] (wH lk w) = some (.tup [match (seeP w b).1 with | none => nilS | some _ => .own 2 1 16 0 1, .lit (.int .i64 0)], wH lk' (seeP w b).2 ++ match (seeP w b).1 with | none => [] | some s => [.arr true false true 16 [encSg s]]) := by
  obtain ⟨h1, h2, h3, h4⟩ := h
  obtain ⟨hr, hr0, hok⟩ := h4 hon
  have hst : startP w b = w := by unfold startP; rw [if_neg (by rw [hon]; simp)]
  have hse : seeP w b = endP (takeP (countP w b) b) := by unfold seeP; rw [hst, if_neg (by rw [hon]; simp)]
  obtain ⟨lk', hT⟩ := take_own (countP w b) hr hok h1 b lk
  have htwo := @takeP_two (countP w b) b
  have htr := takeP_raw (countP w b) b hr
  have htl := takeP_le (countP w b) b
  have hkp := takeP_keep (countP w b) b
  have hfr := fun (q : (takeP (countP w b) b).1 = 2) fu => fframe_spec (takeP (countP w b) b).2.raw (by rw [(htwo q).1]; exact (htwo q).2.1) (by rw [(htwo q).1]; have := (htwo q).2.2; omega) (by rw [(htwo q).1]; exact hr0) (by rw [(htwo q).1]; have := hok.1; exact Nat.le_trans this (by omega)) false fu
  rw [hse]
  have hwc : (countP w b) = countP w b := rfl
  clear htwo hse hst
  have w1 : IntKind.wrap .i64 ((w.ones : Int) + 1) = w.ones + 1 := wrap64 (by omega) (by omega)
  have w2 : IntKind.wrap .i64 ((w.tick : Int) + 1) = w.tick + 1 := wrap64 (by omega) (by omega)
  have hcr : (countP w b).raw = w.raw := rfl
  rw [show wH lk (countP w b) = [.box ((countP w b).cells (.own 1 w.raw.length 1 0 w.raw.length)), .arr true lk false 1 (w.raw.map encLv)] from by unfold wH; rw [if_neg (by rw [hcr]; exact hr), hcr]] at hT
  rw [show wH lk w = [.box (w.cells (.own 1 w.raw.length 1 0 w.raw.length)), .arr true lk false 1 (w.raw.map encLv)] from by unfold wH; rw [if_neg hr]]
  generalize takeP (countP w b) b = t at *
  obtain ⟨e, w3⟩ := t
  simp only [] at hT htr htl hfr hkp
  rw [show wH lk' w3 = [.box (w3.cells (.own 1 w3.raw.length 1 0 w3.raw.length)), .arr true lk' false 1 (w3.raw.map encLv)] from by unfold wH; rw [if_neg htr]] at hT
  obtain ⟨raw, last, run, acked, tick, ones, on, frm⟩ := w
  obtain ⟨raw3, last3, run3, acked3, tick3, ones3, on3, frm3⟩ := w3
  simp only [] at h1 h2 h3 hon hr w1 w2 htr hT hfr
  subst hon
  obtain ⟨p1, p2, p3, p4⟩ := hkp
  simp only [countP] at p1 p2 p3 p4
  subst p1 p2 p3 p4
  rw [call_func E E48]
  simp only [endP]
  rcases htl with rfl | rfl | rfl
  · refine ⟨lk', ?_⟩
    cases b <;> simp [countP, Wt.cells, nilS, lv] at hT <;> simp [go_sem, ir48, wH, Wt.cells, nilS, lv, w1, w2, hT, htr, purse_eq, List.range_succ]
  · refine ⟨lk', ?_⟩
    cases b <;> simp [countP, Wt.cells, nilS, lv] at hT <;> simp [go_sem, ir48, wH, Wt.cells, nilS, lv, w1, w2, hT, htr, encSg, Fr.zero, u8v, purse_eq, List.range_succ]
  · have hfr := hfr rfl
    have hfr1 := hfr false
    refine ⟨true, ?_⟩
    simp [encFr, u8v] at hfr1
    cases b <;> simp [countP, Wt.cells, nilS, lv] at hT <;> simp [go_sem, ir48, wH, Wt.cells, nilS, lv, w1, w2, hT, htr, hfr1, encSg, u8v, purse_eq, List.range_succ]
end Go.AM.R1
open Go Go.AM
namespace Go.AM.R1
/-! ### What holds of a watcher -/
def RawIn (m : List Bool) : Prop := dataF m ≤ m.length → m.length ≤ sumF m + 23
theorem RawIn.ok {m : List Bool} (h : RawIn m) : RawOk m := by
  have h1 := sumF_ge m
  have h2 : dataF m ≤ m.length → m.length ≤ sumF m + 23 := h
  refine ⟨?_, fun q => by have := h2 q; omega⟩
  rcases Nat.lt_or_ge m.length (dataF m) with q | q
  · omega
  · have := h2 q; omega
theorem extF_append {m : List Bool} (h : 14 ≤ m.length) (r : List Bool) : extF (m ++ r) = extF m := by
  unfold extF; rw [List.getElem?_append_left (by omega)]
theorem dataF_append {m : List Bool} (h : dataF m ≤ m.length) (r : List Bool) : dataF (m ++ r) = dataF m := by
  have h1 := sumF_ge m
  unfold dataF; rw [extF_append (by omega)]
theorem sumF_append {m : List Bool} (h : dataF m ≤ m.length) (r : List Bool) : sumF (m ++ r) = sumF m := by
  have h1 := sumF_ge m
  have hx : extF (m ++ r) = extF m := extF_append (by omega) r
  have hd := dataF_append h r
  have hd2 : extF m = true → dataF m = 39 := fun q => by unfold dataF; rw [if_pos q]
  have hr : rtrF (m ++ r) = rtrF m := by
    unfold rtrF; rw [hx, List.getElem?_append_left (by split; rename_i q; have := hd2 q; omega; omega)]
  have hs : sizeF (m ++ r) = sizeF m := by
    unfold sizeF; rw [hd, List.take_append_of_le_length h]
  unfold sumF; rw [hr, hd, hs]
theorem rawIn_one (b : Bool) : RawIn [b] := by
  intro h
  have := (sumF_ge [b]).2.2
  simp at h; omega
theorem rawIn_append {m : List Bool} (h : RawIn m) (hn : ¬ (dataF m ≤ m.length ∧ m.length = sumF m + 23)) (b : Bool) : RawIn (m ++ [b]) := by
  intro q
  rcases Nat.lt_or_ge m.length (dataF m) with h1 | h1
  · have h2 := sumF_ge (m ++ [b])
    rw [List.length_append] at q ⊢
    simp only [List.length_singleton] at *
    rcases Nat.lt_or_ge m.length 14 with h3 | h3
    · have := (sumF_ge (m ++ [b])).2.2; omega
    · have hx : dataF (m ++ [b]) = dataF m := by unfold dataF; rw [extF_append h3]
      rw [hx] at q h2
      omega
  · have h2 := h h1
    rw [sumF_append h1]
    simp; omega
theorem nextF_end {m : List Bool} (h : dataF m ≤ m.length) (h2 : m.length = sumF m + 23) : nextF m = (8, 5) := by
  have h3 := sumF_ge m
  unfold nextF
  rw [if_neg (by omega), if_neg (by
    rintro (q | ⟨q1, q2⟩)
    · omega
    · have : dataF m = 39 := by unfold dataF; rw [if_pos q1]
      omega), if_neg (by omega), if_neg (by omega), if_neg (by omega), if_neg (by omega), if_neg (by omega), if_neg (by omega), if_pos (by omega)]
  congr 1; omega
structure WI (i : Nat) (w : Wt) : Prop where
  run : w.run ≤ 5
  tick : w.tick = i
  ones : w.ones ≤ i
  raw : w.on = true → w.raw ≠ [] ∧ w.raw[0]? = some false ∧ RawIn w.raw
theorem WI.ok {i : Nat} {w : Wt} (h : WI i w) (hi : i ≤ 1000000) : WOk w := by
  obtain ⟨h1, h2, h3, h4⟩ := h
  exact ⟨h1, by omega, by omega, fun q => ⟨(h4 q).1, (h4 q).2.1, (h4 q).2.2.ok⟩⟩
theorem takeP_run (w : Wt) (b : Bool) (h : w.run ≤ 5) : (takeP w b).2.run ≤ 5 := by
  have h1 : ∀ (c d : Prop) [Decidable c] [Decidable d] (x y z : Wt), (c → x.run ≤ 5) → (d → y.run ≤ 5) → z.run ≤ 5 → (if c then x else if d then y else z).run ≤ 5 := by
    intro c d _ _ x y z hx hy hz
    split
    · rename_i q; exact hx q
    · split
      · rename_i q; exact hy q
      · exact hz
  unfold takeP
  split
  · split
    · exact h
    · show 1 ≤ 5; omega
  · rename_i hn
    have : ∀ x y z : Wt, x.run = 0 → y.run = w.run + 1 → z.run = 1 → (if 4 < (nextF w.raw).1 then x else if 0 < w.run ∧ b = w.last then y else z).run ≤ 5 := fun x y z hx hy hz => h1 _ _ _ _ _ (fun _ => by omega) (fun _ => by omega) (by omega)
    simp only []
    split
    · exact this _ _ _ rfl rfl rfl
    · split
      · exact this _ _ _ rfl rfl rfl
      · split
        · exact this _ _ _ rfl rfl rfl
        · exact this _ _ _ rfl rfl rfl
theorem takeP_app (w : Wt) (b : Bool) : (takeP w b).2.raw = w.raw ∨ ((takeP w b).1 = 0 ∧ (takeP w b).2.raw = w.raw ++ [b] ∧ nextF w.raw ≠ (8, 5)) := by
  have h1 : ∀ (c d : Prop) [Decidable c] [Decidable d] (x y z : Wt), x.raw = w.raw → y.raw = w.raw → z.raw = w.raw → (if c then x else if d then y else z).raw = w.raw := by
    intro c d _ _ x y z hx hy hz
    split
    · exact hx
    · split
      · exact hy
      · exact hz
  unfold takeP
  split
  · split <;> exact .inl rfl
  · simp only []
    split
    · rename_i q
      exact .inr ⟨rfl, rfl, fun e => by rw [e] at q; simp at q⟩
    · split
      · exact .inl (h1 _ _ _ _ _ rfl rfl rfl)
      · split
        · exact .inl (h1 _ _ _ _ _ rfl rfl rfl)
        · rename_i q
          exact .inr ⟨rfl, rfl, fun e => q ⟨by rw [e], by rw [e]⟩⟩
theorem WI.see {i : Nat} {w : Wt} (h : WI i w) (b : Bool) : WI (i + 1) (seeP w b).2 := by
  obtain ⟨h1, h2, h3, h4⟩ := h
  by_cases hst : w.on = false ∧ b = false ∧ 10 ≤ w.ones
  · have e : startP w b = { w with on := true, frm := w.tick, raw := [], last := false, run := 0, acked := false } := by unfold startP; rw [if_pos hst]
    obtain ⟨q1, q2, q3⟩ := hst
    subst q2
    unfold seeP
    rw [e]
    simp only [countP, endP, takeP, show nextF [] = (0, 0) from rfl]
    simp
    exact ⟨by simp, by simp [h2], by simp, by intro _; exact ⟨by simp, rfl, rawIn_one false⟩⟩
  · have e : startP w b = w := by unfold startP; rw [if_neg hst]
    unfold seeP
    rw [e]
    have ho : (countP w b).ones ≤ i + 1 := by
      unfold countP; simp only []; split <;> omega
    by_cases hon : w.on = false
    · rw [if_pos hon]
      exact ⟨h1, by show w.tick + 1 = i + 1; omega, ho, fun q => by have : w.on = true := q; rw [hon] at this; cases this⟩
    · rw [if_neg hon]
      have hon : w.on = true := by simpa using hon
      obtain ⟨r1, r2, r3⟩ := h4 hon
      have hk := takeP_keep (countP w b) b
      have hr := takeP_run (countP w b) b h1
      have ha := takeP_app (countP w b) b
      have hne := takeP_raw (countP w b) b r1
      have hraw : (takeP (countP w b) b).2.raw[0]? = some false ∧ RawIn (takeP (countP w b) b).2.raw := by
        rcases ha with e | ⟨-, e, en⟩
        · rw [e]; exact ⟨r2, r3⟩
        · rw [e]
          refine ⟨?_, rawIn_append r3 (fun q => en (nextF_end q.1 q.2)) b⟩
          show (w.raw ++ [b])[0]? = _
          rw [List.getElem?_append_left (List.length_pos_iff.2 r1)]; exact r2
      have ht : (countP w b).tick = i + 1 := by show w.tick + 1 = i + 1; omega
      unfold endP
      split
      · exact ⟨hr, by rw [hk.2.1]; exact ht, by rw [hk.2.2.2]; exact ho, fun _ => ⟨hne, hraw⟩⟩
      · split
        · exact ⟨hr, by show (takeP (countP w b) b).2.tick = _; rw [hk.2.1]; exact ht, by show (takeP (countP w b) b).2.ones ≤ _; rw [hk.2.2.2]; exact ho, fun q => by cases q⟩
        · exact ⟨hr, by show (takeP (countP w b) b).2.tick = _; rw [hk.2.1]; exact ht, by show (takeP (countP w b) b).2.ones ≤ _; rw [hk.2.2.2]; exact ho, fun q => by cases q⟩
def wat0 : Wt := ⟨[], false, 0, false, 0, 0, false, 0⟩
theorem wi0 : WI 0 wat0 := ⟨by simp [wat0], rfl, by simp [wat0], fun q => by cases q⟩
/-- What is seen of levels. -/
def sgGo (w : Wt) : List Bool → List Sg
  | [] => []
  | b :: m => (match (seeP w b).1 with | none => [] | some s => [s]) ++ sgGo (seeP w b).2 m
def watAt (w : Wt) : List Bool → Wt
  | [] => w
  | b :: m => watAt (seeP w b).2 m
def sgAll (m : List Bool) : List Sg := sgGo wat0 m
end Go.AM.R1
open Go Go.AM
namespace Go.AM.R1
/-! ### All that is seen -/
def outV (ix : Nat) (n : Nat) : AVal := if n = 0 then nilS else .own ix n 16 0 n
def outH (out : List Sg) : Heap := if out = [] then [] else [.arr true false false 16 (out.map encSg)]
def ixW (w : Wt) : Nat := if w.raw = [] then 1 else 2
theorem rowsSg (l : List Sg) : rowsOk 16 (l.map encSg) = true := rowsOk_map (f := encSg) (fun _ => rfl) l
theorem wnew_spec : call E (.func (.func 50) [] []) [] [] = some (.ptr 0 0, wH false wat0) := by
  rw [call_func E E50]
  simp [go_sem, ir50, wH, wat0, Wt.cells, lv, nilS, purse_eq, List.range_succ]
theorem seeP_on (w : Wt) (b : Bool) (hon : w.on = true) : (seeP w b).2.raw = [] → w.raw = [] := by
  intro h
  apply Classical.byContradiction
  intro hr
  have hst : startP w b = w := by unfold startP; rw [if_neg (by rw [hon]; simp)]
  have hse : seeP w b = endP (takeP (countP w b) b) := by unfold seeP; rw [hst, if_neg (by rw [hon]; simp)]
  have := takeP_raw (countP w b) b hr
  rw [hse] at h
  unfold endP at h
  split at h
  · exact this h
  · split at h
    · exact this h
    · exact this h
set_option maxHeartbeats 8000000 in
theorem wall_step (w : Wt) (i : Nat) (hi : i ≤ 1000000) (hW : WI i w) (b lk : Bool) (out : List Sg) (hout : out.length ≤ 1000000) (nl fu : Bool) (rows : List (List AVal)) (N : Int) (hN : (i : Int) < N) (hb : rows[i]? = some (encLv b)) (hbl : i < rows.length) (k : List Item) (Q : Option (AVal × Heap))
    (ih : ∀ lk', finK 0 [.tmp 2, .tmp 3] (run E 0 (.code L46_0 :: .inLoop [1000000, 4, 5, 11, 12, 13] L46_0 :: .inBlock 0 :: k) [(4, .ptr 0 0), (5, outV (ixW (seeP w b).2) (out ++ (match (seeP w b).1 with | none => [] | some s => [s])).length), (11, .imm nl fu true rows), (12, .lit (.int .i64 N)), (13, .lit (.int .i64 ((i + 1 : Nat) : Int)))] (wH lk' (seeP w b).2 ++ outH (out ++ (match (seeP w b).1 with | none => [] | some s => [s])))) = Q) :
    finK 0 [.tmp 2, .tmp 3] (run E 0 (.code L46_0 :: .inLoop [1000000, 4, 5, 11, 12, 13] L46_0 :: .inBlock 0 :: k) [(4, .ptr 0 0), (5, outV (ixW w) out.length), (11, .imm nl fu true rows), (12, .lit (.int .i64 N)), (13, .lit (.int .i64 i))] (wH lk w ++ outH out)) = Q := by
  have hok := hW.ok hi
  have wi := wrapIdx (i := i) (by omega)
  have hbi : rows[i] = encLv b := by rw [List.getElem?_eq_getElem hbl] at hb; exact Option.some.inj hb
  have hrs := rowsSg out
  have hsz : ¬ (70368744177664 < (out.length + 1) * 64) := by omega
  have hol : out.length = 0 ↔ out = [] := List.length_eq_zero_iff
  by_cases hon : w.on = false
  · by_cases hst : b = false ∧ 10 ≤ w.ones
    · obtain ⟨rfl, h10⟩ := hst
      have D := see_B w hok lk hon h10
      have hp : (seeP w false).1 = none ∧ (seeP w false).2.raw = [false] := by
        have e : startP w false = { w with on := true, frm := w.tick, raw := [], last := false, run := 0, acked := false } := by unfold startP; rw [if_pos ⟨hon, rfl, h10⟩]
        unfold seeP
        rw [e]
        simp [countP, endP, takeP, show nextF [] = (0, 0) from rfl]
      have ih := ih false
      rw [hp.1] at ih
      obtain ⟨w2, hw2⟩ : ∃ w2, w2 = (seeP w false).2 := ⟨_, rfl⟩
      rw [← hw2] at D ih hp
      have hr2 : w2.raw = [false] := hp.2
      simp [hr2, wH, ixW] at ih
      by_cases hr : w.raw = []
      · simp [wH, hr, hr2] at D
        by_cases ho : out = []
        · subst ho
          simp [outV, outH, Wt.cells, nilS, lv] at ih D
          simp [go_sem, run_codeL E L46_0.eq_1, hN, hb, hbi, hbl, encLv, lv, D, wH, hr, outV, outH, ixW, Wt.cells, wi, nilS, purse_eq, List.range_succ]
          rw [run_inLoop']
          simp [go_sem, purse_eq, List.range_succ]
          exact ih
        · simp [outV, outH, ho, Wt.cells, nilS, lv] at ih D
          simp [go_sem, run_codeL E L46_0.eq_1, hN, hb, hbi, hbl, encLv, lv, D, wH, hr, ho, outV, outH, ixW, Wt.cells, wi, nilS, purse_eq, List.range_succ]
          rw [run_inLoop']
          simp [go_sem, purse_eq, List.range_succ]
          exact ih
      · simp [wH, hr, hr2] at D
        by_cases ho : out = []
        · subst ho
          simp [outV, outH, Wt.cells, nilS, lv] at ih D
          simp [go_sem, run_codeL E L46_0.eq_1, hN, hb, hbi, hbl, encLv, lv, D, wH, hr, outV, outH, ixW, Wt.cells, wi, nilS, purse_eq, List.range_succ]
          rw [run_inLoop']
          simp [go_sem, purse_eq, List.range_succ]
          exact ih
        · simp [outV, outH, ho, Wt.cells, nilS, lv] at ih D
          simp [go_sem, run_codeL E L46_0.eq_1, hN, hb, hbi, hbl, encLv, lv, D, wH, hr, ho, outV, outH, ixW, Wt.cells, wi, nilS, purse_eq, List.range_succ]
          rw [run_inLoop']
          simp [go_sem, purse_eq, List.range_succ]
          exact ih
    · have D := see_A w hok b lk hon hst
      have hp : (seeP w b).1 = none ∧ (seeP w b).2.raw = w.raw := by
        have e : startP w b = w := by unfold startP; rw [if_neg (by rintro ⟨-, q⟩; exact hst q)]
        unfold seeP; rw [e, if_pos hon]; exact ⟨rfl, rfl⟩
      have ih := ih lk
      rw [hp.1] at ih
      obtain ⟨w2, hw2⟩ : ∃ w2, w2 = (seeP w b).2 := ⟨_, rfl⟩
      rw [← hw2] at D ih hp
      have hr2 : w2.raw = w.raw := hp.2
      by_cases hr : w.raw = []
      · simp [wH, hr, hr2] at D
        by_cases ho : out = []
        · subst ho
          simp [outV, outH, wH, ixW, hr2, hr, Wt.cells, nilS, lv] at ih D
          simp [go_sem, run_codeL E L46_0.eq_1, hN, hb, hbi, hbl, encLv, lv, D, wH, hr, outV, outH, ixW, Wt.cells, wi, nilS, purse_eq, List.range_succ]
          rw [run_inLoop']
          simp [go_sem, purse_eq, List.range_succ]
          exact ih
        · simp [outV, outH, wH, ixW, hr2, hr, ho, Wt.cells, nilS, lv] at ih D
          simp [go_sem, run_codeL E L46_0.eq_1, hN, hb, hbi, hbl, encLv, lv, D, wH, hr, ho, outV, outH, ixW, Wt.cells, wi, nilS, purse_eq, List.range_succ]
          rw [run_inLoop']
          simp [go_sem, purse_eq, List.range_succ]
          exact ih
      · simp [wH, hr, hr2] at D
        by_cases ho : out = []
        · subst ho
          simp [outV, outH, wH, ixW, hr2, hr, Wt.cells, nilS, lv] at ih D
          simp [go_sem, run_codeL E L46_0.eq_1, hN, hb, hbi, hbl, encLv, lv, D, wH, hr, outV, outH, ixW, Wt.cells, wi, nilS, purse_eq, List.range_succ]
          rw [run_inLoop']
          simp [go_sem, purse_eq, List.range_succ]
          exact ih
        · simp [outV, outH, wH, ixW, hr2, hr, ho, Wt.cells, nilS, lv] at ih D
          simp [go_sem, run_codeL E L46_0.eq_1, hN, hb, hbi, hbl, encLv, lv, D, wH, hr, ho, outV, outH, ixW, Wt.cells, wi, nilS, purse_eq, List.range_succ]
          rw [run_inLoop']
          simp [go_sem, purse_eq, List.range_succ]
          exact ih
  · have hon : w.on = true := by simpa using hon
    have hr : w.raw ≠ [] := (hW.raw hon).1
    obtain ⟨lk', D⟩ := see_C w hok b lk hon
    have hr2 : (seeP w b).2.raw ≠ [] := fun q => hr (seeP_on w b hon q)
    have ih := ih lk'
    generalize seeP w b = sp at *
    obtain ⟨so, w2⟩ := sp
    simp only [] at D ih hr2
    cases so with
    | none =>
      by_cases ho : out = []
      · subst ho
        simp [outV, outH, wH, ixW, hr2, hr, Wt.cells, nilS, lv] at ih D
        simp [go_sem, run_codeL E L46_0.eq_1, hN, hb, hbi, hbl, encLv, lv, D, wH, hr, outV, outH, ixW, Wt.cells, wi, nilS, purse_eq, List.range_succ]
        rw [run_inLoop']
        simp [go_sem, purse_eq, List.range_succ]
        exact ih
      · simp [outV, outH, wH, ixW, hr2, hr, ho, Wt.cells, nilS, lv] at ih D
        simp [go_sem, run_codeL E L46_0.eq_1, hN, hb, hbi, hbl, encLv, lv, D, wH, hr, ho, outV, outH, ixW, Wt.cells, wi, nilS, purse_eq, List.range_succ]
        rw [run_inLoop']
        simp [go_sem, purse_eq, List.range_succ]
        exact ih
    | some s =>
      have hr16 : rowsOk 16 [encSg s] = true := rowsSg [s]
      by_cases ho : out = []
      · subst ho
        simp [outV, outH, wH, ixW, hr2, hr, Wt.cells, nilS, lv] at ih D
        simp [go_sem, run_codeL E L46_0.eq_1, hN, hb, hbi, hbl, encLv, lv, D, wH, hr, outV, outH, ixW, Wt.cells, wi, nilS, hr16, purse_eq, List.range_succ]
        rw [run_inLoop']
        simp [go_sem, purse_eq, List.range_succ]
        exact ih
      · simp [outV, outH, wH, ixW, hr2, hr, ho, Wt.cells, nilS, lv] at ih D
        simp [go_sem, run_codeL E L46_0.eq_1, hN, hb, hbi, hbl, encLv, lv, D, wH, hr, ho, outV, outH, ixW, Wt.cells, wi, nilS, hr16, hrs, hsz, purse_eq, List.range_succ]
        rw [run_inLoop']
        simp [go_sem, purse_eq, List.range_succ]
        exact ih
end Go.AM.R1
open Go Go.AM
namespace Go.AM.R1
theorem sgGo_len : ∀ (m : List Bool) (w : Wt), (sgGo w m).length ≤ m.length
  | [], _ => by simp [sgGo]
  | b :: m, w => by
    have := sgGo_len m (seeP w b).2
    rw [sgGo, List.length_append, List.length_cons]
    split <;> simp <;> omega
theorem wall_loop (m : List Bool) (hl : m.length ≤ 500000) (nl fu : Bool) (rows : List (List AVal)) (N : Int) (hN : (m.length : Int) ≤ N) (hrows : ∀ (i : Nat) (h : i < m.length), rows[i]? = some (encLv m[i])) (hrl : m.length ≤ rows.length) (k : List Item) (Q : Option (AVal × Heap))
    (hk : ∀ w lk, WI m.length w → finK 0 [.tmp 2, .tmp 3] (run E 0 (.code L46_0 :: .inLoop [1000000, 4, 5, 11, 12, 13] L46_0 :: .inBlock 0 :: k) [(4, .ptr 0 0), (5, outV (ixW w) (sgAll m).length), (11, .imm nl fu true rows), (12, .lit (.int .i64 N)), (13, .lit (.int .i64 m.length))] (wH lk w ++ outH (sgAll m))) = Q) :
    ∀ (d i : Nat) (w : Wt) (lk : Bool) (out : List Sg), i + d = m.length → WI i w → out ++ sgGo w (m.drop i) = sgAll m → out.length ≤ i →
    finK 0 [.tmp 2, .tmp 3] (run E 0 (.code L46_0 :: .inLoop [1000000, 4, 5, 11, 12, 13] L46_0 :: .inBlock 0 :: k) [(4, .ptr 0 0), (5, outV (ixW w) out.length), (11, .imm nl fu true rows), (12, .lit (.int .i64 N)), (13, .lit (.int .i64 i))] (wH lk w ++ outH out)) = Q := by
  intro d
  induction d with
  | zero =>
    intro i w lk out hi hw ho hol
    have : i = m.length := by omega
    subst this
    rw [List.drop_length, sgGo, List.append_nil] at ho
    rw [ho]
    exact hk w lk hw
  | succ d ih =>
    intro i w lk out hi hw ho hol
    have hlt : i < m.length := by omega
    refine wall_step w i (by omega) hw m[i] lk out (by omega) nl fu rows N (by omega) (hrows i hlt) (by omega) k Q ?_
    intro lk'
    refine ih (i + 1) _ lk' _ (by omega) (hw.see _) ?_ ?_
    · rw [List.drop_eq_getElem_cons hlt, sgGo] at ho
      (rw [List.append_assoc, ← ho]) <;> rfl
    · rw [List.length_append]; split <;> simp <;> omega
theorem wall_loop0 (m : List Bool) (hl : m.length ≤ 500000) (nl fu : Bool) (rows : List (List AVal)) (N : Int) (hN : (m.length : Int) ≤ N) (hrows : ∀ (i : Nat) (h : i < m.length), rows[i]? = some (encLv m[i])) (hrl : m.length ≤ rows.length) (k : List Item) (Q : Option (AVal × Heap))
    (hk : ∀ w lk, WI m.length w → finK 0 [.tmp 2, .tmp 3] (run E 0 (.code L46_0 :: .inLoop [1000000, 4, 5, 11, 12, 13] L46_0 :: .inBlock 0 :: k) [(4, .ptr 0 0), (5, outV (ixW w) (sgAll m).length), (11, .imm nl fu true rows), (12, .lit (.int .i64 N)), (13, .lit (.int .i64 m.length))] (wH lk w ++ outH (sgAll m))) = Q) :
    finK 0 [.tmp 2, .tmp 3] (run E 0 (.code L46_0 :: .inLoop [1000000, 4, 5, 11, 12, 13] L46_0 :: .inBlock 0 :: k) [(4, .ptr 0 0), (5, .imm true true true []), (11, .imm nl fu true rows), (12, .lit (.int .i64 N)), (13, .lit (.int .i64 0))] [.box [.imm true true true [], .lit (.int .i64 0), .lit (.int .i64 0), .lit (.bool false), .lit (.int .i64 0), .lit (.int .i64 0), .lit (.bool false), .lit (.int .i64 0)]]) = Q :=
  wall_loop m hl nl fu rows N hN hrows hrl k Q hk m.length 0 wat0 false [] (by omega) wi0 rfl (by simp)
theorem wall_spec (m : List Bool) (hl : m.length ≤ 500000) (nl fu : Bool) : call E (.func (.func 46) [] []) [.imm nl fu true (m.map encLv)] [] = some (.tup [outV 0 (sgAll m).length, .lit (.int .i64 0)], outH (sgAll m)) := by
  rw [call_func E E46]
  have hw := wnew_spec
  simp [wH, wat0, Wt.cells, nilS, lv] at hw
  simp [go_sem, ir46, hw, nilS, purse_eq, List.range_succ]
  rw [run_inLoop']
  simp [go_sem, purse_eq, List.range_succ]
  refine wall_loop0 m hl nl fu (m.map encLv) m.length (by omega) (fun i hi => by rw [List.getElem?_map, List.getElem?_eq_getElem hi]; rfl) (by simp) _ _ ?_
  intro w lk hW
  by_cases hr : w.raw = []
  · by_cases ho : sgAll m = []
    · simp [go_sem, run_codeL E L46_0.eq_1, wH, Wt.cells, outV, outH, ixW, nilS, hr, ho, purse_eq, List.range_succ]
    · simp [go_sem, run_codeL E L46_0.eq_1, wH, Wt.cells, outV, outH, ixW, nilS, hr, ho, purse_eq, List.range_succ]
  · by_cases ho : sgAll m = []
    · simp [go_sem, run_codeL E L46_0.eq_1, wH, Wt.cells, outV, outH, ixW, nilS, hr, ho, purse_eq, List.range_succ]
    · simp [go_sem, run_codeL E L46_0.eq_1, wH, Wt.cells, outV, outH, ixW, nilS, hr, ho, purse_eq, List.range_succ]
theorem see_err (w : Wt) (x : Int) (hx : x ≠ 0 ∧ x ≠ 1) (lk : Bool) : call E (.func (.func 48) [] []) [.ptr 0 0, .lit (.int .i64 x)] (wH lk w) = some (.tup [nilS, .lit (.int .i64 10)], wH lk w) := by
  rw [call_func E E48]
  by_cases hr : w.raw = [] <;> simp [go_sem, ir48, wH, Wt.cells, nilS, hr, hx.1, hx.2, purse_eq, List.range_succ]
theorem wall_bad (m : List Bool) (hl : m.length ≤ 500000) (x : Int) (hx : x ≠ 0 ∧ x ≠ 1) (r : List Int) (nl fu : Bool) : call E (.func (.func 46) [] []) [.imm nl fu true ((m.map lv ++ x :: r).map encI)] [] = some (.tup [nilS, .lit (.int .i64 10)], []) := by
  rw [call_func E E46]
  have hw := wnew_spec
  have hrows : ∀ (i : Nat) (h : i < m.length), ((m.map lv ++ x :: r).map encI)[i]? = some (encLv m[i]) := fun i hi => by
    rw [List.getElem?_map, List.getElem?_append_left (by simpa using hi), List.getElem?_map, List.getElem?_eq_getElem hi]; rfl
  have hg : ((m.map lv ++ x :: r).map encI)[m.length]? = some [.lit (.int .i64 x)] := by
    rw [List.getElem?_map, List.getElem?_append_right (by simp)]; simp [encI]
  have hgl : m.length < ((m.map lv ++ x :: r).map encI).length := by simp
  have hge : ((m.map lv ++ x :: r).map encI)[m.length] = [.lit (.int .i64 x)] := by rw [List.getElem?_eq_getElem hgl] at hg; exact Option.some.inj hg
  have hlt : (m.length : Int) < (((m.map lv ++ x :: r).map encI).length : Int) := by omega
  generalize (m.map lv ++ x :: r).map encI = rows at *
  simp [wH, wat0, Wt.cells, nilS, lv] at hw
  simp [go_sem, ir46, hw, nilS, purse_eq, List.range_succ]
  rw [run_inLoop']
  simp [go_sem, purse_eq, List.range_succ]
  refine wall_loop0 m hl nl fu rows rows.length (by omega) hrows (by omega) _ _ ?_
  intro w lk hW
  have hS := see_err w x hx lk
  by_cases hr : w.raw = []
  · simp [wH, hr, Wt.cells, nilS, lv] at hS
    by_cases ho : sgAll m = []
    · simp [go_sem, run_codeL E L46_0.eq_1, wH, Wt.cells, lv, outV, outH, ixW, hr, ho, hlt, hg, hgl, hge, hS, nilS, purse_eq, List.range_succ]
    · simp [go_sem, run_codeL E L46_0.eq_1, wH, Wt.cells, lv, outV, outH, ixW, hr, ho, hlt, hg, hgl, hge, hS, nilS, purse_eq, List.range_succ]
  · simp [wH, hr, Wt.cells, nilS, lv] at hS
    by_cases ho : sgAll m = []
    · simp [go_sem, run_codeL E L46_0.eq_1, wH, Wt.cells, lv, outV, outH, ixW, hr, ho, hlt, hg, hgl, hge, hS, nilS, purse_eq, List.range_succ]
    · simp [go_sem, run_codeL E L46_0.eq_1, wH, Wt.cells, lv, outV, outH, ixW, hr, ho, hlt, hg, hgl, hge, hS, nilS, purse_eq, List.range_succ]
/-! ### The frames of what is seen -/
def frV (ix : Nat) (n : Nat) : AVal := if n = 0 then nilS else .own ix n 12 0 n
def frH (out : List Fr) : Heap := if out = [] then [] else [.arr true false false 12 (out.map encFr)]
theorem rowsFr (l : List Fr) : rowsOk 12 (l.map encFr) = true := rowsOk_map (f := encFr) (fun _ => rfl) l
def frOf1 (s : Sg) : List Fr := if s.kind = 1 then [s.frame] else []
def frAll (l : List Sg) : List Fr := l.flatMap frOf1
theorem encFr_eq (f : Fr) : encFr f = [.lit (.int .i64 f.id), .lit (.bool f.ext), .lit (.bool f.rtr), .lit (.int .i64 f.len), u8v f.d0, u8v f.d1, u8v f.d2, u8v f.d3, u8v f.d4, u8v f.d5, u8v f.d6, u8v f.d7] := rfl
theorem wfr_loop (l : List Sg) (hl0 : l ≠ []) (hl : l.length ≤ 500000) (k : List Item) (R : List Fr → Option (AVal × Heap))
    (hk : ∀ τ out, lk 6 τ = frV 0 out.length → finK 0 [.tmp 2, .tmp 3] (run E 0 k τ (frH out ++ outH l)) = R out) :
    ∀ (d i : Nat) (out : List Fr), i + d = l.length → out.length ≤ i →
    finK 0 [.tmp 2, .tmp 3] (run E 0 (.code L51_0 :: .inLoop [1000000, 6, 17, 18, 19] L51_0 :: .inBlock 0 :: k) [(6, frV 0 out.length), (17, outV (if out = [] then 0 else 1) l.length), (18, .lit (.int .i64 l.length)), (19, .lit (.int .i64 i))] (frH out ++ outH l)) = R (out ++ frAll (l.drop i)) := by
  have hln : ¬ l.length = 0 := by have := List.length_pos_iff.2 hl0; omega
  intro d
  induction d with
  | zero =>
    intro i out hi ho
    have : i = l.length := by omega
    subst this
    rw [List.drop_length, show frAll [] = [] from rfl, List.append_nil]
    simp [go_sem, run_codeL E L51_0.eq_1]
    exact hk _ out rfl
  | succ d ih =>
    intro i out hi ho
    have hlt : i < l.length := by omega
    have wi := wrapIdx (i := i) (by omega)
    have hsz : ¬ (70368744177664 < (out.length + 1) * 32) := by omega
    have hrs := rowsFr out
    have ih2 := ih (i + 1) (out ++ frOf1 l[i]) (by omega) (by rw [List.length_append]; unfold frOf1; split <;> simp <;> omega)
    rw [List.drop_eq_getElem_cons hlt, show frAll (l[i] :: l.drop (i + 1)) = frOf1 l[i] ++ frAll (l.drop (i + 1)) from rfl, ← List.append_assoc]
    generalize R _ = Q at ih2 ⊢
    have hlg : (l.map encSg)[i]? = some (encSg l[i]) := by rw [List.getElem?_map, List.getElem?_eq_getElem hlt]; rfl
    have hr12 : rowsOk 12 [encFr l[i].frame] = true := rowsFr [l[i].frame]
    by_cases h1 : l[i].kind = 1
    · have h1i : (l[i].kind : Int) = 1 := by omega
      by_cases ho0 : out = []
      · subst ho0
        simp [frOf1, h1, frV, frH, outV, outH, hl0, hln, nilS, encFr, u8v] at ih2 hr12
        simp [go_sem, run_codeL E L51_0.eq_1, hlt, List.getElem?_eq_getElem hlt, frV, frH, outV, outH, hl0, hln, encSg, u8v, h1i, wi, nilS, hr12, purse_eq, List.range_succ]
        rw [run_inLoop']
        simp [go_sem, purse_eq, List.range_succ]
        exact ih2
      · simp [frOf1, h1, ho0, frV, frH, outV, outH, hl0, hln, nilS, encFr_eq, u8v] at ih2 hr12
        simp [go_sem, run_codeL E L51_0.eq_1, hlt, List.getElem?_eq_getElem hlt, ho0, frV, frH, outV, outH, hl0, hln, encSg, u8v, h1i, wi, nilS, hr12, hrs, hsz, purse_eq, List.range_succ]
        rw [run_inLoop']
        simp [go_sem, purse_eq, List.range_succ]
        exact ih2
    · have h1i : ¬ (l[i].kind : Int) = 1 := by omega
      by_cases ho0 : out = []
      · subst ho0
        simp [frOf1, h1, frV, frH, outV, outH, hl0, hln, nilS] at ih2
        simp [go_sem, run_codeL E L51_0.eq_1, hlt, List.getElem?_eq_getElem hlt, frV, frH, outV, outH, hl0, hln, encSg, u8v, h1i, wi, nilS, purse_eq, List.range_succ]
        rw [run_inLoop']
        simp [go_sem, purse_eq, List.range_succ]
        exact ih2
      · simp [frOf1, h1, ho0, frV, frH, outV, outH, hl0, hln, nilS] at ih2
        simp [go_sem, run_codeL E L51_0.eq_1, hlt, List.getElem?_eq_getElem hlt, ho0, frV, frH, outV, outH, hl0, hln, encSg, u8v, h1i, wi, nilS, purse_eq, List.range_succ]
        rw [run_inLoop']
        simp [go_sem, purse_eq, List.range_succ]
        exact ih2
theorem wfr_loop0 (l : List Sg) (hl0 : l ≠ []) (hl : l.length ≤ 500000) (k : List Item)
    (hk : ∀ τ out, lk 6 τ = frV 0 out.length → finK 0 [.tmp 2, .tmp 3] (run E 0 k τ (frH out ++ outH l)) = some (.tup [frV 0 out.length, .lit (.int .i64 0)], frH out)) :
    finK 0 [.tmp 2, .tmp 3] (run E 0 (.code L51_0 :: .inLoop [1000000, 6, 17, 18, 19] L51_0 :: .inBlock 0 :: k) [(6, .imm true true true []), (17, .own 0 l.length 16 0 l.length), (18, .lit (.int .i64 l.length)), (19, .lit (.int .i64 0))] [.arr true false false 16 (l.map encSg)]) = some (.tup [frV 0 (frAll l).length, .lit (.int .i64 0)], frH (frAll l)) := by
  have hln : ¬ l.length = 0 := by have := List.length_pos_iff.2 hl0; omega
  have h := wfr_loop l hl0 hl k (fun out => some (.tup [frV 0 out.length, .lit (.int .i64 0)], frH out)) hk l.length 0 [] (by omega) (by simp)
  simp only [List.drop_zero, List.nil_append, frH, outV, outH, hl0, hln, if_true, if_false] at h
  exact h
theorem wfr_spec (m : List Bool) (hl : m.length ≤ 500000) (nl fu : Bool) : call E (.func (.func 51) [] []) [.imm nl fu true (m.map encLv)] [] = some (.tup [frV 0 (frAll (sgAll m)).length, .lit (.int .i64 0)], frH (frAll (sgAll m))) := by
  rw [call_func E E51]
  have hA := wall_spec m hl nl fu
  have hln : (sgAll m).length ≤ 500000 := by have := sgGo_len m wat0; show (sgGo wat0 m).length ≤ _; omega
  generalize sgAll m = l at *
  by_cases hl0 : l = []
  · subst hl0
    simp [outV, outH, nilS] at hA
    simp [go_sem, ir51, hA, nilS, purse_eq, List.range_succ]
    rw [run_inLoop']
    simp [go_sem, run_codeL E L51_0.eq_1, frV, frH, frAll, nilS, purse_eq, List.range_succ]
  · have hln0 : ¬ l.length = 0 := by have := List.length_pos_iff.2 hl0; omega
    simp [outV, outH, hl0, hln0, nilS] at hA
    simp [go_sem, ir51, hA, nilS, purse_eq, List.range_succ]
    rw [run_inLoop']
    simp [go_sem, purse_eq, List.range_succ]
    refine wfr_loop0 l hl0 hln _ ?_
    intro τ out t6
    by_cases ho : out = []
    · simp [go_sem, t6, ho, frV, frH, outH, hl0, nilS, purse_eq, List.range_succ]
    · simp [go_sem, t6, ho, frV, frH, outH, hl0, nilS, purse_eq, List.range_succ]
end Go.AM.R1
open Go Go.AM
namespace Go.AM.R1

/-! ### log.Scan: the walk -/
abbrev Bk := Int × List Run
def encBk (x : Bk) : List AVal := [.lit (.int .i64 x.1), .imm false false true (x.2.map encRun)]
/-- The blocks from a place, and a tick, on; and where they end. -/
def scanGo : Nat → List Nat → Nat → Int → List Bk → List Bk × Nat × Int
  | 0, _, p, t, acc => (acc, p, t)
  | d + 1, b, p, t, acc =>
    if (getB (b.drop p)).2.2 = 0 ∧ (getB (b.drop p)).1.1 = t then
      scanGo d b (p + (getB (b.drop p)).2.1.toNat) (t + sumN (getB (b.drop p)).1.2) (acc ++ [(getB (b.drop p)).1])
    else (acc, p, t)
def scanB (b : List Nat) : List Bk × Nat × Int := scanGo (b.length + 1) b 0 0 []

theorem get_good {b : List Nat} (hb : ∀ c ∈ b, c < 256) (h : (getB b).2.2 = 0) :
    chkB (getB b).1.1 (getB b).1.2 = 0 ∧ (∀ r ∈ (getB b).1.2, 0 ≤ r.Drive ∧ r.Drive ≤ 4294967295) ∧ 1 ≤ (getB b).2.1 ∧ (getB b).2.1 ≤ b.length ∧ b.take (getB b).2.1.toNat = wholeB (numsN (getB b).1.1 (getB b).1.2) := by
  obtain ⟨f, R, n, e, h1, h2, h3, h4, h5⟩ := put_of_get hb h
  rw [e]
  exact ⟨h1, h2, by simp; omega, by simp; omega, by simpa using h3⟩

/-- Where the place is. -/
def atI (acc : List Bk) : Nat := if acc = [] then 4 else 5
end Go.AM.R1
open Go Go.AM
namespace Go.AM.R1

def bkV (i : Nat) (l : List Bk) : AVal := if l = [] then nilS else .own i l.length 2 0 l.length
def bkH (l : List Bk) : Heap := if l = [] then [] else [.arr true false false 2 (l.map encBk)]
end Go.AM.R1
open Go Go.AM
namespace Go.AM.R1

/-! ### The document's Scan -/
theorem get_nil : (getB []).2.2 ≠ 0 := by decide
end Go.AM.R1
open Go Go.AM
namespace Go.AM.R1

/-! ### The blocks of bytes -/
def putBk (x : Bk) : List Nat := wholeB (numsN x.1 x.2)
def blksB (l : List Bk) : List Nat := l.flatMap putBk
def totB (l : List Bk) : Int := match l with | [] => 0 | x :: r => sumN x.2 + totB r
def Good : Int → List Bk → Prop
  | _, [] => True
  | t, x :: r => x.1 = t ∧ chkB x.1 x.2 = 0 ∧ (∀ r ∈ x.2, 0 ≤ r.Drive ∧ r.Drive ≤ 4294967295) ∧ Good (t + sumN x.2) r
theorem blksB_cons (x : Bk) (l : List Bk) : blksB (x :: l) = putBk x ++ blksB l := rfl
theorem blksB_append (l m : List Bk) : blksB (l ++ m) = blksB l ++ blksB m := by simp [blksB]
theorem totB_append : ∀ (l m : List Bk), totB (l ++ m) = totB l + totB m
  | [], m => by simp [totB]
  | x :: l, m => by simp only [List.cons_append, totB]; rw [totB_append l m]; omega
theorem good_append : ∀ (l m : List Bk) (t : Int), Good t (l ++ m) ↔ Good t l ∧ Good (t + totB l) m
  | [], m, t => by simp [Good, totB]
  | x :: l, m, t => by
    simp only [List.cons_append, Good, totB]
    rw [good_append l m (t + sumN x.2), Int.add_assoc]
    simp only [and_assoc]
theorem good_tot : ∀ (l : List Bk) (t : Int), 0 ≤ t → t ≤ 1073741824 → Good t l → 0 ≤ totB l ∧ t + totB l ≤ 1073741824
  | [], t, h0, h, _ => by simp [totB]; omega
  | x :: l, t, h0, h, g => by
    obtain ⟨g1, g2, g3, g4⟩ := g
    have gk := chkB_ok g2
    have hs := (chk_right gk.2.2.2.1).2
    have := good_tot l (t + sumN x.2) (by omega) (by omega) g4
    simp only [totB]
    omega
theorem putBk_len {x : Bk} (h : chkB x.1 x.2 = 0) : 6 ≤ (putBk x).length ∧ (putBk x).length ≤ 42000 := by
  have h1 := inside_65536 h
  have h2 := whole_len (numsN x.1 x.2)
  have h3 := putN_len64 (n := (bytesN (numsN x.1 x.2)).length) (by omega)
  have h4 := List.length_pos_iff.2 (putN_pos (bytesN (numsN x.1 x.2)).length)
  have h5 : 1 ≤ (bytesN (numsN x.1 x.2)).length := by
    simp only [numsN, bytesN, List.flatMap_cons, List.length_append]
    have := List.length_pos_iff.2 (putN_pos x.1.toNat)
    omega
  unfold putBk
  omega
theorem good_len : ∀ (l : List Bk) (t : Int), Good t l → 6 * l.length ≤ (blksB l).length
  | [], _, _ => by simp
  | x :: l, t, g => by
    have := putBk_len g.2.1
    have := good_len l _ g.2.2.2
    rw [blksB_cons, List.length_append, List.length_cons]
    omega
theorem scan_facts (b : List Nat) (hb : ∀ c ∈ b, c < 256) : ∀ (d p : Nat) (t : Int) (acc : List Bk), p ≤ b.length →
    ∃ l, (scanGo d b p t acc).1 = acc ++ l ∧ Good t l ∧ (scanGo d b p t acc).2.1 = p + (blksB l).length ∧ p + (blksB l).length ≤ b.length ∧ (b.drop p).take (blksB l).length = blksB l ∧ (scanGo d b p t acc).2.2 = t + totB l := by
  intro d
  induction d with
  | zero => intro p t acc hp; exact ⟨[], by simp [scanGo, Good, blksB, totB, hp]⟩
  | succ d ih =>
    intro p t acc hp
    rw [scanGo]
    split
    · rename_i h
      obtain ⟨g1, g2, g3, g4, g5⟩ := get_good (fun c hc => hb c (List.mem_of_mem_drop hc)) h.1
      simp at g4
      generalize hg : getB (b.drop p) = g at *
      obtain ⟨⟨f, R⟩, m, e⟩ := g
      simp only [] at *
      obtain ⟨l, e1, e2, e3, e4, e5, e6⟩ := ih (p + m.toNat) (t + sumN R) (acc ++ [(f, R)]) (by omega)
      have hlen : (wholeB (numsN f R)).length = m.toNat := by rw [← g5]; simp; omega
      refine ⟨(f, R) :: l, by rw [e1]; simp, ⟨h.2, g1, g2, e2⟩, ?_, ?_, ?_, ?_⟩
      · rw [e3, blksB_cons, List.length_append]; show _ = p + ((wholeB (numsN f R)).length + _); omega
      · rw [blksB_cons, List.length_append]; show p + ((wholeB (numsN f R)).length + _) ≤ _; omega
      · rw [blksB_cons, List.length_append, List.take_add]
        show List.take (wholeB (numsN f R)).length _ ++ List.take _ (List.drop (wholeB (numsN f R)).length _) = wholeB (numsN f R) ++ _
        rw [hlen, g5, List.drop_drop, e5]
      · rw [e6]; simp only [totB]; omega
    · exact ⟨[], by simp [Good, blksB, totB, hp]⟩
theorem scanB_facts {b : List Nat} (hb : ∀ c ∈ b, c < 256) : Good 0 (scanB b).1 ∧ (scanB b).2.1 = (blksB (scanB b).1).length ∧ (scanB b).2.1 ≤ b.length ∧ b.take (scanB b).2.1 = blksB (scanB b).1 ∧ (scanB b).2.2 = totB (scanB b).1 := by
  obtain ⟨l, e1, e2, e3, e4, e5, e6⟩ := scan_facts b hb (b.length + 1) 0 0 [] (by omega)
  rw [show scanGo (b.length + 1) b 0 0 [] = scanB b from rfl] at *
  simp at e1 e3 e4 e5 e6
  rw [e1, e3]
  exact ⟨e2, rfl, e4, e5, e6⟩
/-- Blocks that are put one behind the other are found. -/
theorem scan_put (b : List Nat) : ∀ (l : List Bk) (d p : Nat) (t : Int) (acc : List Bk), l.length + 1 ≤ d → Good t l → (b.drop p) = blksB l → scanGo d b p t acc = (acc ++ l, p + (blksB l).length, t + totB l) := by
  intro l
  induction l with
  | nil =>
    intro d p t acc hd hg hp
    obtain ⟨d, rfl⟩ : ∃ e, d = e + 1 := ⟨d - 1, by simp at hd; omega⟩
    rw [scanGo, hp, if_neg (by intro q; exact get_nil q.1)]
    simp [blksB, totB]
  | cons x l ih =>
    intro d p t acc hd hg hp
    obtain ⟨d, rfl⟩ : ∃ e, d = e + 1 := ⟨d - 1, by simp at hd; omega⟩
    obtain ⟨g1, g2, g3, g4⟩ := hg
    have hG := get_of_put g2 g3 (blksB l)
    rw [scanGo, hp, blksB_cons]
    show (if (getB (wholeB (numsN x.1 x.2) ++ blksB l)).2.2 = 0 ∧ (getB (wholeB (numsN x.1 x.2) ++ blksB l)).1.1 = t then _ else _) = _
    rw [show putBk x = wholeB (numsN x.1 x.2) from rfl, hG]
    simp only []
    rw [if_pos ⟨trivial, g1⟩]
    rw [ih d (p + ((wholeB (numsN x.1 x.2)).length : Int).toNat) (t + sumN x.2) _ (by simp at hd; omega) g4 (by
      rw [Int.toNat_natCast, ← List.drop_drop, hp, blksB_cons]; show List.drop (wholeB (numsN x.1 x.2)).length (wholeB (numsN x.1 x.2) ++ _) = _; rw [List.drop_left])]
    simp [totB, List.length_append]
    omega
theorem scanB_put {l : List Bk} (h : Good 0 l) : scanB (blksB l) = (l, (blksB l).length, totB l) := by
  have := good_len l 0 h
  have := scan_put (blksB l) l ((blksB l).length + 1) 0 0 [] (by omega) h rfl
  simpa [scanB] using this
end Go.AM.R1
open Go Go.AM
namespace Go.AM.R1

/-! ### What the machine does that was not needed before -/
def appZK (fl : Bool) (sz bytes : Nat) (zero : List AVal) (H : Heap) (s : AVal) : AVal → Option (AVal × Heap)
  | .lit (.int .i64 l) => if 0 ≤ l ∧ l ≤ 2 ^ 46 ∧ l * bytes ≤ 2 ^ 46 then aadd fl sz bytes H s (flatL zero) (List.replicate l.toNat zero) else none
  | _ => none
theorem aop_appendZ {c : Callee} {ρ : Opd → AVal} {H : Heap} (fl sz b z s n) : aop c ρ H (.appendZ fl sz b z s n) = appZK fl sz b z H (ρ s) (ρ n) := by
  unfold aop appZK; rfl
theorem appZK_int (fl : Bool) (sz bytes : Nat) (zero : List AVal) (H : Heap) (s : AVal) (l : Int) : appZK fl sz bytes zero H s (.lit (.int .i64 l)) = if 0 ≤ l ∧ l ≤ 2 ^ 46 ∧ l * bytes ≤ 2 ^ 46 then aadd fl sz bytes H s (flatL zero) (List.replicate l.toNat zero) else none := rfl
def capK (H : Heap) : AVal → Option (AVal × Heap)
  | .imm _ true _ es => some (vint .i64 es.length, H)
  | _ => none
theorem aop_cap {c : Callee} {ρ : Opd → AVal} {H : Heap} (x) : aop c ρ H (.cap x) = capK H (ρ x) := by
  unfold aop capK; rfl
theorem capK_imm (H : Heap) (n fl es) : capK H (.imm n true fl es) = some (vint .i64 es.length, H) := rfl
def cutK (sz : Nat) (H : Heap) (i len off n lo h m : Nat) : Option Entry → Option (AVal × Heap)
  | some (.arr fl lk _ se es) => if es.length = len ∧ se = sz ∧ off = 0 ∧ n = len ∧ lo = 0 ∧ h = m ∧ m ≤ n then
      some (.own H.length h sz 0 h, H.set i .dead ++ [.arr fl lk true sz (es.take h)]) else none
  | _ => none
theorem aslice_own_mx (sz : Nat) (H : Heap) (i len so off n lo h m : Nat) : aslice sz H (.own i len so off n) lo (some h) (some m) = if so ≠ sz then none else cutK sz H i len off n lo h m H[i]? := by
  simp only [aslice]
  split
  · rfl
  · cases H[i]? with
    | none => rfl
    | some e => cases e <;> rfl
theorem cutK_arr (sz : Nat) (H : Heap) (i len off n lo h m : Nat) (fl lk fu se es) : cutK sz H i len off n lo h m (some (.arr fl lk fu se es)) = if es.length = len ∧ se = sz ∧ off = 0 ∧ n = len ∧ lo = 0 ∧ h = m ∧ m ≤ n then
      some (.own H.length h sz 0 h, H.set i .dead ++ [.arr fl lk true sz (es.take h)]) else none := rfl
attribute [go_sem] aop_appendZ appZK_int aop_cap capK_imm aslice_own_mx cutK_arr

theorem rowsR (l : List Run) : rowsOk 3 (l.map encRun) = true := rowsOk_map (f := encRun) (fun _ => rfl) l
theorem noImm_encRun (l : List Run) : noImmLL (l.map encRun) = true := noImmLL_map (fun _ => rfl) l

end Go.AM.R1
open Go Go.AM
namespace Go.AM.R1
/-! ### slices.Grow and Concat of levels -/
theorem growL_nil (n : Nat) (hn : n ≤ 1000000) (h : n ≠ 0) : call E (.func (.func 131) [] []) [nilS, .lit (.int .i64 n)] []
    = some (.own 0 n 1 0 0, [.arr true false false 1 (List.replicate n [.lit (.int .i64 0)])]) := by
  rw [call_func E E131]
  have h0 : ¬ (n : Int) < 0 := by omega
  have w0 : IntKind.wrap .i64 0 = 0 := rfl
  have w1 : IntKind.wrap .i64 (n : Int) = n := wrap64 (by omega) (by omega)
  have h1 : 0 < (n : Int) := by omega
  have h1' : 0 < n := by omega
  have h2 : (n : Int) ≤ 70368744177664 := by omega
  have h3 : (n : Int) * 8 ≤ 70368744177664 := by omega
  have h4 : ¬ (70368744177664 < n * 8) := by omega
  have hr : rowsOk 1 (List.replicate n [AVal.lit (.int .i64 0)]) = true := by
    simp [rowsOk]
  simp [go_sem, ir131, h, h0, h1, h1', h2, h3, h4, hr, w0, w1, purse_eq, flatL, flatV]
set_option maxHeartbeats 2000000 in
theorem concatL3 (X Y Z : List Bool) (hX : X ≠ []) (hY : Y ≠ []) (hZ : Z ≠ []) (hl : X.length + Y.length + Z.length ≤ 1000000) (fu xn xf yn yf zn zf : Bool) :
    call E (.func (.func 95) [] []) [.imm false fu true [[.imm xn xf true (X.map encLv)], [.imm yn yf true (Y.map encLv)], [.imm zn zf true (Z.map encLv)]]] []
      = some (.own 0 (X ++ Y ++ Z).length 1 0 (X ++ Y ++ Z).length, [.arr true false false 1 ((X ++ Y ++ Z).map encLv)]) := by
  rw [call_func E E95]
  have pX := List.length_pos_iff.2 hX
  have pY := List.length_pos_iff.2 hY
  have pZ := List.length_pos_iff.2 hZ
  have hG := growL_nil (X.length + Y.length + Z.length) hl (by omega)
  have wx : IntKind.wrap .i64 (X.length : Int) = X.length := wrap64 (by omega) (by omega)
  have wxy : IntKind.wrap .i64 ((X.length : Int) + (Y.length : Int)) = (X.length : Int) + Y.length := wrap64 (by omega) (by omega)
  have wxyz : IntKind.wrap .i64 ((X.length : Int) + (Y.length : Int) + (Z.length : Int)) = (X.length : Int) + Y.length + Z.length := wrap64 (by omega) (by omega)
  have w1 : IntKind.wrap .i64 1 = 1 := rfl
  have w2 : IntKind.wrap .i64 2 = 2 := rfl
  have w3 : IntKind.wrap .i64 3 = 3 := rfl
  have h0 : ¬ (X.length : Int) < 0 := by omega
  have h1 : ¬ (X.length : Int) + (Y.length : Int) < 0 := by omega
  have h2 : ¬ (X.length : Int) + (Y.length : Int) + (Z.length : Int) < 0 := by omega
  have rX := rowsLv X
  have rY := rowsLv Y
  have rZ := rowsLv Z
  have b1 : ¬ (70368744177664 < X.length * 8) := by omega
  have b2 : ¬ (70368744177664 < (X.length + Y.length) * 8) := by omega
  have b3 : ¬ (70368744177664 < (X.length + (Y.length + Z.length)) * 8) := by omega
  have hne : ¬ (0 = X.length + (Y.length + Z.length)) := by omega
  simp [nilS] at hG
  simp [go_sem, ir95, run_codeL E L95_0.eq_1, run_codeL E L95_1.eq_1, run_inLoop', hG, wx, wxy, wxyz, w1, w2, w3, h0, h1, h2, rX, rY, rZ, b1, b2, b3, hX, hY, hZ, hne, nilS, purse_eq, List.range_succ, Nat.add_assoc]
set_option maxHeartbeats 2000000 in
theorem concatL4 (X Y Z V : List Bool) (hX : X ≠ []) (hY : Y ≠ []) (hZ : Z ≠ []) (hV : V ≠ []) (hl : X.length + Y.length + Z.length + V.length ≤ 1000000) (fu xn xf yn yf zn zf vn vf : Bool) :
    call E (.func (.func 95) [] []) [.imm false fu true [[.imm xn xf true (X.map encLv)], [.imm yn yf true (Y.map encLv)], [.imm zn zf true (Z.map encLv)], [.imm vn vf true (V.map encLv)]]] []
      = some (.own 0 (X ++ Y ++ Z ++ V).length 1 0 (X ++ Y ++ Z ++ V).length, [.arr true false false 1 ((X ++ Y ++ Z ++ V).map encLv)]) := by
  rw [call_func E E95]
  have pX := List.length_pos_iff.2 hX
  have pY := List.length_pos_iff.2 hY
  have pZ := List.length_pos_iff.2 hZ
  have pV := List.length_pos_iff.2 hV
  have hG := growL_nil (X.length + Y.length + Z.length + V.length) hl (by omega)
  have wx : IntKind.wrap .i64 (X.length : Int) = X.length := wrap64 (by omega) (by omega)
  have wxy : IntKind.wrap .i64 ((X.length : Int) + (Y.length : Int)) = (X.length : Int) + Y.length := wrap64 (by omega) (by omega)
  have wxyz : IntKind.wrap .i64 ((X.length : Int) + (Y.length : Int) + (Z.length : Int)) = (X.length : Int) + Y.length + Z.length := wrap64 (by omega) (by omega)
  have wv : IntKind.wrap .i64 ((X.length : Int) + (Y.length : Int) + (Z.length : Int) + (V.length : Int)) = (X.length : Int) + Y.length + Z.length + V.length := wrap64 (by omega) (by omega)
  have w1 : IntKind.wrap .i64 1 = 1 := rfl
  have w2 : IntKind.wrap .i64 2 = 2 := rfl
  have w3 : IntKind.wrap .i64 3 = 3 := rfl
  have w4 : IntKind.wrap .i64 4 = 4 := rfl
  have h0 : ¬ (X.length : Int) < 0 := by omega
  have h1 : ¬ (X.length : Int) + (Y.length : Int) < 0 := by omega
  have h2 : ¬ (X.length : Int) + (Y.length : Int) + (Z.length : Int) < 0 := by omega
  have h3 : ¬ (X.length : Int) + (Y.length : Int) + (Z.length : Int) + (V.length : Int) < 0 := by omega
  have rX := rowsLv X
  have rY := rowsLv Y
  have rZ := rowsLv Z
  have rV := rowsLv V
  have b1 : ¬ (70368744177664 < X.length * 8) := by omega
  have b2 : ¬ (70368744177664 < (X.length + Y.length) * 8) := by omega
  have b3 : ¬ (70368744177664 < (X.length + (Y.length + Z.length)) * 8) := by omega
  have b4 : ¬ (70368744177664 < (X.length + (Y.length + (Z.length + V.length))) * 8) := by omega
  have hne : ¬ (0 = X.length + (Y.length + (Z.length + V.length))) := by omega
  simp [nilS] at hG
  simp [go_sem, ir95, run_codeL E L95_0.eq_1, run_codeL E L95_1.eq_1, run_inLoop', hG, wx, wxy, wxyz, wv, w1, w2, w3, w4, h0, h1, h2, h3, rX, rY, rZ, rV, b1, b2, b3, b4, hX, hY, hZ, hV, hne, nilS, purse_eq, List.range_succ, Nat.add_assoc]
/-! ### The greatest byte -/
def maxL (a : Nat) : List Nat → Nat
  | [] => a
  | x :: l => maxL (max a x) l
theorem maxL_zero : ∀ (l : List Nat) (a : Nat), (maxL a l = 0 ↔ a = 0 ∧ ∀ x ∈ l, x = 0)
  | [], a => by simp [maxL]
  | x :: l, a => by
    rw [maxL, maxL_zero l]
    constructor
    · rintro ⟨h1, h2⟩
      refine ⟨by omega, fun y hy => ?_⟩
      rcases List.mem_cons.1 hy with e | e
      · omega
      · exact h2 y e
    · rintro ⟨h1, h2⟩
      have := h2 x (by simp)
      exact ⟨by omega, fun y hy => h2 y (by simp [hy])⟩
theorem max_loop (l : List Nat) (hl : l.length ≤ 1000000) (nl fu : Bool) (k : List Item) (R : Nat → Option (AVal × Heap))
    (hk : ∀ (τ : Tmps) (a : Nat), lk 3 τ = .lit (.int .u8 (a : Int)) → finK 0 [.tmp 2] (run E 0 k τ []) = R a) :
    ∀ (d i a : Nat), i + d = l.length →
   finK 0 [.tmp 2] (run E 0 (.code L90_0 :: .inLoop [0, 3, 4] L90_0 :: .inBlock 0 :: k) [(0, .imm nl fu true (l.map encB)), (3, .lit (.int .u8 a)), (4, .lit (.int .i64 i))] []) = R (maxL a (l.drop i)) := by
  intro d
  induction d with
  | zero =>
    intro i a hi
    have : i = l.length := by omega
    subst this
    simp [go_sem, run_codeL E L90_0.eq_1, maxL]
    exact hk _ _ rfl
  | succ d ih =>
    intro i a hi
    have hlt : i < l.length := by omega
    have w := wrapIdx (i := i) (by omega)
    rw [List.drop_eq_getElem_cons hlt, maxL]
    have ih2 := ih (i + 1) (max a l[i]) (by omega)
    have hm : (if (a : Int) < (l[i] : Int) then (l[i] : Int) else (a : Int)) = ((max a l[i] : Nat) : Int) := by split <;> omega
    have hm2 : (if a < l[i] then (l[i] : Int) else (a : Int)) = ((max a l[i] : Nat) : Int) := by split <;> omega
    generalize R _ = Q at ih2 ⊢
    generalize max a l[i] = mx at *
    simp at ih2 w
    simp [go_sem, run_codeL E L90_0.eq_1, hlt, List.getElem?_eq_getElem hlt, encB, w, hm, hm2, purse_eq]
    rw [run_inLoop']
    simp [go_sem, purse_eq]
    exact ih2
theorem max_spec (x : Nat) (l : List Nat) (hl : l.length ≤ 100000) (nl fu : Bool) : call E (.func (.func 90) [] []) [.imm nl fu true ((x :: l).map encB)] [] = some (.lit (.int .u8 (maxL x l)), []) := by
  rw [call_func E E90]
  have h1 : ¬ ((l.length : Int) + 1 < 1) := by omega
  have h := fun k hk => max_loop (x :: l) (by simp; omega) nl fu k (fun n => some (.lit (.int .u8 n), [])) hk l.length 1 x (by simp; omega)
  simp at h
  simp [go_sem, ir90, h1, encB, purse_eq]
  rw [run_inLoop']
  simp [go_sem, purse_eq]
  simp [encB] at h
  refine h _ ?_
  intro τ n t3
  simp [go_sem, t3]
theorem ones10 : call E (.func (.func 96) [] []) [.imm false true true [[.lit (.int .i64 1)]], .lit (.int .i64 10)] [] = some (.own 0 10 1 0 10, [.arr true false false 1 (List.replicate 10 [.lit (.int .i64 1)])]) :=
  (call_iff E).2 ⟨400, by kernel_rfl⟩
end Go.AM.R1
open Go Go.AM
namespace Go.AM.R1
def slArrK (n sz : Nat) (H : Heap) : AVal → Option Nat → Option Nat → Option (AVal × Heap)
  | .ptr i k, some l, some h => if l ≤ h ∧ h ≤ n then some (.asl i (k + l * sz) sz (h - l), H) else none
  | _, _, _ => none
theorem aop_sliceArr {c : Callee} {ρ : Opd → AVal} {H : Heap} (n sz x lo hi) : aop c ρ H (.sliceArr n sz x lo hi) = slArrK n sz H (ρ x) (optNat ρ 0 lo) (optNat ρ n hi) := by
  simp only [aop]
  cases optNat ρ 0 lo with
  | none => cases ρ x <;> rfl
  | some l => cases optNat ρ n hi with
    | none => cases ρ x <;> rfl
    | some h => cases ρ x <;> rfl
theorem slArrK_ptr (n sz : Nat) (H : Heap) (i k l h : Nat) : slArrK n sz H (.ptr i k) (some l) (some h) = if l ≤ h ∧ h ≤ n then some (.asl i (k + l * sz) sz (h - l), H) else none := rfl
def appAslK (fl : Bool) (sz bytes : Nat) (H : Heap) (s : AVal) (k sa n : Nat) : Option Entry → Option (AVal × Heap)
  | some (.box cs) => if k + n * sa ≤ cs.length then aadd fl sz bytes H s (flatL cs) (chunks (cs.drop k) sa n) else none
  | _ => none
theorem aappend_asl (fl : Bool) (sz bytes : Nat) (H : Heap) (s : AVal) (i k sa n : Nat) : aappend fl sz bytes H s (.asl i k sa n) = appAslK fl sz bytes H s k sa n H[i]? := by
  simp only [aappend, content]
  cases H[i]? with
  | none => rfl
  | some e => cases e with
    | box cs =>
      simp only [appAslK]
      split <;> rfl
    | _ => rfl
theorem appAslK_box (fl : Bool) (sz bytes : Nat) (H : Heap) (s : AVal) (k sa n : Nat) (cs) : appAslK fl sz bytes H s k sa n (some (.box cs)) = if k + n * sa ≤ cs.length then aadd fl sz bytes H s (flatL cs) (chunks (cs.drop k) sa n) else none := rfl
attribute [go_sem] aop_sliceArr slArrK_ptr aappend_asl appAslK_box
/-! ### Which frames are right, and their levels -/
def Fr.bytes (f : Fr) : List Nat := [f.d0, f.d1, f.d2, f.d3, f.d4, f.d5, f.d6, f.d7]
structure Fr.Ok (f : Fr) : Prop where
  id1 : -9223372036854775808 ≤ f.id
  id2 : f.id ≤ 9223372036854775807
  len1 : -9223372036854775808 ≤ f.len
  len2 : f.len ≤ 9223372036854775807
  byte : ∀ c ∈ f.bytes, c < 256
def checkP (f : Fr) : Int :=
  if f.id < 0 ∨ (if f.ext = true then 536870911 else 2047) < f.id then 14
  else if f.len < 0 ∨ 8 < f.len then 14
  else if maxL 0 (f.bytes.drop (if f.rtr = true then 0 else f.len.toNat)) = 0 then 0 else 14
set_option maxHeartbeats 8000000 in
theorem fcheck_spec (f : Fr) : call E (.func (.func 53) [] []) [.agg (encFr f)] [] = some (.lit (.int .i64 (checkP f)), []) := by
  rw [call_func E E53]
  obtain ⟨id, ext, rtr, len, d0, d1, d2, d3, d4, d5, d6, d7⟩ := f
  by_cases h1 : id < 0
  · have : checkP ⟨id, ext, rtr, len, d0, d1, d2, d3, d4, d5, d6, d7⟩ = 14 := by unfold checkP; rw [if_pos (.inl h1)]
    rw [this]
    cases ext <;> cases rtr <;> simp [go_sem, ir53, encFr, u8v, h1, purse_eq, List.range_succ]
  · by_cases h2 : (if ext = true then 536870911 else 2047) < id
    · have : checkP ⟨id, ext, rtr, len, d0, d1, d2, d3, d4, d5, d6, d7⟩ = 14 := by unfold checkP; rw [if_pos (.inr h2)]
      rw [this]
      cases ext <;> cases rtr <;> simp at h2 <;> simp [go_sem, ir53, encFr, u8v, h1, h2, purse_eq, List.range_succ]
    · by_cases h3 : len < 0
      · have : checkP ⟨id, ext, rtr, len, d0, d1, d2, d3, d4, d5, d6, d7⟩ = 14 := by unfold checkP; rw [if_neg (by rintro (q | q); exact h1 q; exact h2 q), if_pos (.inl h3)]
        rw [this]
        have h2 : ¬ (if ext = true then 536870911 else 2047) < id := h2
        cases ext <;> cases rtr <;> simp at h2 <;> (have h2' := Int.not_lt.2 h2) <;> simp [go_sem, ir53, encFr, u8v, h1, h2', h3, purse_eq, List.range_succ]
      · by_cases h4 : 8 < len
        · have : checkP ⟨id, ext, rtr, len, d0, d1, d2, d3, d4, d5, d6, d7⟩ = 14 := by unfold checkP; rw [if_neg (by rintro (q | q); exact h1 q; exact h2 q), if_pos (.inr h4)]
          rw [this]
          cases ext <;> cases rtr <;> simp at h2 <;> (have h2' := Int.not_lt.2 h2) <;> simp [go_sem, ir53, encFr, u8v, h1, h2', h3, h4, purse_eq, List.range_succ]
        · have hc : checkP ⟨id, ext, rtr, len, d0, d1, d2, d3, d4, d5, d6, d7⟩ = if maxL 0 (([d0, d1, d2, d3, d4, d5, d6, d7] : List Nat).drop (if rtr = true then 0 else len.toNat)) = 0 then 0 else 14 := by unfold checkP; rw [if_neg (by rintro (q | q); exact h1 q; exact h2 q), if_neg (by rintro (q | q); exact h3 q; exact h4 q)]; rfl
          rw [hc]
          clear hc
          have hm := fun (l : List Nat) (hl : l.length ≤ 100000) (fu : Bool) => max_spec 0 l hl false fu
          cases rtr
          · have hcase : len = 0 ∨ len = 1 ∨ len = 2 ∨ len = 3 ∨ len = 4 ∨ len = 5 ∨ len = 6 ∨ len = 7 ∨ len = 8 := by omega
            rcases hcase with rfl | rfl | rfl | rfl | rfl | rfl | rfl | rfl | rfl
            · have hM := hm (([d0, d1, d2, d3, d4, d5, d6, d7] : List Nat).drop 0) (by simp) false
              simp [encB] at hM
              cases ext <;> simp at h2 <;> (have h2' := Int.not_lt.2 h2) <;> simp [go_sem, ir53, encFr, u8v, h1, h2', h3, h4, hM, chunks, rowsOk, purse_eq, List.range_succ] <;> (first | done | (generalize maxL 0 _ = mx at *; rcases Nat.eq_zero_or_pos mx with hz | hz; (simp [go_sem, hz, purse_eq]); (have hz' : ¬ mx = 0 := by omega); (simp [go_sem, hz, hz', purse_eq])))
            · have hM := hm (([d0, d1, d2, d3, d4, d5, d6, d7] : List Nat).drop 1) (by simp) false
              simp [encB] at hM
              cases ext <;> simp at h2 <;> (have h2' := Int.not_lt.2 h2) <;> simp [go_sem, ir53, encFr, u8v, h1, h2', h3, h4, hM, chunks, rowsOk, purse_eq, List.range_succ] <;> (first | done | (generalize maxL 0 _ = mx at *; rcases Nat.eq_zero_or_pos mx with hz | hz; (simp [go_sem, hz, purse_eq]); (have hz' : ¬ mx = 0 := by omega); (simp [go_sem, hz, hz', purse_eq])))
            · have hM := hm (([d0, d1, d2, d3, d4, d5, d6, d7] : List Nat).drop 2) (by simp) false
              simp [encB] at hM
              cases ext <;> simp at h2 <;> (have h2' := Int.not_lt.2 h2) <;> simp [go_sem, ir53, encFr, u8v, h1, h2', h3, h4, hM, chunks, rowsOk, purse_eq, List.range_succ] <;> (first | done | (generalize maxL 0 _ = mx at *; rcases Nat.eq_zero_or_pos mx with hz | hz; (simp [go_sem, hz, purse_eq]); (have hz' : ¬ mx = 0 := by omega); (simp [go_sem, hz, hz', purse_eq])))
            · have hM := hm (([d0, d1, d2, d3, d4, d5, d6, d7] : List Nat).drop 3) (by simp) false
              simp [encB] at hM
              cases ext <;> simp at h2 <;> (have h2' := Int.not_lt.2 h2) <;> simp [go_sem, ir53, encFr, u8v, h1, h2', h3, h4, hM, chunks, rowsOk, purse_eq, List.range_succ] <;> (first | done | (generalize maxL 0 _ = mx at *; rcases Nat.eq_zero_or_pos mx with hz | hz; (simp [go_sem, hz, purse_eq]); (have hz' : ¬ mx = 0 := by omega); (simp [go_sem, hz, hz', purse_eq])))
            · have hM := hm (([d0, d1, d2, d3, d4, d5, d6, d7] : List Nat).drop 4) (by simp) false
              simp [encB] at hM
              cases ext <;> simp at h2 <;> (have h2' := Int.not_lt.2 h2) <;> simp [go_sem, ir53, encFr, u8v, h1, h2', h3, h4, hM, chunks, rowsOk, purse_eq, List.range_succ] <;> (first | done | (generalize maxL 0 _ = mx at *; rcases Nat.eq_zero_or_pos mx with hz | hz; (simp [go_sem, hz, purse_eq]); (have hz' : ¬ mx = 0 := by omega); (simp [go_sem, hz, hz', purse_eq])))
            · have hM := hm (([d0, d1, d2, d3, d4, d5, d6, d7] : List Nat).drop 5) (by simp) false
              simp [encB] at hM
              cases ext <;> simp at h2 <;> (have h2' := Int.not_lt.2 h2) <;> simp [go_sem, ir53, encFr, u8v, h1, h2', h3, h4, hM, chunks, rowsOk, purse_eq, List.range_succ] <;> (first | done | (generalize maxL 0 _ = mx at *; rcases Nat.eq_zero_or_pos mx with hz | hz; (simp [go_sem, hz, purse_eq]); (have hz' : ¬ mx = 0 := by omega); (simp [go_sem, hz, hz', purse_eq])))
            · have hM := hm (([d0, d1, d2, d3, d4, d5, d6, d7] : List Nat).drop 6) (by simp) false
              simp [encB] at hM
              cases ext <;> simp at h2 <;> (have h2' := Int.not_lt.2 h2) <;> simp [go_sem, ir53, encFr, u8v, h1, h2', h3, h4, hM, chunks, rowsOk, purse_eq, List.range_succ] <;> (first | done | (generalize maxL 0 _ = mx at *; rcases Nat.eq_zero_or_pos mx with hz | hz; (simp [go_sem, hz, purse_eq]); (have hz' : ¬ mx = 0 := by omega); (simp [go_sem, hz, hz', purse_eq])))
            · have hM := hm (([d0, d1, d2, d3, d4, d5, d6, d7] : List Nat).drop 7) (by simp) false
              simp [encB] at hM
              cases ext <;> simp at h2 <;> (have h2' := Int.not_lt.2 h2) <;> simp [go_sem, ir53, encFr, u8v, h1, h2', h3, h4, hM, chunks, rowsOk, purse_eq, List.range_succ] <;> (first | done | (generalize maxL 0 _ = mx at *; rcases Nat.eq_zero_or_pos mx with hz | hz; (simp [go_sem, hz, purse_eq]); (have hz' : ¬ mx = 0 := by omega); (simp [go_sem, hz, hz', purse_eq])))
            · have hM := hm (([d0, d1, d2, d3, d4, d5, d6, d7] : List Nat).drop 8) (by simp) true
              simp [encB] at hM
              cases ext <;> simp at h2 <;> (have h2' := Int.not_lt.2 h2) <;> simp [go_sem, ir53, encFr, u8v, h1, h2', h3, h4, hM, chunks, rowsOk, purse_eq, List.range_succ] <;> (first | done | (generalize maxL 0 _ = mx at *; rcases Nat.eq_zero_or_pos mx with hz | hz; (simp [go_sem, hz, purse_eq]); (have hz' : ¬ mx = 0 := by omega); (simp [go_sem, hz, hz', purse_eq])))
          · have hM := hm (([d0, d1, d2, d3, d4, d5, d6, d7] : List Nat).drop 0) (by simp) false
            simp [encB] at hM
            cases ext <;> simp at h2 <;> (have h2' := Int.not_lt.2 h2) <;> simp [go_sem, ir53, encFr, u8v, h1, h2', h3, h4, hM, chunks, rowsOk, purse_eq, List.range_succ] <;> (first | done | (generalize maxL 0 _ = mx at *; rcases Nat.eq_zero_or_pos mx with hz | hz; (simp [go_sem, hz, purse_eq]); (have hz' : ¬ mx = 0 := by omega); (simp [go_sem, hz, hz', purse_eq])))
end Go.AM.R1
open Go Go.AM
namespace Go.AM.R1
def arbP (f : Fr) : List Bool :=
  if f.ext = true then bitsOf 11 (f.id.toNat / 262144) ++ [true, true] ++ bitsOf 18 f.id.toNat ++ [f.rtr] else bitsOf 11 f.id.toNat ++ [f.rtr, false]
theorem checkP_ok {f : Fr} (h : checkP f = 0) : 0 ≤ f.id ∧ f.id ≤ 536870911 ∧ (f.ext = false → f.id ≤ 2047) ∧ 0 ≤ f.len ∧ f.len ≤ 8 ∧ maxL 0 (f.bytes.drop (if f.rtr = true then 0 else f.len.toNat)) = 0 := by
  unfold checkP at h
  by_cases h1 : f.id < 0 ∨ (if f.ext = true then 536870911 else 2047) < f.id
  · rw [if_pos h1] at h; cases h
  · rw [if_neg h1] at h
    by_cases h2 : f.len < 0 ∨ 8 < f.len
    · rw [if_pos h2] at h; cases h
    · rw [if_neg h2] at h
      have a1 : ¬ f.id < 0 := fun q => h1 (.inl q)
      have a2 : ¬ (if f.ext = true then 536870911 else 2047) < f.id := fun q => h1 (.inr q)
      have a3 : ¬ f.len < 0 := fun q => h2 (.inl q)
      have a4 : ¬ 8 < f.len := fun q => h2 (.inr q)
      refine ⟨by omega, by split at a2 <;> omega, ?_, by omega, by omega, ?_⟩
      · intro q
        rw [q] at a2
        simp at a2; omega
      · by_cases h3 : maxL 0 (f.bytes.drop (if f.rtr = true then 0 else f.len.toNat)) = 0
        · exact h3
        · rw [if_neg h3] at h; cases h
theorem lvl_spec (b : Bool) : call E (.func (.func 151) [] []) [.lit (.bool b)] [] = some (.lit (.int .i64 (lv b)), []) := by
  rw [call_func E E151]
  cases b <;> simp [go_sem, ir151, lv]
theorem farb_err (f : Fr) (h : checkP f ≠ 0) : call E (.func (.func 125) [] []) [.agg (encFr f)] [] = some (.tup [nilS, .lit (.int .i64 (checkP f))], []) := by
  rw [call_func E E125]
  have hC := fcheck_spec f
  generalize checkP f = c at *
  simp [encFr, u8v] at hC
  simp [go_sem, ir125, encFr, u8v, hC, h, nilS, purse_eq, List.range_succ]
theorem farb_spec (f : Fr) (h : checkP f = 0) : call E (.func (.func 125) [] []) [.agg (encFr f)] [] = some (.tup [.own 0 (arbP f).length 1 0 (arbP f).length, .lit (.int .i64 0)], [.arr true false false 1 ((arbP f).map encLv)]) := by
  rw [call_func E E125]
  have hC := fcheck_spec f
  rw [h] at hC
  obtain ⟨c1, c2, c3, c4, c5, c6⟩ := checkP_ok h
  have hl := lvl_spec f.rtr
  obtain ⟨n, hn⟩ := Int.eq_ofNat_of_zero_le c1
  have wn : IntKind.wrap .u64 (n : Int) = n := wrap_u64 (by omega)
  cases hx : f.ext
  · have e : arbP f = bitsOf 11 n ++ [f.rtr, false] := by unfold arbP; rw [hx, hn]; rfl
    have hb := bof_spec n 11 (by omega) (by omega)
    have hlen := bitsOf_length 11 n
    have hr : rowsOk 1 ((bitsOf 11 n).map encLv) = true := rowsLv _
    rw [e]
    generalize bitsOf 11 n = B at *
    simp [encFr, u8v, hx, hn] at hC hb
    simp [go_sem, ir125, encFr, u8v, hC, hx, hn, hl, wn, hb, hlen, hr, encLv, show lv false = 0 from rfl, rowsOk, nilS, purse_eq, List.range_succ]
  · have e : arbP f = bitsOf 11 (n / 262144) ++ [true, true] ++ bitsOf 18 n ++ [f.rtr] := by unfold arbP; rw [hx, hn]; rfl
    have hb := bof_spec (n / 262144) 11 (by omega) (by omega)
    have hb2 := bof_spec n 18 (by omega) (by omega)
    have hlen := bitsOf_length 11 (n / 262144)
    have hlen2 := bitsOf_length 18 n
    have hne1 : bitsOf 11 (n / 262144) ≠ [] := by intro q; rw [q] at hlen; simp at hlen
    have hne2 : bitsOf 18 n ≠ [] := by intro q; rw [q] at hlen2; simp at hlen2
    have hfd : (n : Int).fdiv 262144 = ((n / 262144 : Nat) : Int) := by rw [Int.fdiv_eq_ediv_of_nonneg _ (by omega)]; simp
    have hr : rowsOk 1 ((bitsOf 11 (n / 262144)).map encLv) = true := rowsLv _
    have hr2 : rowsOk 1 ((bitsOf 18 n).map encLv) = true := rowsLv _
    have hCC := concatL4 (bitsOf 11 (n / 262144)) [true, true] (bitsOf 18 n) [f.rtr] hne1 (by simp) hne2 (by simp) (by simp; omega) true false false false true false false false true
    rw [e]
    generalize bitsOf 11 (n / 262144) = B at *
    generalize bitsOf 18 n = B2 at *
    generalize n / 262144 = nq at *
    have c11 : cutE (B.map encLv) 0 11 = B.map encLv := cutE_whole (by simp [hlen])
    have c18 : cutE (B2.map encLv) 0 18 = B2.map encLv := cutE_whole (by simp [hlen2])
    simp [encFr, u8v, hx, hn] at hC hb hb2
    simp [encLv, hlen, hlen2, show lv true = 1 from rfl] at hCC
    simp [go_sem, ir125, encFr, u8v, hC, hx, hn, hl, wn, hfd, hb, hb2, hlen, hlen2, hr, hr2, c11, c18, hCC, encLv, show lv true = 1 from rfl, rowsOk, nilS, purse_eq, List.range_succ]
end Go.AM.R1
open Go Go.AM
namespace Go.AM.R1
/-! ### All levels of a frame -/
theorem put_spec4 (n w : Nat) (hn : n < 18446744073709551616) (hw : w ≤ 64) (hw0 : w ≠ 0) (X : List Bool) (hX : X.length ≤ 1000000) (lk : Bool) :
    call E (.func (.func 126) [] [.ptr 0 0, .ptr 1 0]) [.lit (.int .u64 n), .lit (.int .i64 w)] [.box [.lit (.int .i64 0)], .box [.own 2 X.length 1 0 X.length], .arr true lk false 1 (X.map encLv)]
      = some (.tup [], [.box [.lit (.int .i64 0)], .box [.own 2 (X ++ bitsOf w n).length 1 0 (X ++ bitsOf w n).length], .arr true lk false 1 ((X ++ bitsOf w n).map encLv)]) := by
  rw [call_func E E126]
  have hb := bof_spec n w hn hw
  have hlen := bitsOf_length w n
  have hr := rowsLv (bitsOf w n)
  have hr2 := rowsLv X
  have hsz : ¬ (70368744177664 < (X.length + w) * 8) := by omega
  generalize bitsOf w n = B at *
  have hcw : cutE (B.map encLv) 0 w = B.map encLv := cutE_whole (by simp [hlen])
  have hB0 : B ≠ [] := by intro q; rw [q] at hlen; simp at hlen; omega
  simp [go_sem, ir126, hb, hlen, hr, hr2, hsz, hcw, hw0, hB0, purse_eq, List.range_succ]
def bytesP (bs : List Nat) : List Bool := bs.flatMap fun c => bitsOf 8 c
theorem bits_loop4 (cs : List AVal) (hcr : refsL cs = []) (bs : List Nat) (hb : ∀ c ∈ bs, c < 256) (hb8 : bs.length ≤ 8) (hcs : ∀ (i : Nat) (h : i < bs.length), cs[4 + i]? = some (u8v bs[i])) (k : List Item) (R : List Bool → Option (AVal × Heap))
    (hk : ∀ τ X, lk 6 τ = .ptr 3 0 → lk 7 τ = .ptr 4 0 → finK 0 [.tmp 2, .tmp 3] (run E 0 k τ [.box cs, .dead, .arr true false false 1 (X.map encLv), .box [.own 2 X.length 1 0 X.length], .box [.lit (.int .i64 0)]]) = R X) :
    ∀ (d i : Nat) (X : List Bool), i + d = bs.length → X.length ≤ 100 + 8 * i →
   finK 0 [.tmp 2, .tmp 3] (run E 0 (.code L92_0 :: .inLoop [6, 7, 8, 39, 40, 41] L92_0 :: .inBlock 0 :: k) [(6, .ptr 3 0), (7, .ptr 4 0), (8, .func (.func 126) [] [.ptr 4 0, .ptr 3 0]), (39, .asl 0 4 1 bs.length), (40, .lit (.int .i64 bs.length)), (41, .lit (.int .i64 i))] [.box cs, .dead, .arr true false false 1 (X.map encLv), .box [.own 2 X.length 1 0 X.length], .box [.lit (.int .i64 0)]]) = R (X ++ bytesP (bs.drop i)) := by
  intro d
  induction d with
  | zero =>
    intro i X hi hX
    have : i = bs.length := by omega
    subst this
    rw [List.drop_length, show bytesP [] = [] from rfl, List.append_nil]
    simp [go_sem, run_codeL E L92_0.eq_1]
    exact hk _ X rfl rfl
  | succ d ih =>
    intro i X hi hX
    have hlt : i < bs.length := by omega
    have w := wrapIdx (i := i) (by omega)
    have hlen := bitsOf_length 8 bs[i]
    have hbi := hb _ (List.getElem_mem hlt)
    have wu : IntKind.wrap .u64 (bs[i] : Int) = bs[i] := wrap_u64 (by omega)
    rw [List.drop_eq_getElem_cons hlt, show bytesP (bs[i] :: bs.drop (i + 1)) = bitsOf 8 bs[i] ++ bytesP (bs.drop (i + 1)) from rfl, ← List.append_assoc]
    have ih2 := ih (i + 1) (X ++ bitsOf 8 bs[i]) (by omega) (by rw [List.length_append, hlen]; omega)
    have hP := put_spec4 bs[i] 8 (by omega) (by omega) (by omega) X (by omega) false
    have hc := hcs i hlt
    generalize R _ = Q at ih2 ⊢
    generalize X ++ bitsOf 8 bs[i] = X2 at *
    generalize bs[i] = c at *
    simp only [u8v] at hc
    simp at ih2 w hP
    simp [go_sem, run_codeL E L92_0.eq_1, hlt, w, hcr, wu, hP, hc, purse_eq, List.range_succ]
    rw [run_inLoop']
    simp [go_sem, hcr, purse_eq, List.range_succ]
    exact ih2
def bitsP (f : Fr) : List Bool := [false] ++ arbP f ++ bitsOf (if f.ext = true then 6 else 5) f.len.toNat ++ (if f.rtr = true then [] else bytesP (f.bytes.take f.len.toNat))
theorem arbP_length (f : Fr) : (arbP f).length = if f.ext = true then 32 else 13 := by
  unfold arbP; split <;> simp [bitsOf_length]
theorem fbits_err (f : Fr) (h : checkP f ≠ 0) : call E (.func (.func 92) [] []) [.agg (encFr f)] [] = some (.tup [nilS, .lit (.int .i64 (checkP f))], []) := by
  rw [call_func E E92]
  have hA := farb_err f h
  generalize checkP f = c at *
  simp [encFr, u8v, nilS] at hA
  simp [go_sem, ir92, encFr, u8v, hA, h, nilS, purse_eq, List.range_succ]
set_option maxHeartbeats 2000000 in
theorem fbits_spec (f : Fr) (hf : f.Ok) (h : checkP f = 0) : call E (.func (.func 92) [] []) [.agg (encFr f)] [] = some (.tup [.own 0 (bitsP f).length 1 0 (bitsP f).length, .lit (.int .i64 0)], [.arr true false false 1 ((bitsP f).map encLv)]) := by
  rw [call_func E E92]
  have hA := farb_spec f h
  obtain ⟨c1, c2, c3, c4, c5, c6⟩ := checkP_ok h
  obtain ⟨n, hn⟩ := Int.eq_ofNat_of_zero_le c4
  have wn : IntKind.wrap .u64 (n : Int) = n := wrap_u64 (by omega)
  have hal := arbP_length f
  have hr := rowsLv (arbP f)
  have hane : arbP f ≠ [] := by intro q; rw [q] at hal; simp at hal; split at hal <;> omega
  have hsz : ¬ (70368744177664 < (1 + (arbP f).length) * 8) := by rw [hal]; split <;> omega
  have hsz2 : ¬ (70368744177664 < ((arbP f).length + 1) * 8) := by rw [hal]; split <;> omega
  have hP := put_spec4 n (if f.ext = true then 6 else 5) (by omega) (by split <;> omega) (by split <;> omega) ([false] ++ arbP f) (by simp; rw [hal]; split <;> omega) false
  have hbl : ([false] ++ arbP f ++ bitsOf (if f.ext = true then 6 else 5) n).length ≤ 100 := by simp [bitsOf_length, hal]; split <;> omega
  have hcsl : ∀ (bs : List Nat), bs = f.bytes.take n → ∀ (i : Nat) (hi : i < bs.length), (encFr f)[4 + i]? = some (u8v bs[i]) := by
    intro bs e i hi
    subst e
    have hi8 : i < 8 := by simp [Fr.bytes] at hi; omega
    rw [List.getElem_take]
    have : i = 0 ∨ i = 1 ∨ i = 2 ∨ i = 3 ∨ i = 4 ∨ i = 5 ∨ i = 6 ∨ i = 7 := by omega
    rcases this with rfl | rfl | rfl | rfl | rfl | rfl | rfl | rfl <;> rfl
  have hcs := hcsl _ rfl
  have hbt : (f.bytes.take n).length = n := by simp [Fr.bytes]; omega
  have e : bitsP f = [false] ++ arbP f ++ bitsOf (if f.ext = true then 6 else 5) n ++ (if f.rtr = true then [] else bytesP (f.bytes.take n)) := by unfold bitsP; rw [hn]; rfl
  have hnl : n ≤ 8 := by omega
  rw [e]
  have hloop := fun k hk => bits_loop4 (encFr f) rfl (f.bytes.take n) (fun c hc => hf.byte c (List.mem_of_mem_take hc)) (by omega) hcs k (fun X => some (.tup [.own 0 X.length 1 0 X.length, .lit (.int .i64 0)], [.arr true false false 1 (X.map encLv)])) hk n 0 ([false] ++ arbP f ++ bitsOf (if f.ext = true then 6 else 5) n) (by omega) (by omega)
  rw [hbt, List.drop_zero] at hloop
  clear hcs hcsl hbt
  generalize f.bytes.take n = bs at *
  have hr1 : rowsOk 1 [[AVal.lit (.int .i64 0)]] = true := rfl
  have hcm : 1 + (arbP f).length = (arbP f).length + 1 := Nat.add_comm _ _
  cases hrt : f.rtr
  · simp only [Bool.false_eq_true, if_false]
    cases hx : f.ext
    · simp only [hx, Bool.false_eq_true, if_false, if_true] at hP hloop ⊢
      generalize hX : [false] ++ arbP f ++ bitsOf 5 n = X at *
      simp [encFr, u8v, hx, hrt, hn, encLv, hcm, show lv false = 0 from rfl] at hA hP
      simp [go_sem, ir92, encFr, u8v, hA, hx, hrt, hn, wn, hr, hane, hsz, hsz2, hP, hnl, hr1, hcm, show IntKind.wrap .i64 5 = 5 from rfl, show IntKind.wrap .i64 6 = 6 from rfl, nilS, purse_eq, List.range_succ]
      rw [run_inLoop']
      simp [go_sem, purse_eq, List.range_succ]
      simp [encFr, u8v, hx, hrt, hn] at hloop
      refine hloop _ ?_
      intro τ Y t6 t7
      simp [go_sem, t6, t7, purse_eq, List.range_succ]
    · simp only [hx, Bool.false_eq_true, if_false, if_true] at hP hloop ⊢
      generalize hX : [false] ++ arbP f ++ bitsOf 6 n = X at *
      simp [encFr, u8v, hx, hrt, hn, encLv, hcm, show lv false = 0 from rfl] at hA hP
      simp [go_sem, ir92, encFr, u8v, hA, hx, hrt, hn, wn, hr, hane, hsz, hsz2, hP, hnl, hr1, hcm, show IntKind.wrap .i64 5 = 5 from rfl, show IntKind.wrap .i64 6 = 6 from rfl, nilS, purse_eq, List.range_succ]
      rw [run_inLoop']
      simp [go_sem, purse_eq, List.range_succ]
      simp [encFr, u8v, hx, hrt, hn] at hloop
      refine hloop _ ?_
      intro τ Y t6 t7
      simp [go_sem, t6, t7, purse_eq, List.range_succ]
  · simp only [if_true, List.append_nil]
    cases hx : f.ext
    · simp only [hx, Bool.false_eq_true, if_false, if_true] at hP hloop ⊢
      generalize hX : [false] ++ arbP f ++ bitsOf 5 n = X at *
      simp [encFr, u8v, hx, hrt, hn, encLv, hcm, show lv false = 0 from rfl] at hA hP
      simp [go_sem, ir92, encFr, u8v, hA, hx, hrt, hn, wn, hr, hane, hsz, hsz2, hP, hnl, hr1, hcm, show IntKind.wrap .i64 5 = 5 from rfl, show IntKind.wrap .i64 6 = 6 from rfl, nilS, purse_eq, List.range_succ]
    · simp only [hx, Bool.false_eq_true, if_false, if_true] at hP hloop ⊢
      generalize hX : [false] ++ arbP f ++ bitsOf 6 n = X at *
      simp [encFr, u8v, hx, hrt, hn, encLv, hcm, show lv false = 0 from rfl] at hA hP
      simp [go_sem, ir92, encFr, u8v, hA, hx, hrt, hn, wn, hr, hane, hsz, hsz2, hP, hnl, hr1, hcm, show IntKind.wrap .i64 5 = 5 from rfl, show IntKind.wrap .i64 6 = 6 from rfl, nilS, purse_eq, List.range_succ]
end Go.AM.R1
open Go Go.AM
namespace Go.AM.R1
theorem bytesP_length : ∀ bs : List Nat, (bytesP bs).length = 8 * bs.length
  | [] => rfl
  | c :: bs => by
    show (bitsOf 8 c ++ bytesP bs).length = _
    rw [List.length_append, bitsOf_length, bytesP_length bs, List.length_cons]; omega
theorem bitsP_length (f : Fr) : (bitsP f).length ≤ 103 ∧ 19 ≤ (bitsP f).length := by
  unfold bitsP
  have h : (f.bytes.take f.len.toNat).length ≤ 8 := by simp [Fr.bytes]; omega
  have h2 := bytesP_length (f.bytes.take f.len.toNat)
  simp only [List.length_append, arbP_length, bitsOf_length, List.length_singleton]
  constructor
  · split <;> split <;> simp <;> omega
  · split <;> split <;> simp <;> omega
def allP (f : Fr) : List Bool := bitsP f ++ bitsOf 15 (c15L (bitsP f)) ++ List.replicate 10 true
theorem fall_err (f : Fr) (h : checkP f ≠ 0) : call E (.func (.func 58) [] []) [.agg (encFr f)] [] = some (.tup [nilS, .lit (.int .i64 (checkP f))], []) := by
  rw [call_func E E58]
  have hA := fbits_err f h
  generalize checkP f = c at *
  simp [encFr, u8v, nilS] at hA
  simp [go_sem, ir58, encFr, u8v, hA, h, nilS, purse_eq, List.range_succ]
theorem fall_spec (f : Fr) (hf : f.Ok) (h : checkP f = 0) : call E (.func (.func 58) [] []) [.agg (encFr f)] [] = some (.tup [.own 0 (allP f).length 1 0 (allP f).length, .lit (.int .i64 0)], [.arr true false false 1 ((allP f).map encLv)]) := by
  rw [call_func E E58]
  have hB := fbits_spec f hf h
  obtain ⟨hl1, hl2⟩ := bitsP_length f
  have hS := csum_spec (bitsP f) (by omega) false false
  have hBt := cbits_spec (c15L (bitsP f)) (c15L_lt _)
  have hO := ones10
  have hbl := bitsOf_length 15 (c15L (bitsP f))
  have hne : bitsP f ≠ [] := by intro q; rw [q] at hl2; simp at hl2
  have hne2 : bitsOf 15 (c15L (bitsP f)) ≠ [] := by intro q; rw [q] at hbl; simp at hbl
  have hC := concatL3 (bitsP f) (bitsOf 15 (c15L (bitsP f))) (List.replicate 10 true) hne hne2 (by simp) (by simp; omega) true false false false false false false
  unfold allP
  generalize bitsOf 15 (c15L (bitsP f)) = S at *
  generalize c15L (bitsP f) = s at *
  generalize bitsP f = B at *
  have c15 : cutE (S.map encLv) 0 15 = S.map encLv := cutE_whole (by simp [hbl])
  have hr := List.map_replicate (f := encLv) (n := 10) (a := true)
  rw [hr] at hC
  rw [show encLv true = [.lit (.int .i64 1)] from rfl] at hC
  generalize hRR : List.replicate 10 [AVal.lit (.int .i64 1)] = RR at *
  have hRl : RR.length = 10 := by rw [← hRR]; simp
  have c10 : cutE RR 0 10 = RR := cutE_whole hRl
  simp [encFr, u8v, nilS] at hB
  simp [hbl, hRR] at hC
  simp [go_sem, ir58, encFr, u8v, hB, hS, hBt, hO, hC, hbl, c15, c10, hRl, nilS, purse_eq, List.range_succ]
/-! ### Levels that are added -/
def tellR (out : List Bool) (run : Nat) (b : Bool) : Nat := if out.getLast? = some b then run + 1 else 1
def addS (out : List Bool) (run : Nat) : List Bool → List Bool
  | [] => out
  | x :: l => if tellR out run x = 5 then addS (out ++ [x, !x]) 1 l else addS (out ++ [x]) (tellR out run x) l
theorem tell_spec (out : List Bool) (ho : out.length ≤ 1000000) (run : Nat) (hr : run ≤ 1000000) (b : Bool) :
    call E (.func (.func 98) [] [.ptr 0 0, .ptr 2 0]) [.lit (.int .i64 (lv b))] [.box [.own 1 out.length 1 0 out.length], .arr true false false 1 (out.map encLv), .box [.lit (.int .i64 run)]]
      = some (.lit (.bool (decide (tellR out run b = 5))), [.box [.own 1 (out ++ [b]).length 1 0 (out ++ [b]).length], .arr true false false 1 ((out ++ [b]).map encLv), .box [.lit (.int .i64 (tellR out run b))]]) := by
  rw [call_func E E98]
  have w1 : IntKind.wrap .i64 ((run : Int) + 1) = run + 1 := wrap64 (by omega) (by omega)
  have hsz : ¬ (70368744177664 < (out.length + 1) * 8) := by omega
  have hrl := rowsLv out
  have hr1 : ∀ x, rowsOk 1 [[AVal.lit (.int .i64 x)]] = true := fun _ => rfl
  rcases List.eq_nil_or_concat out with rfl | ⟨o, c, rfl⟩
  · simp [go_sem, ir98, tellR, hr1, encLv, nilS, purse_eq, List.range_succ]
  · rw [List.concat_eq_append] at *
    have hg : (o ++ [c]).getLast? = some c := by simp
    have w2 : IntKind.wrap .i64 (((o ++ [c]).length : Int) - 1) = (o.length : Int) := by rw [wrap64 (by omega) (by omega)]; simp
    have hgi : ((o ++ [c]).map encLv)[o.length]? = some (encLv c) := by simp
    have hgl : o.length < (o ++ [c]).length := by simp
    have hpos : (0 : Int) < ((o ++ [c]).length : Int) := by simp
    have hpos' : 0 < (o ++ [c]).length := by simp
    have hml : ((o ++ [c]).map encLv).length = (o ++ [c]).length := by simp
    have hge : ∀ h : o.length < ((o ++ [c]).map encLv).length, ((o ++ [c]).map encLv)[o.length]'h = encLv c := fun h => Option.some.inj ((List.getElem?_eq_getElem h).symm.trans hgi)
    unfold tellR
    rw [hg]
    have hmb : (o ++ [c] ++ [b]).map encLv = (o ++ [c]).map encLv ++ [encLv b] := by simp
    have hlb : (o ++ [c] ++ [b]).length = (o ++ [c]).length + 1 := by simp
    rw [hmb, hlb]
    generalize hB : (o ++ [c]).map encLv = B at *
    generalize hN : (o ++ [c]).length = N at *
    by_cases hcb : c = b
    · subst hcb
      have hlv : encLv c = [.lit (.int .i64 (lv c))] := rfl
      by_cases h5 : run + 1 = 5
      · have h5i : (run : Int) + 1 = 5 := by omega
        simp [go_sem, ir98, hr1, hlv, w1, w2, hgi, hgl, hml, hpos, hpos', hge, h5, h5i, show IntKind.wrap .i64 5 = 5 from rfl, hrl, hsz, nilS, purse_eq, List.range_succ]
      · have h5i : ¬ (run : Int) + 1 = 5 := by omega
        simp [go_sem, ir98, hr1, hlv, w1, w2, hgi, hgl, hml, hpos, hpos', hge, h5, h5i, hrl, hsz, nilS, purse_eq, List.range_succ]
    · have hlv : encLv c = [.lit (.int .i64 (lv c))] := rfl
      have hlv2 : encLv b = [.lit (.int .i64 (lv b))] := rfl
      have hne : ¬ lv c = lv b := by cases c <;> cases b <;> simp_all [lv]
      simp [go_sem, ir98, hr1, hlv, hlv2, w1, w2, hgi, hgl, hml, hpos, hpos', hge, hcb, hne, hrl, hsz, nilS, purse_eq, List.range_succ]
theorem other_spec (b : Bool) : call E (.func (.func 99) [] []) [.lit (.int .i64 (lv b))] [] = some (.lit (.int .i64 (lv (!b))), []) := by
  rw [call_func E E99]
  cases b <;> simp [go_sem, ir99, lv] <;> rfl
theorem tellR_le (out : List Bool) (run : Nat) (b : Bool) : tellR out run b ≤ run + 1 := by unfold tellR; split <;> omega
theorem tellR_other (out : List Bool) (run : Nat) (b : Bool) : tellR (out ++ [b]) run (!b) = 1 := by
  unfold tellR; rw [if_neg (by simp)]
theorem add_loop5 (m : List Bool) (hl : m.length ≤ 100000) (nl fu : Bool) (k : List Item) (R : List Bool → Option (AVal × Heap))
    (hk : ∀ τ (out : List Bool) (rn : Nat), lk 3 τ = .ptr 1 0 → finK 0 [.tmp 2] (run E 0 k τ [.arr true false false 1 (out.map encLv), .box [.own 0 out.length 1 0 out.length], .box [.lit (.int .i64 rn)]]) = R out) :
    ∀ (d i : Nat) (out : List Bool) (rn : Nat), i + d = m.length → out.length ≤ 2 * i → rn ≤ 4 →
   finK 0 [.tmp 2] (run E 0 (.code L59_0 :: .inLoop [3, 5, 19, 20, 21] L59_0 :: .inBlock 0 :: k) [(3, .ptr 1 0), (5, .func (.func 98) [] [.ptr 1 0, .ptr 2 0]), (19, .imm nl fu true (m.map encLv)), (20, .lit (.int .i64 m.length)), (21, .lit (.int .i64 i))] [.arr true false false 1 (out.map encLv), .box [.own 0 out.length 1 0 out.length], .box [.lit (.int .i64 rn)]]) = R (addS out rn (m.drop i)) := by
  intro d
  induction d with
  | zero =>
    intro i out rn hi ho hrn
    have : i = m.length := by omega
    subst this
    rw [List.drop_length, addS]
    simp [go_sem, run_codeL E L59_0.eq_1]
    exact hk _ out rn rfl
  | succ d ih =>
    intro i out rn hi ho hrn
    have hlt : i < m.length := by omega
    have w := wrapIdx (i := i) (by omega)
    have hT := tell_spec out (by omega) rn (by omega) m[i]
    have hle := tellR_le out rn m[i]
    rw [List.drop_eq_getElem_cons hlt, addS]
    by_cases h5 : tellR out rn m[i] = 5
    · rw [if_pos h5]
      have hO := other_spec m[i]
      have hT2 := tell_spec (out ++ [m[i]]) (by simp; omega) 5 (by omega) (!m[i])
      rw [tellR_other, List.append_assoc, show [m[i]] ++ [!m[i]] = [m[i], !m[i]] from rfl] at hT2
      have ih2 := ih (i + 1) (out ++ [m[i], !m[i]]) 1 (by omega) (by simp; omega) (by omega)
      generalize R _ = Q at ih2 ⊢
      generalize out ++ [m[i], !m[i]] = out2 at *
      rw [h5] at hT
      generalize out ++ [m[i]] = out1 at *
      simp at ih2 w hT hT2
      simp [go_sem, run_codeL E L59_0.eq_1, hlt, List.getElem?_eq_getElem hlt, encLv, w, hT, hO, hT2, purse_eq, List.range_succ]
      rw [run_inLoop']
      simp [go_sem, purse_eq, List.range_succ]
      exact ih2
    · rw [if_neg h5]
      have ih2 := ih (i + 1) (out ++ [m[i]]) (tellR out rn m[i]) (by omega) (by simp; omega) (by omega)
      generalize R _ = Q at ih2 ⊢
      generalize out ++ [m[i]] = out1 at *
      generalize tellR out rn m[i] = r1 at *
      have hlg : (m.map encLv)[i]? = some (encLv m[i]) := by rw [List.getElem?_map, List.getElem?_eq_getElem hlt]; rfl
      simp [h5] at ih2 w hT
      simp [go_sem, run_codeL E L59_0.eq_1, hlt, List.getElem?_eq_getElem hlt, encLv, w, hT, purse_eq, List.range_succ]
      rw [run_inLoop']
      simp [go_sem, purse_eq, List.range_succ]
      exact ih2
def stuffP (m : List Bool) : List Bool := addS [] 0 m
theorem addS_len : ∀ (m out : List Bool) (rn : Nat), (addS out rn m).length ≤ out.length + 2 * m.length
  | [], out, rn => by simp [addS]
  | x :: m, out, rn => by
    rw [addS]
    split
    · have := addS_len m (out ++ [x, !x]) 1
      simp at this ⊢; omega
    · have := addS_len m (out ++ [x]) (tellR out rn x)
      simp at this ⊢; omega
theorem add_spec5 (m : List Bool) (hl : m.length ≤ 100000) (nl fu : Bool) : call E (.func (.func 59) [] []) [.imm nl fu true (m.map encLv)] [] = some (.own 0 (stuffP m).length 1 0 (stuffP m).length, [.arr true false false 1 ((stuffP m).map encLv)]) := by
  rw [call_func E E59]
  have hc := check_lv m (by omega) nl fu
  have wq : IntKind.wrap .i64 ((m.length : Int).tdiv 4) = ((m.length / 4 : Nat) : Int) := by rw [Int.tdiv_eq_ediv_of_nonneg (by omega), wrap64 (by omega) (by omega)]; omega
  have wq' : IntKind.wrap .i64 ((m.length : Int) / 4) = ((m.length / 4 : Nat) : Int) := by rw [wrap64 (by omega) (by omega)]; omega
  have ws : IntKind.wrap .i64 ((m.length : Int) + ((m.length / 4 : Nat) : Int)) = ((m.length + m.length / 4 : Nat) : Int) := by rw [wrap64 (by omega) (by omega)]; omega
  have hb1 : ((m.length + m.length / 4 : Nat) : Int) ≤ 70368744177664 := by omega
  have hb2 : ((m.length + m.length / 4 : Nat) : Int) * 8 ≤ 70368744177664 := by omega
  have hloop := fun k hk => add_loop5 m hl nl fu k (fun out => some (.own 0 out.length 1 0 out.length, [.arr true false false 1 (out.map encLv)])) hk m.length 0 [] 0 (by omega) (by simp) (by omega)
  rw [List.drop_zero, show addS [] 0 m = stuffP m from rfl] at hloop
  generalize stuffP m = S at *
  generalize m.length + m.length / 4 = q at *
  generalize m.length / 4 = q4 at *
  simp at hloop
  simp [go_sem, ir59, hc, wq, wq', ws, hb1, hb2, nilS, purse_eq, List.range_succ]
  rw [run_inLoop']
  simp [go_sem, purse_eq, List.range_succ]
  refine hloop _ ?_
  intro τ out rn t3
  simp [go_sem, t3, purse_eq, List.range_succ]
/-! ### A frame on the bus -/
def rowP (f : Fr) : List Bool := stuffP (bitsP f ++ bitsOf 15 (c15L (bitsP f))) ++ List.replicate 10 true
def encodeP (f : Fr) (ack : Bool) : List Bool := if ack = true then (rowP f).set ((rowP f).length - 9) false else rowP f
theorem encode_err (f : Fr) (h : checkP f ≠ 0) (ack : Bool) : call E (.func (.func 13) [] []) [.agg (encFr f), .lit (.bool ack)] [] = some (.tup [nilS, .lit (.int .i64 (checkP f))], []) := by
  rw [call_func E E13]
  have hA := fall_err f h
  generalize checkP f = c at *
  simp [encFr, u8v, nilS] at hA
  simp [go_sem, ir13, encFr, u8v, hA, h, nilS, purse_eq, List.range_succ]
theorem encode_spec (f : Fr) (hf : f.Ok) (h : checkP f = 0) (ack : Bool) : call E (.func (.func 13) [] []) [.agg (encFr f), .lit (.bool ack)] [] = some (.tup [.own 0 (encodeP f ack).length 1 0 (encodeP f ack).length, .lit (.int .i64 0)], [.arr true false false 1 ((encodeP f ack).map encLv)]) := by
  rw [call_func E E13]
  have hA := fall_spec f hf h
  obtain ⟨hl1, hl2⟩ := bitsP_length f
  have hbl := bitsOf_length 15 (c15L (bitsP f))
  have hlen : (allP f).length = (bitsP f ++ bitsOf 15 (c15L (bitsP f))).length + 10 := by unfold allP; simp; omega
  have hlen2 : (bitsP f ++ bitsOf 15 (c15L (bitsP f))).length ≤ 118 := by simp; omega
  have htk : List.take (bitsP f ++ bitsOf 15 (c15L (bitsP f))).length ((allP f).map encLv) = (bitsP f ++ bitsOf 15 (c15L (bitsP f))).map encLv := by
    unfold allP; rw [List.map_append, ← List.length_map (f := encLv), List.take_left]
  have hdk : List.drop (bitsP f ++ bitsOf 15 (c15L (bitsP f))).length ((allP f).map encLv) = (List.replicate 10 true).map encLv := by
    unfold allP; rw [List.map_append, ← List.length_map (f := encLv), List.drop_left]
  have hAd := add_spec5 (bitsP f ++ bitsOf 15 (c15L (bitsP f))) (by omega) false false
  have hsl := addS_len (bitsP f ++ bitsOf 15 (c15L (bitsP f))) [] 0
  rw [show addS [] 0 (bitsP f ++ bitsOf 15 (c15L (bitsP f))) = stuffP (bitsP f ++ bitsOf 15 (c15L (bitsP f))) from rfl] at hsl
  have hrow : rowP f = stuffP (bitsP f ++ bitsOf 15 (c15L (bitsP f))) ++ List.replicate 10 true := rfl
  unfold encodeP
  rw [hrow]
  generalize stuffP (bitsP f ++ bitsOf 15 (c15L (bitsP f))) = S at *
  generalize bitsP f ++ bitsOf 15 (c15L (bitsP f)) = B at *
  generalize allP f = A at *
  have hct : cutE (A.map encLv) 0 B.length = B.map encLv := by unfold cutE; simp only [Nat.zero_add, List.drop_zero]; exact htk
  have hcd : cutE (A.map encLv) B.length (A.length - B.length) = (List.replicate 10 true).map encLv := by unfold cutE; rw [Nat.add_sub_cancel' (by omega), List.take_of_length_le (by simp)]; exact hdk
  rw [List.map_replicate, show encLv true = [.lit (.int .i64 1)] from rfl] at hcd
  have w1 : IntKind.wrap .i64 ((A.length : Int) - 10) = (B.length : Int) := by rw [wrap64 (by omega) (by omega)]; omega
  have hle : B.length ≤ A.length := by omega
  have hsub : A.length - B.length = 10 := by omega
  have hrS := rowsLv S
  have hr10 : rowsOk 1 (List.replicate 10 [AVal.lit (.int .i64 1)]) = true := rfl
  have hsz : ¬ (70368744177664 < (S.length + 10) * 8) := by simp at hsl; omega
  have hmap : (S ++ List.replicate 10 true).map encLv = S.map encLv ++ List.replicate 10 [.lit (.int .i64 1)] := by rw [List.map_append, List.map_replicate]; rfl
  have hSl : S.length ≤ 300 := by simp at hsl; omega
  clear htk hdk hsl hrow
  rw [hsub] at hcd
  simp [encFr, u8v, nilS] at hA
  cases ack
  · simp only [Bool.false_eq_true, if_false]
    rw [hmap]
    generalize hRR : List.replicate 10 [AVal.lit (.int .i64 1)] = RR at *
    have hRl : RR.length = 10 := by rw [← hRR]; simp
    have hRn : RR ≠ [] := by intro q; rw [q] at hRl; simp at hRl
    simp [go_sem, ir13, encFr, u8v, hA, w1, hle, hct, hcd, hAd, hsub, hrS, hr10, hsz, hRl, hRn, nilS, purse_eq, List.range_succ]
  · simp only [if_true]
    have hle9 : (S ++ List.replicate 10 true).length - 9 = S.length + 1 := by simp
    have hm2 : ((S ++ List.replicate 10 true).set ((S ++ List.replicate 10 true).length - 9) false).map encLv = (S.map encLv ++ List.replicate 10 [AVal.lit (.int .i64 1)]).set (S.length + 1) [AVal.lit (.int .i64 0)] := by
      rw [List.map_set, hmap, hle9]; rfl
    rw [hm2, List.length_set]
    have hg1 : (S.map encLv ++ List.replicate 10 [AVal.lit (.int .i64 1)])[S.length + 1]? = some [.lit (.int .i64 1)] := by
      rw [List.getElem?_append_right (by simp)]; simp
    have hw9 : IntKind.wrap .i64 ((S.length : Int) + 10 - 10) = S.length := by rw [wrap64 (by omega) (by omega)]; omega
    have hw8 : IntKind.wrap .i64 ((S.length : Int) + 1) = ((S.length + 1 : Nat) : Int) := by rw [wrap64 (by omega) (by omega)]; omega
    have hw7 : IntKind.wrap .i64 (S.length : Int) = S.length := wrap64 (by omega) (by omega)
    generalize hRR : List.replicate 10 [AVal.lit (.int .i64 1)] = RR at *
    have hRl : RR.length = 10 := by rw [← hRR]; simp
    have hRn : RR ≠ [] := by intro q; rw [q] at hRl; simp at hRl
    have hEl : (S.map encLv ++ RR).length = S.length + 10 := by simp [hRl]
    have hlt1 : S.length + 1 < S.length + 10 := by omega
    have hge : ∀ q : S.length + 1 < (S.map encLv ++ RR).length, (S.map encLv ++ RR)[S.length + 1]'q = [.lit (.int .i64 1)] := fun q => Option.some.inj ((List.getElem?_eq_getElem q).symm.trans hg1)
    have h01 : (0 : Int) ≤ (S.length : Int) + 1 := by omega
    generalize hEE : S.map encLv ++ RR = EE at *
    simp [go_sem, ir13, encFr, u8v, hA, w1, hle, hct, hcd, hAd, hsub, hrS, hr10, hsz, hRl, hRn, hw9, hw8, hw7, hg1, hEl, hEE, h01, hlt1, hge, nilS, purse_eq, List.range_succ]
end Go.AM.R1
open Go Go.AM
namespace Go.AM.R1
/-! ### What the law's helpers tell -/
def lvV (ix n : Nat) : AVal := if n = 0 then nilS else .own ix n 1 0 n
def lvH (m : List Bool) : Heap := if m = [] then [] else [.arr true false false 1 (m.map encLv)]
theorem ones_loop (n : Nat) (hn : n ≤ 100) (k : List Item) (R : Option (AVal × Heap))
    (hk : ∀ τ, lk 3 τ = lvV 0 n → finK 0 [.tmp 2] (run E 0 k τ (lvH (List.replicate n true))) = R) :
    ∀ (d i : Nat), i + d = n →
    finK 0 [.tmp 2] (run E 0 (.code L45_0 :: .inLoop [1000000, 0, 3, 4] L45_0 :: .inBlock 0 :: k) [(0, .lit (.int .i64 n)), (3, lvV 0 i), (4, .lit (.int .i64 i))] (lvH (List.replicate i true))) = R := by
  intro d
  induction d with
  | zero =>
    intro i hi
    have : i = n := by omega
    subst this
    simp [go_sem, run_codeL E L45_0.eq_1]
    exact hk _ rfl
  | succ d ih =>
    intro i hi
    have h1 : (i : Int) < n := by omega
    have h1' : i < n := by omega
    have h2 : (i : Int) < 100 := by omega
    have w := wrapIdx (i := i) (by omega)
    have hr1 : rowsOk 1 [[AVal.lit (.int .i64 1)]] = true := rfl
    have hrr := rowsLv (List.replicate i true)
    have hsz : ¬ (70368744177664 < (i + 1) * 8) := by omega
    have ih2 := ih (i + 1) (by omega)
    have hmr : (List.replicate (i + 1) true).map encLv = (List.replicate i true).map encLv ++ [[.lit (.int .i64 1)]] := by rw [List.replicate_succ', List.map_append]; rfl
    by_cases h0 : i = 0
    · subst h0
      simp [lvV, lvH, nilS, encLv, lv] at ih2 w
      simp [go_sem, run_codeL E L45_0.eq_1, h1, h1', lvV, lvH, nilS, hr1, w, purse_eq, List.range_succ]
      rw [run_inLoop']
      simp [go_sem, purse_eq, List.range_succ]
      exact ih2
    · have hne : ¬ List.replicate i true = [] := by simp [h0]
      have hne2 : ¬ List.replicate (i + 1) true = [] := by simp
      simp only [lvV, lvH, hne, hne2, h0, hmr, if_false] at ih2 ⊢
      have hml : ((List.replicate i true).map encLv).length = i := by simp
      generalize (List.replicate i true).map encLv = B at *
      simp at ih2 w
      simp [go_sem, run_codeL E L45_0.eq_1, h1, h1', h2, hml, nilS, hr1, hrr, hsz, w, purse_eq, List.range_succ]
      rw [run_inLoop']
      simp [go_sem, purse_eq, List.range_succ]
      exact ih2
theorem ones_spec (n : Nat) (hn : n ≤ 100) : call E (.func (.func 45) [] []) [.lit (.int .i64 n)] [] = some (lvV 0 n, lvH (List.replicate n true)) := by
  rw [call_func E E45]
  have h := fun k hk => ones_loop n hn k (some (lvV 0 n, lvH (List.replicate n true))) hk n 0 (by omega)
  simp only [lvV, lvH, List.replicate_zero, nilS, if_true, Int.natCast_zero] at h
  simp [go_sem, ir45, nilS, purse_eq, List.range_succ]
  rw [run_inLoop']
  simp [go_sem, purse_eq, List.range_succ]
  simp only [lvV, lvH, nilS]
  refine h _ ?_
  intro τ t3
  by_cases h0 : n = 0 <;> simp [go_sem, t3, h0, nilS, purse_eq, List.range_succ]
set_option maxRecDepth 100000 in
theorem sg_first : sgAll (List.replicate 11 true ++ encodeP Fr.zero true) = [⟨1, 11, 60, Fr.zero, true⟩] := by decide +kernel
theorem encode_zero_len : (encodeP Fr.zero true).length = 50 := by decide +kernel
theorem zero_ok : Fr.zero.Ok := ⟨by simp [Fr.zero], by simp [Fr.zero], by simp [Fr.zero], by simp [Fr.zero], by simp [Fr.zero, Fr.bytes]⟩
theorem awake19 : call E (.func (.func 44) [] []) [] [] = some (.lit (.bool true), []) := by
  rw [call_func E E44]
  have hE := encode_spec Fr.zero zero_ok (by decide +kernel) true
  have hO := ones_spec 11 (by omega)
  have hA := wall_spec (List.replicate 11 true ++ encodeP Fr.zero true) (by rw [List.length_append, encode_zero_len]; simp) false false
  rw [sg_first] at hA
  rw [encode_zero_len] at hE
  have hrl := rowsLv (encodeP Fr.zero true)
  have hml : ((encodeP Fr.zero true).map encLv).length = 50 := by rw [List.length_map, encode_zero_len]
  rw [List.map_append] at hA
  generalize (encodeP Fr.zero true).map encLv = B at *
  have hB : B ≠ [] := by intro q; rw [q] at hml; simp at hml
  simp only [lvV, lvH] at hO
  generalize hR : (List.replicate 11 true).map encLv = RR at *
  have hRl : RR.length = 11 := by rw [← hR]; simp
  simp [encFr, Fr.zero, u8v] at hE
  simp at hO
  simp [outV, outH, encSg, Fr.zero, u8v] at hA
  have hcB : cutE B 0 50 = B := cutE_whole hml
  simp [go_sem, ir44, hE, hO, hA, hrl, hRl, hml, hB, hcB, nilS, purse_eq, List.range_succ]
theorem levels_loop (l : List Int) (hl : l.length ≤ 1000000) (nl fu : Bool) (k : List Item) (R : Bool → Option (AVal × Heap))
    (hk : ∀ τ, finK 0 [.tmp 2] (run E 0 k τ []) = R true) (hR : R false = some (.lit (.bool false), [])) :
    ∀ (d i : Nat), i + d = l.length →
    finK 0 [.tmp 2] (run E 0 (.code L43_0 :: .inLoop [1000000, 0, 3] L43_0 :: .inBlock 0 :: k) [(0, .imm nl fu true (l.map encI)), (3, .lit (.int .i64 i))] []) = R ((l.drop i).all fun x => decide (x = 0 ∨ x = 1)) := by
  intro d
  induction d with
  | zero =>
    intro i hi
    have : i = l.length := by omega
    subst this
    rw [List.drop_length]
    simp [go_sem, run_codeL E L43_0.eq_1]
    exact hk _
  | succ d ih =>
    intro i hi
    have hlt : i < l.length := by omega
    have w := wrapIdx (i := i) (by omega)
    rw [List.drop_eq_getElem_cons hlt, List.all_cons]
    by_cases h : l[i] = 0 ∨ l[i] = 1
    · have ih2 := ih (i + 1) (by omega)
      rw [decide_eq_true h, Bool.true_and]
      generalize R _ = Q at ih2 ⊢
      simp at ih2 w
      rcases h with h | h
      · simp [go_sem, run_codeL E L43_0.eq_1, hlt, List.getElem?_eq_getElem hlt, encI, h, w, purse_eq]
        rw [run_inLoop']
        simp [go_sem, purse_eq]
        exact ih2
      · simp [go_sem, run_codeL E L43_0.eq_1, hlt, List.getElem?_eq_getElem hlt, encI, h, w, purse_eq]
        rw [run_inLoop']
        simp [go_sem, purse_eq]
        exact ih2
    · rw [decide_eq_false h, Bool.false_and, hR]
      have h0 : ¬ l[i] = 0 := fun q => h (.inl q)
      have h1 : ¬ l[i] = 1 := fun q => h (.inr q)
      simp [go_sem, run_codeL E L43_0.eq_1, hlt, List.getElem?_eq_getElem hlt, encI, h0, h1, w, purse_eq]
theorem levels_spec (l : List Int) (hl : l.length ≤ 1000000) (nl fu : Bool) : call E (.func (.func 43) [] []) [.imm nl fu true (l.map encI)] [] = some (.lit (.bool (l.all fun x => decide (x = 0 ∨ x = 1))), []) := by
  rw [call_func E E43]
  have h := fun k hk => levels_loop l hl nl fu k (fun b => some (.lit (.bool b), [])) hk rfl l.length 0 (by omega)
  simp only [List.drop_zero, Int.natCast_zero] at h
  generalize (l.all fun x => decide (x = 0 ∨ x = 1)) = D at *
  simp [go_sem, ir43, purse_eq]
  rw [run_inLoop']
  simp [go_sem, purse_eq]
  refine h _ ?_
  intro τ
  simp [go_sem]
/-- Levels, as a list of them. -/
theorem levels_map : ∀ (l : List Int), (l.all fun x => decide (x = 0 ∨ x = 1)) = true → ∃ m : List Bool, l = m.map lv
  | [], _ => ⟨[], rfl⟩
  | x :: l, h => by
    rw [List.all_cons, Bool.and_eq_true, decide_eq_true_eq] at h
    obtain ⟨m, hm⟩ := levels_map l h.2
    rcases h.1 with e | e
    · exact ⟨false :: m, by rw [e, hm]; rfl⟩
    · exact ⟨true :: m, by rw [e, hm]; rfl⟩
theorem levels_not : ∀ (l : List Int), (l.all fun x => decide (x = 0 ∨ x = 1)) = false → ∃ (m : List Bool) (x : Int) (r : List Int), l = m.map lv ++ x :: r ∧ x ≠ 0 ∧ x ≠ 1
  | [], h => by simp at h
  | x :: l, h => by
    by_cases hx : x = 0 ∨ x = 1
    · rw [List.all_cons, decide_eq_true hx, Bool.true_and] at h
      obtain ⟨m, y, r, e, h1, h2⟩ := levels_not l h
      rcases hx with q | q
      · exact ⟨false :: m, y, r, by rw [q, e]; rfl, h1, h2⟩
      · exact ⟨true :: m, y, r, by rw [q, e]; rfl, h1, h2⟩
    · exact ⟨[], x, l, rfl, fun q => hx (.inl q), fun q => hx (.inr q)⟩
theorem lv_encI (m : List Bool) : (m.map lv).map encI = m.map encLv := by rw [List.map_map]; rfl
/-- Are two sights one? -/
def sgLs : List (Nat × LeafK) := [(0, .i), (1, .i), (2, .i), (3, .i), (4, .b), (5, .b), (6, .i), (7, .i), (8, .i), (9, .i), (10, .i), (11, .i), (12, .i), (13, .i), (14, .i), (15, .b)]
theorem sgEq (s t : Sg) : aleaves (encSg s) (encSg t) sgLs = some (decide (s = t)) := by
  obtain ⟨k, f, o, ⟨i, e, r, l, d0, d1, d2, d3, d4, d5, d6, d7⟩, a⟩ := s
  obtain ⟨k', f', o', ⟨i', e', r', l', d0', d1', d2', d3', d4', d5', d6', d7'⟩, a'⟩ := t
  have hb : ∀ x y : Bool, (x == y) = decide (x = y) := by decide
  have hn : ∀ x y : Nat, decide ((x : Int) = (y : Int)) = decide (x = y) := fun x y => by rw [decide_eq_decide]; omega
  simp [sgLs, encSg, u8v, aleaves, aleaf, hb, hn, Sg.mk.injEq, Fr.mk.injEq, Bool.decide_and, Bool.and_assoc]
theorem eqSgN (H : Heap) (s t : Sg) : eqK true [(0, .i), (1, .i), (2, .i), (3, .i), (4, .b), (5, .b), (6, .i), (7, .i), (8, .i), (9, .i), (10, .i), (11, .i), (12, .i), (13, .i), (14, .i), (15, .b)] H (.agg (encSg s)) (.agg (encSg t)) = some (.lit (.bool (!decide (s = t))), H) := by
  have h := sgEq s t
  unfold sgLs at h
  simp only [eqK, h, Option.map_some, pairK, vbool, if_true, if_false, Bool.false_eq_true]
theorem eqSgP (H : Heap) (s t : Sg) : eqK false [(0, .i), (1, .i), (2, .i), (3, .i), (4, .b), (5, .b), (6, .i), (7, .i), (8, .i), (9, .i), (10, .i), (11, .i), (12, .i), (13, .i), (14, .i), (15, .b)] H (.agg (encSg s)) (.agg (encSg t)) = some (.lit (.bool (decide (s = t))), H) := by
  have h := sgEq s t
  unfold sgLs at h
  simp only [eqK, h, Option.map_some, pairK, vbool, if_true, if_false, Bool.false_eq_true]
end Go.AM.R1
open Go Go.AM
namespace Go.AM.R1
/-! ### The document's sum -/
def behP : List Bool → Bool → List Bool
  | [s0, s1, s2, s3, s4, s5, s6, s7, s8, s9, s10, s11, s12, s13, s14], b => [s1 ^^ (s0 ^^ b), s2, s3, s4, s5 ^^ (s0 ^^ b), s6, s7 ^^ (s0 ^^ b), s8 ^^ (s0 ^^ b), s9, s10, s11 ^^ (s0 ^^ b), s12 ^^ (s0 ^^ b), s13, s14, s0 ^^ b]
  | S, _ => S
theorem bits15 (n : Nat) : bitsOf 15 n = [n.testBit 14, n.testBit 13, n.testBit 12, n.testBit 11, n.testBit 10, n.testBit 9, n.testBit 8, n.testBit 7, n.testBit 6, n.testBit 5, n.testBit 4, n.testBit 3, n.testBit 2, n.testBit 1, n.testBit 0] := by
  simp only [bitsOf, Nat.testBit_eq_decide_div_mod_eq]
theorem bit14 {s : Nat} (h : s < 32768) : s.testBit 14 = decide (16384 ≤ s) := by
  rw [Nat.testBit_eq_decide_div_mod_eq, decide_eq_decide]
  show s / 16384 % 2 = 1 ↔ _
  omega
theorem c15Step_bit {s : Nat} (h : s < 32768) (b : Bool) (i : Nat) (hi : i < 15) : (c15Step s b).testBit i = ((decide (1 ≤ i) && s.testBit (i - 1)) ^^ ((s.testBit 14 ^^ b) && (17817 : Nat).testBit i)) := by
  unfold c15Step
  rw [← bit14 h]
  have h2 : (2 * s % 32768).testBit i = (decide (1 ≤ i) && s.testBit (i - 1)) := by
    rw [show 32768 = 2 ^ 15 from rfl, Nat.testBit_mod_two_pow, decide_eq_true hi, Bool.true_and, show 2 * s = 2 ^ 1 * s from rfl, Nat.testBit_two_pow_mul]
  cases hq : (s.testBit 14 != b)
  · rw [if_neg (by simp), h2]
    rw [show (s.testBit 14 ^^ b) = false from hq]; simp
  · rw [if_pos rfl, Nat.testBit_xor, h2]
    rw [show (s.testBit 14 ^^ b) = true from hq]; simp
theorem bitsOf_step {s : Nat} (h : s < 32768) (b : Bool) : bitsOf 15 (c15Step s b) = behP (bitsOf 15 s) b := by
  rw [bits15, bits15]
  have hb := c15Step_bit h b
  rw [hb 14 (by omega), hb 13 (by omega), hb 12 (by omega), hb 11 (by omega), hb 10 (by omega), hb 9 (by omega), hb 8 (by omega), hb 7 (by omega), hb 6 (by omega), hb 5 (by omega), hb 4 (by omega), hb 3 (by omega), hb 2 (by omega), hb 1 (by omega), hb 0 (by omega)]
  simp [behP, show Nat.testBit 17817 14 = true from rfl, show Nat.testBit 17817 13 = false from rfl, show Nat.testBit 17817 12 = false from rfl, show Nat.testBit 17817 11 = false from rfl, show Nat.testBit 17817 10 = true from rfl, show Nat.testBit 17817 9 = false from rfl, show Nat.testBit 17817 8 = true from rfl, show Nat.testBit 17817 7 = true from rfl, show Nat.testBit 17817 6 = false from rfl, show Nat.testBit 17817 5 = false from rfl, show Nat.testBit 17817 4 = true from rfl, show Nat.testBit 17817 3 = true from rfl, show Nat.testBit 17817 2 = false from rfl, show Nat.testBit 17817 1 = false from rfl, show Nat.testBit 17817 0 = true from rfl]
def sumP (S : List Bool) : List Bool → List Bool
  | [] => S
  | b :: m => sumP (behP S b) m
theorem sumP_bits : ∀ (m : List Bool) (s : Nat), s < 32768 → sumP (bitsOf 15 s) m = bitsOf 15 (c15Go s m)
  | [], _, _ => rfl
  | b :: m, s, h => by
    rw [sumP, ← bitsOf_step h b, sumP_bits m _ (c15Step_lt s b)]; rfl
theorem behP_length {S : List Bool} (h : S.length = 15) (b : Bool) : (behP S b).length = 15 := by
  match S, h with
  | [_, _, _, _, _, _, _, _, _, _, _, _, _, _, _], _ => rfl
/-! ### .. and its walk -/
theorem wlv (b : Bool) : IntKind.wrap .i64 (lv b) = lv b := by cases b <;> rfl
theorem wlv2 (a b : Bool) : IntKind.wrap .i64 (lv a + lv b) = lv a + lv b := by cases a <;> cases b <;> rfl
theorem tlv (b : Bool) : (lv b).tmod 2 = lv b := by cases b <;> rfl
theorem tlv2 (a b : Bool) : (lv a + lv b).tmod 2 = lv (a ^^ b) := by cases a <;> cases b <;> rfl
theorem wrap0 : IntKind.wrap .i64 0 = 0 := rfl
theorem poly_spec : call E (.func (.func 163) [] []) [] [] = some (.own 0 15 1 0 15, [.arr true false true 1 ([true, false, false, false, true, false, true, true, false, false, true, true, false, false, true].map encLv)]) := by
  rw [call_func E E163]
  simp [go_sem, ir163, encLv, lv, purse_eq, List.range_succ]
set_option maxHeartbeats 40000000 in
set_option maxRecDepth 100000 in
theorem rbehind_spec (S : List Bool) (hS : S.length = 15) (b nl fu : Bool) : call E (.func (.func 160) [] []) [.imm nl fu true (S.map encLv), .lit (.int .i64 (lv b))] [] = some (.own 0 15 1 0 15, [.arr true false false 1 ((behP S b).map encLv)]) := by
  rw [call_func E E160]
  match S, hS with
  | [s0, s1, s2, s3, s4, s5, s6, s7, s8, s9, s10, s11, s12, s13, s14], _ =>
    have hP := poly_spec
    simp [encLv, lv] at hP
    simp only [List.map_cons, List.map_nil, encLv, behP]
    have w1 : IntKind.wrap .i64 1 = 1 := rfl
    have w2 : IntKind.wrap .i64 2 = 2 := rfl
    have w3 : IntKind.wrap .i64 3 = 3 := rfl
    have w4 : IntKind.wrap .i64 4 = 4 := rfl
    have w5 : IntKind.wrap .i64 5 = 5 := rfl
    have w6 : IntKind.wrap .i64 6 = 6 := rfl
    have w7 : IntKind.wrap .i64 7 = 7 := rfl
    have w8 : IntKind.wrap .i64 8 = 8 := rfl
    have w9 : IntKind.wrap .i64 9 = 9 := rfl
    have w10 : IntKind.wrap .i64 10 = 10 := rfl
    have w11 : IntKind.wrap .i64 11 = 11 := rfl
    have w12 : IntKind.wrap .i64 12 = 12 := rfl
    have w13 : IntKind.wrap .i64 13 = 13 := rfl
    have w14 : IntKind.wrap .i64 14 = 14 := rfl
    have w15 : IntKind.wrap .i64 15 = 15 := rfl
    simp [go_sem, ir160, run_inLoop', run_codeL E L160_0.eq_1, hP, wlv, wlv2, tlv, tlv2, wrap0, w1, w2, w3, w4, w5, w6, w7, w8, w9, w10, w11, w12, w13, w14, w15, rowsOk, purse_eq, List.range_succ]
end Go.AM.R1
open Go Go.AM
namespace Go.AM.R1
/-! ### The document's fields -/
def encN (x : Nat) : List AVal := [.lit (.int .i64 (x : Int))]
theorem rowsN (l : List Nat) : rowsOk 1 (l.map encN) = true := rowsOk_map (f := encN) (fun _ => rfl) l
theorem val4_loop (m : List Bool) (hl : m.length ≤ 60) (nl fu : Bool) (k : List Item) (R : Nat → Option (AVal × Heap)) (hk : ∀ (τ : Tmps) (n : Nat), lk 3 τ = .lit (.int .i64 (n : Int)) → finK 0 [.tmp 2] (run E 0 k τ []) = R n) :
    ∀ (d i : Nat) (n : Nat), i + d = m.length → n < 2 ^ i →
   finK 0 [.tmp 2] (run E 0 (.code L120_0 :: .inLoop [0, 3, 4] L120_0 :: .inBlock 0 :: k) [(0, .imm nl fu true (m.map encLv)), (3, .lit (.int .i64 n)), (4, .lit (.int .i64 i))] []) = R (valGo n (m.drop i)) := by
  intro d
  induction d with
  | zero =>
    intro i n hi hn
    have : i = m.length := by omega
    subst this
    simp [go_sem, run_codeL E L120_0.eq_1, valGo]
    exact hk _ _ rfl
  | succ d ih =>
    intro i n hi hn
    have hlt : i < m.length := by omega
    have w := wrapIdx (i := i) (by omega)
    have hb : m[i].toNat ≤ 1 := by cases m[i] <;> decide
    have hp : 2 ^ (i + 1) ≤ 2 ^ 60 := Nat.pow_le_pow_right (by omega) (by omega)
    have hp2 : 2 ^ (i + 1) = 2 * 2 ^ i := by rw [Nat.pow_succ, Nat.mul_comm]
    have w1 : IntKind.wrap .i64 (2 * (n : Int)) = ((2 * n : Nat) : Int) := by rw [show 2 * (n : Int) = ((2 * n : Nat) : Int) from by omega, wrap64 (by omega) (by omega)]
    have w2 : IntKind.wrap .i64 (((2 * n : Nat) : Int) + lv m[i]) = ((2 * n + m[i].toNat : Nat) : Int) := by rw [lv_nat, wrap64 (by omega) (by omega)]; omega
    rw [List.drop_eq_getElem_cons hlt, valGo]
    have ih2 := ih (i + 1) (2 * n + m[i].toNat) (by omega) (by omega)
    generalize R _ = Q at ih2 ⊢
    generalize 2 * n + m[i].toNat = n2 at *
    generalize 2 * n = n1 at *
    simp at ih2 w
    simp [go_sem, run_codeL E L120_0.eq_1, hlt, List.getElem?_eq_getElem hlt, encLv, w, w1, w2, purse_eq]
    rw [run_inLoop']
    simp [go_sem, purse_eq]
    exact ih2
theorem value4_spec (m : List Bool) (hl : m.length ≤ 60) (nl fu : Bool) : call E (.func (.func 120) [] []) [.imm nl fu true (m.map encLv)] [] = some (.lit (.int .i64 (valB m)), []) := by
  rw [call_func E E120]
  have h := fun k hk => val4_loop m hl nl fu k (fun n => some (.lit (.int .i64 n), [])) hk m.length 0 0 (by omega) (by simp)
  simp at h
  simp [go_sem, ir120, purse_eq]
  rw [run_inLoop']
  simp [go_sem, purse_eq]
  refine h _ ?_
  intro τ n t3
  simp [go_sem, t3]
def widP (m : List Bool) : List Nat := if m.length < 14 then [1] else if m.length < dataF m then [1, ctrlF m - 1, dataF m - ctrlF m] else [1, ctrlF m - 1, dataF m - ctrlF m, sumF m - dataF m, 15, 1, 1, 1, 7]
theorem widths_spec (m : List Bool) (hl : m.length ≤ 1000000) (nl fu : Bool) : call E (.func (.func 148) [] []) [.imm nl fu true (m.map encLv)] [] = some (.own 0 (widP m).length 1 0 (widP m).length, [.arr true false true 1 ((widP m).map encN)]) := by
  rw [call_func E E148]
  by_cases h1 : m.length < 14
  · have h1' : (m.length : Int) < 14 := by omega
    unfold widP
    rw [if_pos h1]
    simp [go_sem, ir148, h1', encN, purse_eq, List.range_succ]
  · have h1' : ¬ (m.length : Int) < 14 := by omega
    have h13 : 13 < m.length := by omega
    have e : extF m = m[13] := by unfold extF; rw [List.getElem?_eq_getElem h13]; rfl
    have hx : extF m = true ↔ dataF m = 39 := by unfold dataF; split <;> simp_all
    have q1 : IntKind.wrap .i64 14 = 14 := rfl
    have q2 : IntKind.wrap .i64 19 = 19 := rfl
    have q3 : IntKind.wrap .i64 33 = 33 := rfl
    have q4 : IntKind.wrap .i64 39 = 39 := rfl
    have q5 : IntKind.wrap .i64 38 = 38 := rfl
    have q6 : IntKind.wrap .i64 35 = 35 := rfl
    have q7 : IntKind.wrap .i64 18 = 18 := rfl
    have q8 : IntKind.wrap .i64 15 = 15 := rfl
    have q0 : IntKind.wrap .i64 0 = 0 := rfl
    by_cases h2 : m.length < dataF m
    · have hw : widP m = [1, ctrlF m - 1, dataF m - ctrlF m] := by unfold widP; rw [if_neg h1, if_pos h2]
      rw [hw]
      unfold dataF at h2
      unfold ctrlF dataF
      rw [e] at h2 ⊢
      cases hxx : m[13]
      · have h3 : (m.length : Int) < 19 := by simp [hxx] at h2; omega
        simp [go_sem, ir148, h1', h3, q1, q2, List.getElem?_eq_getElem h13, encLv, hxx, lv, encN, purse_eq, List.range_succ]
      · have h3 : (m.length : Int) < 39 := by simp [hxx] at h2; omega
        simp [go_sem, ir148, h1', h3, q3, q4, List.getElem?_eq_getElem h13, encLv, hxx, lv, encN, purse_eq, List.range_succ]
    · have hw : widP m = [1, ctrlF m - 1, dataF m - ctrlF m, sumF m - dataF m, 15, 1, 1, 1, 7] := by unfold widP; rw [if_neg h1, if_neg h2]
      have hd : dataF m = 19 ∨ dataF m = 39 := by unfold dataF; split <;> omega
      rw [hw]
      have hr := rowsLv m
      have hv := fun fu => value4_spec ((m.take (dataF m)).drop (dataF m - 4)) (by simp; omega) nl fu
      have hvb := valB_lt ((m.take (dataF m)).drop (dataF m - 4))
      rw [show ((m.take (dataF m)).drop (dataF m - 4)).length = 4 from by simp; omega] at hvb
      rw [List.map_drop, List.map_take] at hv
      have hF1 := hv (fu && decide (dataF m = m.length))
      have hsd : sumF m - dataF m = if rtrF m = true then 0 else 8 * (if 8 < valB ((m.take (dataF m)).drop (dataF m - 4)) then 8 else valB ((m.take (dataF m)).drop (dataF m - 4))) := by
        unfold sumF sizeF
        split
        · omega
        · split <;> omega
      rw [hsd]
      generalize valB ((m.take (dataF m)).drop (dataF m - 4)) = v at *
      have wv : IntKind.wrap .i64 (8 * (v : Int)) = 8 * v := wrap64 (by omega) (by omega)
      have w8 : IntKind.wrap .i64 64 = 64 := rfl
      unfold rtrF ctrlF
      clear hsd hw hv
      cases hxx : m[13]
      · have hd19 : dataF m = 19 := by rcases hd with q | q; exact q; rw [e, hxx] at hx; simp at hx; omega
        have h12 : 12 < m.length := by omega
        have h19 : 19 ≤ m.length := by omega
        have h3 : ¬ (m.length : Int) < 19 := by omega
        rw [hd19] at hF1
        have e' : extF m = false := by rw [e, hxx]
        rw [e', hd19]
        by_cases hv8 : 8 < v
        · have hv8i : (8 : Int) < v := by omega
          cases h12b : m[12] <;> simp [go_sem, ir148, h1', h3, q0, q1, q2, q7, q8, w8, wv, List.getElem?_eq_getElem h13, List.getElem?_eq_getElem h12, h12b, encLv, hxx, lv, encN, hr, h19, hF1, hv8, hv8i, purse_eq, List.range_succ]
        · have hv8i : ¬ (8 : Int) < v := by omega
          cases h12b : m[12] <;> simp [go_sem, ir148, h1', h3, q0, q1, q2, q7, q8, w8, wv, List.getElem?_eq_getElem h13, List.getElem?_eq_getElem h12, h12b, encLv, hxx, lv, encN, hr, h19, hF1, hv8, hv8i, purse_eq, List.range_succ]
      · have hd39 : dataF m = 39 := by rw [e, hxx] at hx; simpa using hx
        have h32 : 32 < m.length := by omega
        have h12 : 12 < m.length := by omega
        have h39 : 39 ≤ m.length := by omega
        have h3 : ¬ (m.length : Int) < 39 := by omega
        rw [hd39] at hF1
        have e' : extF m = true := by rw [e, hxx]
        rw [e', hd39]
        by_cases hv8 : 8 < v
        · have hv8i : (8 : Int) < v := by omega
          cases h32b : m[32] <;> simp [go_sem, ir148, h1', h3, q0, q3, q4, q5, q6, w8, wv, List.getElem?_eq_getElem h13, List.getElem?_eq_getElem h12, List.getElem?_eq_getElem h32, h32b, encLv, hxx, lv, encN, hr, h39, hF1, hv8, hv8i, purse_eq, List.range_succ]
        · have hv8i : ¬ (8 : Int) < v := by omega
          cases h32b : m[32] <;> simp [go_sem, ir148, h1', h3, q0, q3, q4, q5, q6, w8, wv, List.getElem?_eq_getElem h13, List.getElem?_eq_getElem h12, List.getElem?_eq_getElem h32, h32b, encLv, hxx, lv, encN, hr, h39, hF1, hv8, hv8i, purse_eq, List.range_succ]
/-! ### The field of the next level -/
def nextW : List Nat → Nat → Nat → (Nat × Nat) ⊕ Nat
  | [], _, n => .inr n
  | w :: r, k, n => if n < w then .inl (k, n) else nextW r (k + 1) (n - w)
theorem nextW_loop (ws : List Nat) (hws : ∀ w ∈ ws, w ≤ 1000000) (hwl : ws.length ≤ 100) (k : List Item) (R : Nat → Option (AVal × Heap))
    (hk : ∀ (τ : Tmps) (n : Nat), lk 4 τ = .own 0 ws.length 1 0 ws.length → lk 5 τ = .lit (.int .i64 (n : Int)) → finK 0 [.tmp 2, .tmp 3] (run E 0 k τ [.arr true false true 1 (ws.map encN)]) = R n) :
    ∀ (d i : Nat) (n : Nat), i + d = ws.length → n ≤ 1000000 →
   finK 0 [.tmp 2, .tmp 3] (run E 0 (.code L118_0 :: .inLoop [4, 5, 6] L118_0 :: .inBlock 0 :: k) [(4, .own 0 ws.length 1 0 ws.length), (5, .lit (.int .i64 n)), (6, .lit (.int .i64 i))] [.arr true false true 1 (ws.map encN)]) = match nextW (ws.drop i) i n with | .inl q => some (.tup [.lit (.int .i64 q.1), .lit (.int .i64 q.2)], []) | .inr n => R n := by
  intro d
  induction d with
  | zero =>
    intro i n hi hn
    have : i = ws.length := by omega
    subst this
    rw [List.drop_length]
    simp [go_sem, run_codeL E L118_0.eq_1, nextW]
    exact hk _ _ rfl rfl
  | succ d ih =>
    intro i n hi hn
    have hlt : i < ws.length := by omega
    have w := wrapIdx (i := i) (by omega)
    rw [List.drop_eq_getElem_cons hlt, nextW]
    have hwi := hws ws[i] (List.getElem_mem _)
    by_cases h : n < ws[i]
    · have hi2 : (n : Int) < (ws[i] : Int) := by omega
      rw [if_pos h]
      simp [go_sem, run_codeL E L118_0.eq_1, hlt, List.getElem?_eq_getElem hlt, encN, h, hi2, purse_eq, List.range_succ]
    · have hi2 : ¬ (n : Int) < (ws[i] : Int) := by omega
      have w1 : IntKind.wrap .i64 ((n : Int) - (ws[i] : Int)) = ((n - ws[i] : Nat) : Int) := by rw [wrap64 (by omega) (by omega)]; omega
      rw [if_neg h]
      have ih2 := ih (i + 1) (n - ws[i]) (by omega) (by omega)
      generalize (match nextW (ws.drop (i + 1)) (i + 1) (n - ws[i]) with | .inl q => some (AVal.tup [.lit (.int .i64 q.1), .lit (.int .i64 q.2)], []) | .inr n => R n) = Q at ih2 ⊢
      simp at ih2 w
      simp [go_sem, run_codeL E L118_0.eq_1, hlt, List.getElem?_eq_getElem hlt, encN, h, hi2, w, w1, purse_eq, List.range_succ]
      rw [run_inLoop']
      simp [go_sem, purse_eq, List.range_succ]
      exact ih2
theorem prN {a b c d : Nat} (h1 : a = c) (h2 : b = d) : (a, b) = (c, d) := by rw [h1, h2]
theorem nextW_fact (m : List Bool) (hl : dataF m ≤ m.length → m.length ≤ sumF m + 25) :
    match nextW (widP m) 0 m.length with
    | .inl q => q = nextF m
    | .inr n => if (widP m).length = 1 then nextF m = (1, n) else n = 0 ∧ nextF m = (9, 0) := by
  obtain ⟨s1, s2, hd⟩ := sumF_ge m
  have hdc : (dataF m = 19 ∧ ctrlF m = 14 ∧ extF m = false) ∨ (dataF m = 39 ∧ ctrlF m = 33 ∧ extF m = true) := by
    unfold dataF ctrlF; cases extF m <;> simp
  unfold widP
  by_cases h1 : m.length < 14
  · rw [if_pos h1]
    simp only [nextW]
    by_cases h0 : m.length = 0
    · rw [if_pos (by omega)]; unfold nextF; rw [if_pos h0, h0]
    · rw [if_neg (by omega)]; simp only [List.length_singleton, if_true]; unfold nextF; rw [if_neg h0, if_pos (by omega)]
  · rw [if_neg h1]
    have hne : ¬ m.length = 0 := by omega
    by_cases h2 : m.length < dataF m
    · rw [if_pos h2]
      simp only [nextW]
      rcases hdc with ⟨c1, c2, c3⟩ | ⟨c1, c2, c3⟩
      · rw [if_neg (by omega), if_neg (by omega), if_pos (by omega)]
        unfold nextF
        rw [if_neg hne, if_neg (by rw [c3]; simp; omega), if_pos h2]
        exact prN (by omega) (by omega)
      · rw [if_neg (by omega)]
        by_cases h3 : m.length ≤ 32
        · rw [if_pos (by omega)]
          unfold nextF
          rw [if_neg hne, if_pos (.inr ⟨c3, h3⟩)]
        · rw [if_neg (by omega), if_pos (by omega)]
          unfold nextF
          rw [if_neg hne, if_neg (by rw [c3]; simp; omega), if_pos h2]
          exact prN (by omega) (by omega)
    · rw [if_neg h2]
      have hl := hl (by omega)
      have hn : nextF m = if m.length < sumF m then (3, m.length - dataF m) else if m.length < sumF m + 15 then (4, m.length - sumF m) else if m.length < sumF m + 16 then (5, 0) else if m.length < sumF m + 17 then (6, 0) else if m.length < sumF m + 18 then (7, 0) else if m.length < sumF m + 25 then (8, m.length - (sumF m + 18)) else (9, 0) := by
        unfold nextF
        rw [if_neg hne, if_neg (by rcases hdc with ⟨c1, c2, c3⟩ | ⟨c1, c2, c3⟩ <;> rw [c3] <;> simp <;> omega), if_neg h2]
      rw [hn]
      simp only [nextW, List.length_cons, List.length_nil]
      rw [if_neg (by omega), if_neg (by omega), if_neg (by omega)]
      by_cases g1 : m.length < sumF m
      · rw [if_pos (by omega), if_pos g1]; exact prN (by omega) (by omega)
      · rw [if_neg (by omega), if_neg g1]
        by_cases g2 : m.length < sumF m + 15
        · rw [if_pos (by omega), if_pos g2]; exact prN (by omega) (by omega)
        · rw [if_neg (by omega), if_neg g2]
          by_cases g3 : m.length < sumF m + 16
          · rw [if_pos (by omega), if_pos g3]; exact prN (by omega) (by omega)
          · rw [if_neg (by omega), if_neg g3]
            by_cases g4 : m.length < sumF m + 17
            · rw [if_pos (by omega), if_pos g4]; exact prN (by omega) (by omega)
            · rw [if_neg (by omega), if_neg g4]
              by_cases g5 : m.length < sumF m + 18
              · rw [if_pos (by omega), if_pos g5]; exact prN (by omega) (by omega)
              · rw [if_neg (by omega), if_neg g5]
                by_cases g6 : m.length < sumF m + 25
                · rw [if_pos (by omega), if_pos g6]; exact prN (by omega) (by omega)
                · rw [if_neg (by omega), if_neg g6]
                  show if 0 + 1 + 1 + 1 + 1 + 1 + 1 + 1 + 1 + 1 = 1 then _ else _
                  rw [if_neg (by decide)]
                  exact ⟨by omega, rfl⟩
theorem widP_le (m : List Bool) : (∀ w ∈ widP m, w ≤ 1000000) ∧ (widP m).length ≤ 100 := by
  obtain ⟨s1, s2, hd⟩ := sumF_ge m
  have hc : ctrlF m ≤ 33 := by unfold ctrlF; split <;> omega
  unfold widP
  split
  · simp
  · split <;> simp <;> omega
theorem next4_spec (m : List Bool) (hl : dataF m ≤ m.length → m.length ≤ sumF m + 25) (nl fu : Bool) : call E (.func (.func 118) [] []) [.imm nl fu true (m.map encLv)] [] = some (.tup [.lit (.int .i64 (nextF m).1), .lit (.int .i64 (nextF m).2)], []) := by
  obtain ⟨s1, s2, hd⟩ := sumF_ge m
  have hml : m.length ≤ 1000000 := by
    by_cases q : dataF m ≤ m.length
    · have := hl q; omega
    · omega
  rw [call_func E E118]
  have hw := widths_spec m hml nl fu
  have hf := nextW_fact m hl
  obtain ⟨l1, l2⟩ := widP_le m
  have hloop := fun k => nextW_loop (widP m) l1 l2 k (fun n => some (if (widP m).length = 1 then .tup [.lit (.int .i64 1), .lit (.int .i64 n)] else if 0 < n then .tup [.lit (.int .i64 (-1)), .lit (.int .i64 0)] else .tup [.lit (.int .i64 9), .lit (.int .i64 0)], []))
  have hloop := fun k hk => hloop k hk (widP m).length 0 m.length (by omega) hml
  rw [List.drop_zero] at hloop
  have hfin : (match nextW (widP m) 0 m.length with | .inl q => some (AVal.tup [.lit (.int .i64 q.1), .lit (.int .i64 q.2)], ([] : Heap)) | .inr n => some (if (widP m).length = 1 then .tup [.lit (.int .i64 1), .lit (.int .i64 n)] else if 0 < n then .tup [.lit (.int .i64 (-1)), .lit (.int .i64 0)] else .tup [.lit (.int .i64 9), .lit (.int .i64 0)], [])) = some (.tup [.lit (.int .i64 (nextF m).1), .lit (.int .i64 (nextF m).2)], []) := by
    cases hq : nextW (widP m) 0 m.length with
    | inl q => rw [hq] at hf; simp only [] at hf ⊢; rw [hf]
    | inr n =>
      rw [hq] at hf
      simp only [] at hf ⊢
      by_cases q : (widP m).length = 1
      · rw [if_pos q] at hf ⊢; rw [hf]; rfl
      · rw [if_neg q] at hf ⊢; rw [hf.2, hf.1]; rfl
  rw [hfin] at hloop
  clear hfin hf
  have hwl : 0 < (widP m).length := by unfold widP; split; simp; split <;> simp
  generalize widP m = ws at *
  generalize (nextF m).1 = n1 at *
  generalize (nextF m).2 = n2 at *
  simp only [Int.natCast_zero] at hloop
  simp [go_sem, ir118, hw, purse_eq, List.range_succ]
  rw [run_inLoop']
  simp [go_sem, purse_eq, List.range_succ]
  refine hloop _ ?_
  intro τ n t4 t5
  by_cases q1 : ws.length = 1
  · simp [go_sem, t4, t5, q1, purse_eq, List.range_succ]
  · have q1i : ¬ (ws.length : Int) = 1 := by omega
    by_cases q2 : 0 < n
    · have q2i : (0 : Int) < n := by omega
      simp [go_sem, t4, t5, q1, q1i, q2, q2i, purse_eq, List.range_succ]
    · have q2i : ¬ (0 : Int) < n := by omega
      simp [go_sem, t4, t5, q1, q1i, q2, q2i, purse_eq, List.range_succ]
theorem ahead4_spec (m : List Bool) (h : dataF m ≤ m.length) (hl : m.length ≤ 1000000) (nl fu : Bool) : call E (.func (.func 119) [] []) [.imm nl fu true (m.map encLv)] [] = some (.lit (.int .i64 (sumF m)), []) := by
  rw [call_func E E119]
  obtain ⟨s1, s2, hd⟩ := sumF_ge m
  have hdc : (dataF m = 19 ∧ ctrlF m = 14) ∨ (dataF m = 39 ∧ ctrlF m = 33) := by
    unfold dataF ctrlF; cases extF m <;> simp
  have hw := widths_spec m hl nl fu
  have e : widP m = [1, ctrlF m - 1, dataF m - ctrlF m, sumF m - dataF m, 15, 1, 1, 1, 7] := by unfold widP; rw [if_neg (by omega), if_neg (by omega)]
  rw [e] at hw
  simp only [List.length_cons, List.length_nil, List.map_cons, List.map_nil, encN] at hw
  have w1 : IntKind.wrap .i64 (1 + ((ctrlF m - 1 : Nat) : Int)) = ctrlF m := by rw [wrap64 (by omega) (by omega)]; omega
  have w2 : IntKind.wrap .i64 ((ctrlF m : Int) + ((dataF m - ctrlF m : Nat) : Int)) = dataF m := by rw [wrap64 (by omega) (by omega)]; omega
  have w3 : IntKind.wrap .i64 ((dataF m : Int) + ((sumF m - dataF m : Nat) : Int)) = sumF m := by rw [wrap64 (by omega) (by omega)]; omega
  generalize sumF m - dataF m = x1 at *
  generalize dataF m - ctrlF m = x2 at *
  generalize ctrlF m - 1 = x3 at *
  simp at hw
  simp [go_sem, ir119, hw, w1, w2, w3, purse_eq, List.range_succ]
end Go.AM.R1
open Go Go.AM
namespace Go.AM.R1
/-! ### The document's sum, whole, and its frame -/
theorem r2sum_loop (m : List Bool) (hl : m.length ≤ 1000000) (nl fu : Bool) (k : List Item) (R : List Bool → Option (AVal × Heap))
    (hk : ∀ (τ : Tmps) (S : List Bool), S.length = 15 → lk 3 τ = .own 0 15 1 0 15 → finK 0 [.tmp 2] (run E 0 k τ [.arr true false false 1 (S.map encLv)]) = R S) :
    ∀ (d i : Nat) (S : List Bool), i + d = m.length → S.length = 15 →
   finK 0 [.tmp 2] (run E 0 (.code L149_0 :: .inLoop [1000000, 0, 3, 4] L149_0 :: .inBlock 0 :: k) [(0, .imm nl fu true (m.map encLv)), (3, .own 0 15 1 0 15), (4, .lit (.int .i64 i))] [.arr true false false 1 (S.map encLv)]) = R (sumP S (m.drop i)) := by
  intro d
  induction d with
  | zero =>
    intro i S hi hS
    have : i = m.length := by omega
    subst this
    rw [List.drop_length, sumP]
    simp [go_sem, run_codeL E L149_0.eq_1]
    exact hk _ S hS rfl
  | succ d ih =>
    intro i S hi hS
    have hlt : i < m.length := by omega
    have w := wrapIdx (i := i) (by omega)
    have hB := rbehind_spec S hS m[i]
    rw [List.drop_eq_getElem_cons hlt, sumP]
    have ih2 := ih (i + 1) _ (by omega) (behP_length hS m[i])
    generalize R _ = Q at ih2 ⊢
    have hrl := rowsLv S
    simp at ih2 w
    simp [go_sem, run_codeL E L149_0.eq_1, hlt, List.getElem?_eq_getElem hlt, encLv, w, hB, hS, hrl, purse_eq, List.range_succ]
    rw [run_inLoop']
    simp [go_sem, purse_eq, List.range_succ]
    exact ih2
theorem r2sum_spec (m : List Bool) (hl : m.length ≤ 1000000) (nl fu : Bool) : call E (.func (.func 149) [] []) [.imm nl fu true (m.map encLv)] [] = some (.own 0 15 1 0 15, [.arr true false false 1 ((bitsOf 15 (c15L m)).map encLv)]) := by
  rw [call_func E E149]
  have h := fun k hk => r2sum_loop m hl nl fu k (fun S => some (.own 0 15 1 0 15, [.arr true false false 1 (S.map encLv)])) hk m.length 0 (bitsOf 15 0) (by omega) rfl
  rw [List.drop_zero, sumP_bits m 0 (by omega), show (bitsOf 15 0).map encLv = List.replicate 15 [.lit (.int .i64 0)] from rfl] at h
  rw [show c15L m = c15Go 0 m from rfl]
  generalize (bitsOf 15 (c15Go 0 m)).map encLv = B at *
  simp only [Int.natCast_zero] at h
  simp [List.replicate] at h
  simp [go_sem, ir149, purse_eq, List.range_succ, List.replicate]
  rw [run_inLoop']
  simp [go_sem, purse_eq, List.range_succ]
  refine h _ ?_
  intro τ S hS t3
  simp [go_sem, t3, purse_eq, List.range_succ]
theorem sum4_spec (m : List Bool) (hl : m.length ≤ 1000000) (nl fu : Bool) : call E (.func (.func 121) [] []) [.imm nl fu true (m.map encLv)] [] = some (.own 0 15 1 0 15, [.arr true false false 1 ((bitsOf 15 (c15L m)).map encLv)]) := by
  rw [call_func E E121]
  simp [go_sem, ir121, r2sum_spec m hl, purse_eq, List.range_succ]
theorem valGo_inj : ∀ (l m : List Bool) (a b : Nat), l.length = m.length → valGo a l = valGo b m → a = b ∧ l = m
  | [], [], a, b, _, h => ⟨h, rfl⟩
  | [], _ :: _, _, _, h, _ => by simp at h
  | _ :: _, [], _, _, h, _ => by simp at h
  | x :: l, y :: m, a, b, hl, h => by
    rw [valGo, valGo] at h
    obtain ⟨h1, h2⟩ := valGo_inj l m _ _ (by simpa using hl) h
    have hx : x.toNat ≤ 1 := by cases x <;> decide
    have hy : y.toNat ≤ 1 := by cases y <;> decide
    refine ⟨by omega, ?_⟩
    rw [h2]
    congr 1
    have : x.toNat = y.toNat := by omega
    cases x <;> cases y <;> simp at this <;> rfl
theorem valB_inj {l m : List Bool} (hl : l.length = m.length) : valB l = valB m ↔ l = m := ⟨fun h => (valGo_inj l m 0 0 hl h).2, fun h => by rw [h]⟩
/-! ### The frame -/
theorem frame4_loop (m : List Bool) (sd nb : Nat) (hsd : nb = sd / 8) (hnb : nb ≤ 8) (hd : dataF m ≤ 39) (hm : dataF m + 8 * nb ≤ m.length) (hl : m.length ≤ 1000000) (nl fu : Bool) (x1 x2 : Nat) (Z : List AVal) (a b c d : AVal) (k : List Item) (R : List AVal → Option (AVal × Heap))
    (hk : ∀ τ cs, cs.length = 12 → refsL cs = [] → (∀ f, renL f cs = cs) → lk 2 τ = .ptr 0 0 → lk 6 τ = .ptr 2 0 → finK 0 [.cell 2 true 12, .tmp 3] (run E 0 k τ [.box Z, .arr true false true 1 ([1, x1, x2, sd, 15, 1, 1, 1, 7].map encN), .box cs]) = R cs) (hZ : refsL Z = []) (ha : refsL [a, b, c, d] = []) (hra : ∀ f, renL f [a, b, c, d] = [a, b, c, d]) :
    ∀ (q i : Nat), i + q = nb →
   finK 0 [.cell 2 true 12, .tmp 3] (run E 0 (.code L122_0 :: .inLoop [0, 2, 5, 6, 7, 8] L122_0 :: .inBlock 0 :: k) [(0, .imm nl fu true (m.map encLv)), (2, .ptr 0 0), (5, .own 1 9 1 0 9), (6, .ptr 2 0), (7, .lit (.int .i64 (dataF m))), (8, .lit (.int .i64 i))] [.box Z, .arr true false true 1 ([1, x1, x2, sd, 15, 1, 1, 1, 7].map encN), .box (cellsF m a b c d i)]) = R (cellsF m a b c d nb) := by
  have wq : IntKind.wrap .i64 ((sd : Int).tdiv 8) = (nb : Int) := by
    rw [Int.tdiv_eq_ediv_of_nonneg (by omega), wrap64 (by omega) (by omega)]; omega
  have wq' : IntKind.wrap .i64 ((sd : Int) / 8) = (nb : Int) := by
    rw [wrap64 (by omega) (by omega)]; omega
  intro q
  induction q with
  | zero =>
    intro i hi
    have : i = nb := by omega
    subst this
    simp [go_sem, run_codeL E L122_0.eq_1, encN, wq, wq', purse_eq]
    exact hk _ _ (cellsF_length ..) (cellsF_refs _ _ _ _ _ _ ha) (cellsF_ren _ _ _ _ _ _ hra) rfl rfl
  | succ q ih =>
    intro i hi
    have hlt : i < nb := by omega
    have hlti : (i : Int) < nb := by omega
    have w := wrapIdx (i := i) (by omega)
    have ih2 := ih (i + 1) (by omega)
    rw [← cellsF_set m a b c d i (by omega)] at ih2
    have hcl := cellsF_length m a b c d i
    have hv := value4_spec ((m.take (dataF m + 8 * (i + 1))).drop (dataF m + 8 * i)) (by simp; omega) nl
    have hvb := valB_lt ((m.take (dataF m + 8 * (i + 1))).drop (dataF m + 8 * i))
    rw [show ((m.take (dataF m + 8 * (i + 1))).drop (dataF m + 8 * i)).length = 8 from by simp; omega] at hvb
    rw [List.map_drop, List.map_take] at hv
    have hr := rowsLv m
    have h1 : dataF m + 8 * i ≤ dataF m + 8 * (i + 1) := by omega
    have h2 : dataF m + 8 * (i + 1) ≤ m.length := by omega
    have w1 : IntKind.wrap .i64 (8 * (i : Int)) = 8 * i := wrap64 (by omega) (by omega)
    have w2 : IntKind.wrap .i64 ((dataF m : Int) + 8 * (i : Int)) = ((dataF m + 8 * i : Nat) : Int) := by rw [wrap64 (by omega) (by omega)]; omega
    have w4 : IntKind.wrap .i64 (((dataF m + 8 * i : Nat) : Int) + 8) = ((dataF m + 8 * (i + 1) : Nat) : Int) := by rw [wrap64 (by omega) (by omega)]; omega
    have hrc := cellsF_refs m a b c d i ha
    generalize valB ((m.take (dataF m + 8 * (i + 1))).drop (dataF m + 8 * i)) = v at *
    have w5 : IntKind.wrap .u8 (v : Int) = (v : Int) := by rw [wrap8, Nat.mod_eq_of_lt (by omega)]
    generalize cellsF m a b c d nb = Cn at *
    generalize cellsF m a b c d i = cs at *
    have hi8 : i < 8 := by omega
    have hov : List.take (4 + i) cs ++ u8v v :: List.drop (4 + i + 1) cs = cs.set (4 + i) (u8v v) := by
      rw [List.set_eq_take_append_cons_drop, if_pos (by omega)]
    have hle12 : 4 + i + 1 ≤ 12 := by omega
    have hrs : refsL (cs.set (4 + i) (u8v v)) = [] := by
      have : ∀ (l : List AVal) (n : Nat), refsL l = [] → refsL (l.set n (u8v v)) = [] := by
        intro l; induction l with
        | nil => intro n _; rfl
        | cons x l ihl =>
          intro n hx
          rw [refsL, List.append_eq_nil_iff] at hx
          cases n with
          | zero => rw [List.set_cons_zero, refsL, hx.2]; rfl
          | succ n => rw [List.set_cons_succ, refsL, ihl n hx.2, hx.1]; rfl
      exact this _ _ hrc
    generalize dataF m + 8 * (i + 1) = hi1 at *
    generalize dataF m + 8 * i = lo1 at *
    simp [encN] at ih2 w
    simp [encN] at hk
    simp only [u8v] at hov hrs ih2
    simp [go_sem, run_codeL E L122_0.eq_1, wq, wq', hlt, hlti, encN, w, w1, w2, w4, w5, hr, h1, h2, hv, hi8, hcl, hov, hle12, hZ, purse_eq, List.range_succ]
    rw [run_inLoop']
    simp [go_sem, purse_eq, List.range_succ, hZ, hrs]
    exact ih2
set_option maxHeartbeats 4000000 in
theorem frame4_spec (m : List Bool) (h : dataF m ≤ m.length) (h2 : sumF m ≤ m.length) (h0 : m[0]? = some false) (hl : m.length ≤ 1000000) (nl fu : Bool) : call E (.func (.func 122) [] []) [.imm nl fu true (m.map encLv)] [] = some (.tup [.agg (encFr (frameOf m)), .lit (.int .i64 0)], []) := by
  rw [call_func E E122]
  obtain ⟨s1, s2, hd⟩ := sumF_ge m
  have hA := ahead4_spec m h hl nl fu
  have hW := widths_spec m hl nl fu
  have hwe : widP m = [1, ctrlF m - 1, dataF m - ctrlF m, sumF m - dataF m, 15, 1, 1, 1, 7] := by unfold widP; rw [if_neg (by omega), if_neg (by omega)]
  rw [hwe] at hW
  simp only [List.length_cons, List.length_nil] at hW
  have hr := rowsLv m
  have hlt : ¬ ((m.length : Int) < (sumF m : Int)) := by omega
  have hlt2 : ¬ (m.length < sumF m) := by omega
  have h0l : 0 < m.length := by omega
  have h0g : m[0]'h0l = false := by rw [List.getElem?_eq_getElem h0l] at h0; exact Option.some.inj h0
  have h12 : 12 ≤ m.length := by omega
  have h12l : 12 < m.length := by omega
  have h13l : 13 < m.length := by omega
  have hv1 := fun fu => value4_spec ((m.take 12).drop 1) (by simp; omega) nl fu
  have hb1 := valB_lt ((m.take 12).drop 1)
  rw [show ((m.take 12).drop 1).length = 11 from by simp; omega] at hb1
  rw [List.map_drop, List.map_take] at hv1
  have hv3 := fun fu => value4_spec ((m.take (dataF m)).drop (dataF m - 4)) (by simp; omega) nl fu
  have hb3 := valB_lt ((m.take (dataF m)).drop (dataF m - 4))
  rw [show ((m.take (dataF m)).drop (dataF m - 4)).length = 4 from by simp; omega] at hb3
  rw [List.map_drop, List.map_take] at hv3
  have hdc : (dataF m = 19 ∧ ctrlF m = 14 ∧ extF m = false) ∨ (dataF m = 39 ∧ ctrlF m = 33 ∧ extF m = true) := by
    unfold dataF ctrlF; cases extF m <;> simp
  have w1 : IntKind.wrap .i64 (1 + ((ctrlF m - 1 : Nat) : Int)) = ctrlF m := by rw [wrap64 (by omega) (by omega)]; omega
  have w2 : IntKind.wrap .i64 ((ctrlF m : Int) + ((dataF m - ctrlF m : Nat) : Int)) = dataF m := by rw [wrap64 (by omega) (by omega)]; omega
  have w3 : IntKind.wrap .i64 ((dataF m : Int) - 4) = ((dataF m - 4 : Nat) : Int) := by rw [wrap64 (by omega) (by omega)]; omega
  have h4 : dataF m - 4 ≤ dataF m := by omega
  have hs0 : ((sumF m : Int) < 0) = False := eq_false (by omega)
  have he13 : extF m = m[13] := by unfold extF; rw [List.getElem?_eq_getElem h13l]; rfl
  have hFo : ∀ a, encFr (frameOf m) = a → a = cellsF m (.lit (.int .i64 (idF m))) (.lit (.bool (extF m))) (.lit (.bool (rtrF m))) (.lit (.int .i64 (sizeF m))) ((sumF m - dataF m) / 8) := fun a ha => by rw [← ha]; rfl
  have hE := hFo _ rfl
  rw [hE]
  clear hFo hE
  have hsz : sizeF m = min (valB ((m.take (dataF m)).drop (dataF m - 4))) 8 := rfl
  have hloop := fun a => frame4_loop m (sumF m - dataF m) ((sumF m - dataF m) / 8) rfl (by omega) (by omega) (by omega) hl nl fu (ctrlF m - 1) (dataF m - ctrlF m) (encFr Fr.zero) a (.lit (.bool (extF m))) (.lit (.bool (rtrF m))) (.lit (.int .i64 (sizeF m)))
  have wq0 : IntKind.wrap .u8 0 = 0 := rfl
  have hc0 : ∀ a b c d, cellsF m a b c d 0 = [a, b, c, d, u8v 0, u8v 0, u8v 0, u8v 0, u8v 0, u8v 0, u8v 0, u8v 0] := by
    intro a b c d
    simp [cellsF, List.range_succ]
  have hcl := cellsF_length m (.lit (.int .i64 (idF m))) (.lit (.bool (extF m))) (.lit (.bool (rtrF m))) (.lit (.int .i64 (sizeF m))) ((sumF m - dataF m) / 8)
  have hv8 : ∀ (P : Int → Option (AVal × Heap)), P (sizeF m) = if 8 < valB ((m.take (dataF m)).drop (dataF m - 4)) then P 8 else P (valB ((m.take (dataF m)).drop (dataF m - 4))) := by
    intro P
    split
    · rw [hsz, Nat.min_eq_right (by omega)]; rfl
    · rw [hsz, Nat.min_eq_left (by omega)]
  have hsi : (8 < valB ((m.take (dataF m)).drop (dataF m - 4)) ∧ sizeF m = 8) ∨ (¬ 8 < valB ((m.take (dataF m)).drop (dataF m - 4)) ∧ valB ((m.take (dataF m)).drop (dataF m - 4)) = sizeF m) := by omega
  clear hv8 hsz
  rcases hdc with ⟨hd19, hc14, hxx⟩ | ⟨hd39, hc33, hxx⟩
  · have hid : idF m = valB ((m.take 12).drop 1) := by unfold idF; rw [hxx]; rfl
    have hrt : rtrF m = m[12] := by unfold rtrF; rw [hxx]; simp [List.getElem?_eq_getElem h12l]
    rw [hid] at hcl ⊢
    have hloop := fun k hk => hloop (.lit (.int .i64 (valB ((m.take 12).drop 1) : Int))) k (fun cs => some (.tup [.agg cs, .lit (.int .i64 0)], [])) hk rfl rfl (fun _ => rfl) ((sumF m - dataF m) / 8) 0 (by omega)
    simp only [hc0] at hloop
    rw [hxx] at he13 hcl hloop ⊢
    rw [hrt] at hcl hloop ⊢
    generalize valB ((m.take 12).drop 1) = ida at *
    generalize (sumF m - dataF m) / 8 = nb at *
    generalize sumF m - dataF m = sd at *
    generalize ctrlF m - 1 = x1 at *
    generalize dataF m - ctrlF m = x2 at *
    simp only [encFr, Fr.zero, u8v, List.map_cons, List.map_nil, encN] at hW hloop
    simp at hloop hW
    simp only [List.drop_one] at hv1
    have hb12 : ∀ (b : Bool), decide (lv b = 1) = b := by decide
    rcases hsi with ⟨g1, g2⟩ | ⟨g1, g2⟩
    · have g1i : (8 : Int) < (valB ((m.take (dataF m)).drop (dataF m - 4)) : Int) := by omega
      rw [g2] at hloop hcl ⊢
      clear g2
      generalize valB ((m.take (dataF m)).drop (dataF m - 4)) = v at *
      generalize dataF m - 4 = d4 at *
      generalize dataF m = dd at *
      have hdl : dd ≤ m.length := h
      try simp only [encN] at hloop
      try simp at hloop
      cases hbb : m[12]
      · simp [hbb] at hloop
        simp [go_sem, ir122, hA, hW, hr, hlt2, hs0, h0, h0g, encLv, lv, h12, h12l, h13l, hbb, ← he13, hv1, hv3, w1, w2, w3, h4, hdl, g1, g1i, purse_eq, List.range_succ]
        rw [run_inLoop']
        simp [go_sem, purse_eq, List.range_succ]
        refine hloop _ ?_
        intro τ cs hcs hrcs hrn t2 t6
        have htk : List.take 12 cs = cs := List.take_of_length_le (by omega)
        simp [go_sem, t2, t6, hcs, hrcs, htk, hrn, purse_eq, List.range_succ]
      · simp [hbb] at hloop
        simp [go_sem, ir122, hA, hW, hr, hlt2, hs0, h0, h0g, encLv, lv, h12, h12l, h13l, hbb, ← he13, hv1, hv3, w1, w2, w3, h4, hdl, g1, g1i, purse_eq, List.range_succ]
        rw [run_inLoop']
        simp [go_sem, purse_eq, List.range_succ]
        refine hloop _ ?_
        intro τ cs hcs hrcs hrn t2 t6
        have htk : List.take 12 cs = cs := List.take_of_length_le (by omega)
        simp [go_sem, t2, t6, hcs, hrcs, htk, hrn, purse_eq, List.range_succ]
    · have g1i : ¬ (8 : Int) < (valB ((m.take (dataF m)).drop (dataF m - 4)) : Int) := by omega
      rw [← g2] at hloop hcl ⊢
      clear g2
      generalize valB ((m.take (dataF m)).drop (dataF m - 4)) = v at *
      generalize dataF m - 4 = d4 at *
      generalize dataF m = dd at *
      have hdl : dd ≤ m.length := h
      try simp only [encN] at hloop
      try simp at hloop
      cases hbb : m[12]
      · simp [hbb] at hloop
        simp [go_sem, ir122, hA, hW, hr, hlt2, hs0, h0, h0g, encLv, lv, h12, h12l, h13l, hbb, ← he13, hv1, hv3, w1, w2, w3, h4, hdl, g1, g1i, purse_eq, List.range_succ]
        rw [run_inLoop']
        simp [go_sem, purse_eq, List.range_succ]
        refine hloop _ ?_
        intro τ cs hcs hrcs hrn t2 t6
        have htk : List.take 12 cs = cs := List.take_of_length_le (by omega)
        simp [go_sem, t2, t6, hcs, hrcs, htk, hrn, purse_eq, List.range_succ]
      · simp [hbb] at hloop
        simp [go_sem, ir122, hA, hW, hr, hlt2, hs0, h0, h0g, encLv, lv, h12, h12l, h13l, hbb, ← he13, hv1, hv3, w1, w2, w3, h4, hdl, g1, g1i, purse_eq, List.range_succ]
        rw [run_inLoop']
        simp [go_sem, purse_eq, List.range_succ]
        refine hloop _ ?_
        intro τ cs hcs hrcs hrn t2 t6
        have htk : List.take 12 cs = cs := List.take_of_length_le (by omega)
        simp [go_sem, t2, t6, hcs, hrcs, htk, hrn, purse_eq, List.range_succ]
  · have h32 : 32 ≤ m.length := by omega
    have h32l : 32 < m.length := by omega
    have hv2 := fun fu => value4_spec ((m.take 32).drop 14) (by simp; omega) nl fu
    have hb2 := valB_lt ((m.take 32).drop 14)
    rw [show ((m.take 32).drop 14).length = 18 from by simp; omega] at hb2
    rw [List.map_drop, List.map_take] at hv2
    have hid : idF m = valB ((m.take 12).drop 1) * 262144 + valB ((m.take 32).drop 14) := by unfold idF; rw [hxx]; rfl
    have hrt : rtrF m = m[32] := by unfold rtrF; rw [hxx]; simp [List.getElem?_eq_getElem h32l]
    rw [hid] at hcl ⊢
    have hloop := fun k hk => hloop (.lit (.int .i64 ((valB ((m.take 12).drop 1) * 262144 + valB ((m.take 32).drop 14) : Nat) : Int))) k (fun cs => some (.tup [.agg cs, .lit (.int .i64 0)], [])) hk rfl rfl (fun _ => rfl) ((sumF m - dataF m) / 8) 0 (by omega)
    simp only [hc0] at hloop
    rw [hxx] at he13 hcl hloop ⊢
    rw [hrt] at hcl hloop ⊢
    have w4 : IntKind.wrap .i64 (262144 * (valB ((m.take 12).drop 1) : Int)) = ((valB ((m.take 12).drop 1) * 262144 : Nat) : Int) := by rw [wrap64 (by omega) (by omega)]; omega
    have w5 : IntKind.wrap .i64 (((valB ((m.take 12).drop 1) * 262144 : Nat) : Int) + (valB ((m.take 32).drop 14) : Int)) = ((valB ((m.take 12).drop 1) * 262144 + valB ((m.take 32).drop 14) : Nat) : Int) := by rw [wrap64 (by omega) (by omega)]; omega
    generalize valB ((m.take 12).drop 1) * 262144 + valB ((m.take 32).drop 14) = idv at *
    generalize valB ((m.take 12).drop 1) * 262144 = idu at *
    generalize valB ((m.take 12).drop 1) = ida at *
    generalize valB ((m.take 32).drop 14) = idb at *
    generalize (sumF m - dataF m) / 8 = nb at *
    generalize sumF m - dataF m = sd at *
    generalize ctrlF m - 1 = x1 at *
    generalize dataF m - ctrlF m = x2 at *
    simp only [encFr, Fr.zero, u8v, List.map_cons, List.map_nil, encN] at hW hloop
    simp at hloop hW
    simp only [List.drop_one] at hv1
    cases hb12 : m[12]
    · rcases hsi with ⟨g1, g2⟩ | ⟨g1, g2⟩
      · have g1i : (8 : Int) < (valB ((m.take (dataF m)).drop (dataF m - 4)) : Int) := by omega
        rw [g2] at hloop hcl ⊢
        clear g2
        generalize valB ((m.take (dataF m)).drop (dataF m - 4)) = v at *
        generalize dataF m - 4 = d4 at *
        generalize dataF m = dd at *
        have hdl : dd ≤ m.length := h
        try simp only [encN] at hloop
        try simp at hloop
        cases hbb : m[32]
        · simp [hbb] at hloop
          simp [go_sem, ir122, hA, hW, hr, hlt2, hs0, h0, h0g, encLv, lv, h12, h12l, h13l, hbb, ← he13, hv1, hv3, w1, w2, w3, h4, hdl, g1, g1i, hb12, h32, h32l, hv2, w4, w5, purse_eq, List.range_succ]
          rw [run_inLoop']
          simp [go_sem, purse_eq, List.range_succ]
          refine hloop _ ?_
          intro τ cs hcs hrcs hrn t2 t6
          have htk : List.take 12 cs = cs := List.take_of_length_le (by omega)
          simp [go_sem, t2, t6, hcs, hrcs, htk, hrn, purse_eq, List.range_succ]
        · simp [hbb] at hloop
          simp [go_sem, ir122, hA, hW, hr, hlt2, hs0, h0, h0g, encLv, lv, h12, h12l, h13l, hbb, ← he13, hv1, hv3, w1, w2, w3, h4, hdl, g1, g1i, hb12, h32, h32l, hv2, w4, w5, purse_eq, List.range_succ]
          rw [run_inLoop']
          simp [go_sem, purse_eq, List.range_succ]
          refine hloop _ ?_
          intro τ cs hcs hrcs hrn t2 t6
          have htk : List.take 12 cs = cs := List.take_of_length_le (by omega)
          simp [go_sem, t2, t6, hcs, hrcs, htk, hrn, purse_eq, List.range_succ]
      · have g1i : ¬ (8 : Int) < (valB ((m.take (dataF m)).drop (dataF m - 4)) : Int) := by omega
        rw [← g2] at hloop hcl ⊢
        clear g2
        generalize valB ((m.take (dataF m)).drop (dataF m - 4)) = v at *
        generalize dataF m - 4 = d4 at *
        generalize dataF m = dd at *
        have hdl : dd ≤ m.length := h
        try simp only [encN] at hloop
        try simp at hloop
        cases hbb : m[32]
        · simp [hbb] at hloop
          simp [go_sem, ir122, hA, hW, hr, hlt2, hs0, h0, h0g, encLv, lv, h12, h12l, h13l, hbb, ← he13, hv1, hv3, w1, w2, w3, h4, hdl, g1, g1i, hb12, h32, h32l, hv2, w4, w5, purse_eq, List.range_succ]
          rw [run_inLoop']
          simp [go_sem, purse_eq, List.range_succ]
          refine hloop _ ?_
          intro τ cs hcs hrcs hrn t2 t6
          have htk : List.take 12 cs = cs := List.take_of_length_le (by omega)
          simp [go_sem, t2, t6, hcs, hrcs, htk, hrn, purse_eq, List.range_succ]
        · simp [hbb] at hloop
          simp [go_sem, ir122, hA, hW, hr, hlt2, hs0, h0, h0g, encLv, lv, h12, h12l, h13l, hbb, ← he13, hv1, hv3, w1, w2, w3, h4, hdl, g1, g1i, hb12, h32, h32l, hv2, w4, w5, purse_eq, List.range_succ]
          rw [run_inLoop']
          simp [go_sem, purse_eq, List.range_succ]
          refine hloop _ ?_
          intro τ cs hcs hrcs hrn t2 t6
          have htk : List.take 12 cs = cs := List.take_of_length_le (by omega)
          simp [go_sem, t2, t6, hcs, hrcs, htk, hrn, purse_eq, List.range_succ]
    · rcases hsi with ⟨g1, g2⟩ | ⟨g1, g2⟩
      · have g1i : (8 : Int) < (valB ((m.take (dataF m)).drop (dataF m - 4)) : Int) := by omega
        rw [g2] at hloop hcl ⊢
        clear g2
        generalize valB ((m.take (dataF m)).drop (dataF m - 4)) = v at *
        generalize dataF m - 4 = d4 at *
        generalize dataF m = dd at *
        have hdl : dd ≤ m.length := h
        try simp only [encN] at hloop
        try simp at hloop
        cases hbb : m[32]
        · simp [hbb] at hloop
          simp [go_sem, ir122, hA, hW, hr, hlt2, hs0, h0, h0g, encLv, lv, h12, h12l, h13l, hbb, ← he13, hv1, hv3, w1, w2, w3, h4, hdl, g1, g1i, hb12, h32, h32l, hv2, w4, w5, purse_eq, List.range_succ]
          rw [run_inLoop']
          simp [go_sem, purse_eq, List.range_succ]
          refine hloop _ ?_
          intro τ cs hcs hrcs hrn t2 t6
          have htk : List.take 12 cs = cs := List.take_of_length_le (by omega)
          simp [go_sem, t2, t6, hcs, hrcs, htk, hrn, purse_eq, List.range_succ]
        · simp [hbb] at hloop
          simp [go_sem, ir122, hA, hW, hr, hlt2, hs0, h0, h0g, encLv, lv, h12, h12l, h13l, hbb, ← he13, hv1, hv3, w1, w2, w3, h4, hdl, g1, g1i, hb12, h32, h32l, hv2, w4, w5, purse_eq, List.range_succ]
          rw [run_inLoop']
          simp [go_sem, purse_eq, List.range_succ]
          refine hloop _ ?_
          intro τ cs hcs hrcs hrn t2 t6
          have htk : List.take 12 cs = cs := List.take_of_length_le (by omega)
          simp [go_sem, t2, t6, hcs, hrcs, htk, hrn, purse_eq, List.range_succ]
      · have g1i : ¬ (8 : Int) < (valB ((m.take (dataF m)).drop (dataF m - 4)) : Int) := by omega
        rw [← g2] at hloop hcl ⊢
        clear g2
        generalize valB ((m.take (dataF m)).drop (dataF m - 4)) = v at *
        generalize dataF m - 4 = d4 at *
        generalize dataF m = dd at *
        have hdl : dd ≤ m.length := h
        try simp only [encN] at hloop
        try simp at hloop
        cases hbb : m[32]
        · simp [hbb] at hloop
          simp [go_sem, ir122, hA, hW, hr, hlt2, hs0, h0, h0g, encLv, lv, h12, h12l, h13l, hbb, ← he13, hv1, hv3, w1, w2, w3, h4, hdl, g1, g1i, hb12, h32, h32l, hv2, w4, w5, purse_eq, List.range_succ]
          rw [run_inLoop']
          simp [go_sem, purse_eq, List.range_succ]
          refine hloop _ ?_
          intro τ cs hcs hrcs hrn t2 t6
          have htk : List.take 12 cs = cs := List.take_of_length_le (by omega)
          simp [go_sem, t2, t6, hcs, hrcs, htk, hrn, purse_eq, List.range_succ]
        · simp [hbb] at hloop
          simp [go_sem, ir122, hA, hW, hr, hlt2, hs0, h0, h0g, encLv, lv, h12, h12l, h13l, hbb, ← he13, hv1, hv3, w1, w2, w3, h4, hdl, g1, g1i, hb12, h32, h32l, hv2, w4, w5, purse_eq, List.range_succ]
          rw [run_inLoop']
          simp [go_sem, purse_eq, List.range_succ]
          refine hloop _ ?_
          intro τ cs hcs hrcs hrn t2 t6
          have htk : List.take 12 cs = cs := List.take_of_length_le (by omega)
          simp [go_sem, t2, t6, hcs, hrcs, htk, hrn, purse_eq, List.range_succ]
end Go.AM.R1
open Go Go.AM
namespace Go.AM.R1
/-! ### What the document sees of one frame -/
def onP (w : Wt) (b : Bool) : Option Sg × Wt := endP (takeP (countP w b) b)
theorem seeP_onP {w : Wt} (b : Bool) (h : w.on = true) : seeP w b = onP w b := by
  have hst : startP w b = w := by unfold startP; rw [if_neg (by rw [h]; simp)]
  unfold seeP onP; rw [hst, if_neg (by rw [h]; simp)]
def oneGo (w : Wt) : List Bool → Option Sg
  | [] => none
  | b :: m => match (onP w b).1 with | some s => some s | none => oneGo (onP w b).2 m
def encRs (s : Sg) : List AVal := [.lit (.bool (decide (s.kind = 1))), .lit (.int .i64 s.frm), .lit (.int .i64 s.to), .lit (.int .i64 s.frame.id), .lit (.bool s.frame.ext), .lit (.bool s.frame.rtr), .lit (.int .i64 s.frame.len), u8v s.frame.d0, u8v s.frame.d1, u8v s.frame.d2, u8v s.frame.d3, u8v s.frame.d4, u8v s.frame.d5, u8v s.frame.d6, u8v s.frame.d7, .lit (.bool s.acked)]
def sg0 : Sg := ⟨2, 0, 0, Fr.zero, false⟩
theorem nextF_gt {m : List Bool} (h : 4 < (nextF m).1) : dataF m ≤ m.length ∧ sumF m + 15 ≤ m.length := by
  have hs := sumF_ge m
  unfold nextF at h
  split at h; · simp at h
  split at h; · simp at h
  split at h; · simp at h
  split at h; · simp at h
  split at h; · simp at h
  omega
theorem nextF_gt' {m : List Bool} (h1 : dataF m ≤ m.length) (h2 : sumF m + 15 ≤ m.length) : 4 < (nextF m).1 := by
  have hs := sumF_ge m
  unfold nextF
  rw [if_neg (by omega), if_neg (by
    rintro (q | ⟨q1, q2⟩)
    · omega
    · have : dataF m = 39 := by unfold dataF; rw [if_pos q1]
      omega), if_neg (by omega), if_neg (by omega), if_neg (by omega)]
  repeat (first | split | omega)
theorem nextF_mono {m : List Bool} (h : 4 < (nextF m).1) (b : Bool) : 4 < (nextF (m ++ [b])).1 := by
  obtain ⟨h1, h2⟩ := nextF_gt h
  refine nextF_gt' ?_ ?_
  · rw [dataF_append h1]; simp; omega
  · rw [sumF_append h1]; simp; omega
structure RI (m : List Bool) (frm i : Nat) (w : Wt) : Prop where
  run5 : w.run ≤ 5
  tick : w.tick = i
  from_ : w.frm = frm
  on : w.on = true
  raw : RawIn w.raw
  raw0 : w.raw ≠ [] → w.raw[0]? = some false
  le : frm ≤ i
  init : w.raw = [] → i = frm ∧ w.run = 0
  run0 : w.raw ≠ [] → (nextF w.raw).1 ≤ 4 → 0 < w.run
  later : w.raw ≠ [] → frm < i
  prev : 0 < w.run → m[i - 1]? = some w.last
theorem ri_append {m : List Bool} {frm i : Nat} {w : Wt} (h : RI m frm i w) {b : Bool} (hb : m[i]? = some b) (hb0 : w.raw = [] → b = false) (w' : Wt)
    (e1 : w'.run ≤ 5) (e2 : w'.tick = i + 1) (e3 : w'.frm = w.frm) (e4 : w'.on = true) (e5 : w'.raw = w.raw ++ [b]) (hend : nextF w.raw ≠ (8, 5)) (e6 : (nextF w.raw).1 ≤ 4 → 0 < w'.run) (e7 : 0 < w'.run → w'.last = b) : RI m frm (i + 1) w' := by
  obtain ⟨h1, h2, h3, h4, h5, h6, h7, h8, h9, h10, h11⟩ := h
  have hne : w'.raw ≠ [] := by rw [e5]; simp
  refine ⟨e1, e2, by omega, e4, ?_, ?_, by omega, fun q => absurd q hne, ?_, fun _ => by omega, ?_⟩
  · rw [e5]; exact rawIn_append h5 (fun q => hend (nextF_end q.1 q.2)) b
  · intro _
    rw [e5]
    by_cases q : w.raw = []
    · rw [q, hb0 q]; rfl
    · rw [List.getElem?_append_left (List.length_pos_iff.2 q)]; exact h6 q
  · intro _ hk
    rw [e5] at hk
    apply e6
    apply Classical.byContradiction
    intro q
    have := nextF_mono (m := w.raw) (by omega) b
    omega
  · intro q
    rw [e7 q]; simpa using hb
theorem ri_take {m : List Bool} {frm i : Nat} {w : Wt} (h : RI m frm i w) {b : Bool} (hb : m[i]? = some b) (hb0 : w.raw = [] → b = false) (W : Wt) (e1 : W.raw = w.raw) (e2 : W.run = w.run) (e3 : W.last = w.last) (e4 : W.tick = i + 1) (e5 : W.frm = w.frm) (e6 : W.on = true) (ht2 : (takeP W b).1 = 0) : RI m frm (i + 1) (takeP W b).2 := by
  have hk := takeP_keep W b
  have hr := takeP_run W b (by rw [e2]; exact h.run5)
  have k1 : (takeP W b).2.frm = w.frm := by rw [hk.1, e5]
  have k2 : (takeP W b).2.tick = i + 1 := by rw [hk.2.1, e4]
  have k3 : (takeP W b).2.on = true := by rw [hk.2.2.1, e6]
  clear hk
  unfold takeP at ht2 hr k1 k2 k3 ⊢
  rw [e2, e3, e1] at *
  by_cases h5 : w.run = 5
  · simp only [if_pos h5] at *
    by_cases hbl : b = w.last
    · rw [if_pos hbl] at ht2; cases ht2
    · rw [if_neg hbl] at hr k1 k2 k3 ⊢
      obtain ⟨g1, g2, g3, g4, g5, g6, g7, g8, g9, g10, g11⟩ := h
      have hne : w.raw ≠ [] := fun q => by have := (g8 q).2; omega
      refine ⟨by show 1 ≤ 5; omega, k2, by rw [← g3]; exact k1, k3, g5, g6, by omega, fun q => absurd q hne, fun _ _ => by show 0 < 1; omega, fun _ => by have := g10 hne; omega, fun _ => ?_⟩
      show m[i + 1 - 1]? = some b
      simpa using hb
  · simp only [if_neg h5] at *
    by_cases q6 : (nextF w.raw).1 = 6
    · simp only [if_pos q6] at *
      refine ri_append h hb hb0 _ hr k2 k1 k3 rfl ?_ (fun q => by omega) ?_
      · intro e; rw [e] at q6; simp at q6
      · intro q
        simp only [if_pos (by omega : 4 < (nextF w.raw).1)] at q
        cases q
    · simp only [if_neg q6] at *
      by_cases qb : (nextF w.raw).1 = 5 ∧ rightF w.raw = false ∨ 4 < (nextF w.raw).1 ∧ b = false
      · rw [if_pos qb] at ht2; cases ht2
      · simp only [if_neg qb] at *
        by_cases q8 : (nextF w.raw).1 = 8 ∧ (nextF w.raw).2 = 5
        · rw [if_pos q8] at ht2; cases ht2
        · simp only [if_neg q8] at *
          refine ri_append h hb hb0 _ hr k2 k1 k3 rfl ?_ ?_ ?_
          · intro e; exact q8 ⟨by rw [e], by rw [e]⟩
          · intro q
            simp only [if_neg (by omega : ¬ 4 < (nextF w.raw).1)]
            split <;> simp
          · intro q
            by_cases q4 : 4 < (nextF w.raw).1
            · simp only [if_pos q4] at q; cases q
            · simp only [if_neg q4]
              split
              · rename_i q5; exact q5.2.symm
              · rfl
theorem RI.step {m : List Bool} {frm i : Nat} {w : Wt} (h : RI m frm i w) {b : Bool} (hb : m[i]? = some b) (hb0 : w.raw = [] → b = false) (hn : (onP w b).1 = none) : RI m frm (i + 1) (onP w b).2 := by
  have ht : (onP w b).2 = (takeP (countP w b) b).2 ∧ (takeP (countP w b) b).1 = 0 := by
    unfold onP endP at hn ⊢
    split
    · rename_i q; exact ⟨rfl, q⟩
    · rename_i q
      rw [if_neg q] at hn
      split at hn <;> cases hn
  rw [ht.1]
  exact ri_take h hb hb0 _ rfl rfl rfl (by show w.tick + 1 = _; rw [h.tick]) rfl h.on ht.2
end Go.AM.R1
open Go Go.AM
namespace Go.AM.R1
/-! ### The walk of the document's One -/
def rawV (m : List Bool) : AVal := if m = [] then nilS else .own 1 m.length 1 0 m.length
def rawH (lk : Bool) (m : List Bool) : Heap := if m = [] then [] else [.arr true lk false 1 (m.map encLv)]
def oneSt (m : List Bool) (nl fu : Bool) (frm i : Nat) (w : Wt) : Tmps := [(0, .imm nl fu true (m.map encLv)), (1, .lit (.int .i64 frm)), (4, .ptr 0 0), (6, rawV w.raw), (7, .lit (.int .i64 w.run)), (8, .lit (.int .i64 (lv (!w.acked)))), (9, .lit (.int .i64 i))]
theorem one_nil (m : List Bool) (hm : m.length ≤ 1000000) (nl fu : Bool) (frm : Nat) (w : Wt) (hI : RI m frm frm w) (hw : w.raw = []) (hb : m[frm]? = some false) (lk : Bool) (k : List Item) (Q : Option (AVal × Heap))
    (ih : ∀ lk', finK 0 [.cell 4 true 16, .tmp 5] (run E 0 (.code L89_0 :: .inLoop [1000000, 0, 1, 4, 6, 7, 8, 9] L89_0 :: .inBlock 0 :: k) (oneSt m nl fu frm (frm + 1) (onP w false).2) (.box (encRs sg0) :: rawH lk' (onP w false).2.raw)) = Q) :
    finK 0 [.cell 4 true 16, .tmp 5] (run E 0 (.code L89_0 :: .inLoop [1000000, 0, 1, 4, 6, 7, 8, 9] L89_0 :: .inBlock 0 :: k) (oneSt m nl fu frm frm w) (.box (encRs sg0) :: rawH lk w.raw)) = Q := by
  obtain ⟨hbl, hbi⟩ := List.getElem?_eq_some_iff.1 hb
  have wi := wrapIdx (i := frm) (by omega)
  have hr0 := (hI.init hw).2
  have hN := next4_spec [] (by simp [dataF]) true true
  rw [show nextF [] = (0, 0) from rfl] at hN
  have ih := ih false
  obtain ⟨raw, last, run, acked, tick, ones, on, frm'⟩ := w
  simp only [] at hw hr0
  subst hw hr0
  simp [oneSt, rawV, rawH, onP, endP, takeP, countP, show nextF [] = (0, 0) from rfl, encRs, sg0, Fr.zero, u8v, encLv, nilS] at ih
  simp at hN wi
  cases acked <;> simp [lv] at ih <;> simp [go_sem, run_codeL E L89_0.eq_1, oneSt, rawV, rawH, nilS, encRs, sg0, Fr.zero, u8v, hbl, hb, hbi, encLv, lv, hN, wi, rowsOk, purse_eq, List.range_succ] <;> rw [run_inLoop'] <;> simp [go_sem, purse_eq, List.range_succ] <;> exact ih
set_option maxHeartbeats 16000000 in
theorem one_own (m : List Bool) (hm : m.length ≤ 1000000) (nl fu : Bool) (frm i : Nat) (hi : i < m.length) (w : Wt) (hI : RI m frm i w) (hw : w.raw ≠ []) (b : Bool) (hb : m[i]? = some b) (lk : Bool) (k : List Item) (Q : Option (AVal × Heap))
    (hq : ∀ s, (onP w b).1 = some s → Q = some (.tup [.agg (encRs s), .lit (.bool true)], []))
    (ih : (onP w b).1 = none → ∀ lk', finK 0 [.cell 4 true 16, .tmp 5] (run E 0 (.code L89_0 :: .inLoop [1000000, 0, 1, 4, 6, 7, 8, 9] L89_0 :: .inBlock 0 :: k) (oneSt m nl fu frm (i + 1) (onP w b).2) (.box (encRs sg0) :: rawH lk' (onP w b).2.raw)) = Q) :
    finK 0 [.cell 4 true 16, .tmp 5] (run E 0 (.code L89_0 :: .inLoop [1000000, 0, 1, 4, 6, 7, 8, 9] L89_0 :: .inBlock 0 :: k) (oneSt m nl fu frm i w) (.box (encRs sg0) :: rawH lk w.raw)) = Q := by
  obtain ⟨hbl, hbi⟩ := List.getElem?_eq_some_iff.1 hb
  have wi := wrapIdx (i := i) (by omega)
  have hfi := hI.later hw
  have hfii : (frm : Int) < i := by omega
  have wm : IntKind.wrap .i64 ((i : Int) - 1) = ((i - 1 : Nat) : Int) := by rw [wrap64 (by omega) (by omega)]; omega
  have hpl : i - 1 < m.length := by omega
  have hprev := hI.prev
  have hok := hI.raw.ok
  have hr5 := hI.run5
  have hrun0 := hI.run0 hw
  have hri := hI.raw
  have hr0 := hI.raw0 hw
  have hfr := hI.from_
  have htk := hI.tick
  obtain ⟨raw, last, run, acked, tick, ones, on, frm'⟩ := w
  simp only [] at hw hprev hok hr5 hrun0 hri hr0 hfr htk
  subst hfr htk
  have hrl := rowsLv raw
  have hbb : ¬ (70368744177664 < (raw.length + 1) * 8) := by have := hok.1; omega
  have hra : raw ++ [b] ≠ [] := by simp
  simp at wi
  by_cases h5 : run = 5
  · subst h5
    have hp := hprev (by omega)
    obtain ⟨_, hpi⟩ := List.getElem?_eq_some_iff.1 hp
    by_cases hbq : b = last
    · have ho : onP ⟨raw, last, 5, acked, tick, ones, on, frm'⟩ b = (some ⟨2, frm', tick + 1, Fr.zero, false⟩, { (⟨raw, last, 5, acked, tick + 1, if b = true then ones + 1 else 0, on, frm'⟩ : Wt) with on := false }) := by
        simp [onP, endP, takeP, countP, hbq]
      rw [ho] at hq
      rw [hq _ rfl]
      subst hbq
      cases b <;> simp [go_sem, run_codeL E L89_0.eq_1, oneSt, rawV, rawH, hw, nilS, encRs, sg0, Fr.zero, u8v, hbl, hb, hbi, encLv, lv, wi, wm, hp, hpi, purse_eq, List.range_succ]
    · have ho : onP ⟨raw, last, 5, acked, tick, ones, on, frm'⟩ b = (none, ⟨raw, b, 1, acked, tick + 1, if b = true then ones + 1 else 0, on, frm'⟩) := by
        simp [onP, endP, takeP, countP, hbq]
      rw [ho] at ih
      have ih2 := ih rfl lk
      clear ih
      simp [oneSt, rawV, rawH, hw, encRs, sg0, Fr.zero, u8v, nilS, lv] at ih2
      cases b <;> cases last <;> simp at hbq <;> simp [go_sem, run_codeL E L89_0.eq_1, oneSt, rawV, rawH, hw, nilS, encRs, sg0, Fr.zero, u8v, hbl, hb, hbi, encLv, lv, wi, wm, hp, hpi, purse_eq, List.range_succ] <;> rw [run_inLoop'] <;> simp [go_sem, purse_eq, List.range_succ] <;> exact ih2
  · have h5i : ¬ (run : Int) = 5 := by omega
    have w1 : IntKind.wrap .i64 ((run : Int) + 1) = run + 1 := wrap64 (by omega) (by omega)
    have ih := fun q => ih q true
    have hN := fun f => next4_spec raw (fun q => by have := hri q; omega) false f
    have hN1 := hN false
    have hfive := @nextF_five raw
    have height := @nextF_eight raw
    have ho : onP ⟨raw, last, run, acked, tick, ones, on, frm'⟩ b = endP (takeP ⟨raw, last, run, acked, tick + 1, if b = true then ones + 1 else 0, on, frm'⟩ b) := rfl
    rw [ho] at ih hq
    unfold takeP at ih hq
    simp only [if_neg h5] at ih hq
    clear ho
    have hA := fun (h : dataF raw ≤ raw.length) => ahead4_spec raw h (by have := hok.1; omega) false
    have hV1 := fun (h : raw.length = sumF raw + 15) => value4_spec (raw.drop (sumF raw)) (by simp; omega) false
    have hS := fun (h : raw.length = sumF raw + 15) => sum4_spec (raw.take (sumF raw)) (by simp; have := hok.1; omega) false
    have hV2 := value4_spec (bitsOf 15 (c15L (raw.take (sumF raw)))) (by rw [bitsOf_length]; omega) false
    have hright : raw.length = sumF raw + 15 → (rightF raw = true ↔ valB (raw.drop (sumF raw)) = valB (bitsOf 15 (c15L (raw.take (sumF raw))))) := by
      intro h
      rw [valB_inj (by rw [bitsOf_length, List.length_drop]; omega)]
      unfold rightF
      rw [decide_eq_true_eq, List.take_of_length_le (by omega)]
    have hsl : raw.length = sumF raw + 15 → sumF raw ≤ raw.length := fun h => by omega
    have hF := fun (h : (nextF raw).1 = 8) => frame4_spec raw (height h).1 (by have := (height h).2; omega) hr0 (by have := hok.1; omega) false
    rw [List.map_drop] at hV1
    rw [List.map_take] at hS
    have hbl15 : ((bitsOf 15 (c15L (raw.take (sumF raw)))).map encLv).length = 15 := by rw [List.length_map, bitsOf_length]
    have hc1 : cutE (raw.map encLv) (sumF raw) (raw.length - sumF raw) = (raw.map encLv).drop (sumF raw) := by unfold cutE; rw [List.take_of_length_le (by rw [List.length_map]; omega)]
    have hc2 : cutE (raw.map encLv) 0 (sumF raw) = (raw.map encLv).take (sumF raw) := by unfold cutE; rw [List.drop_zero, Nat.zero_add]
    have hc3 := cutE_whole hbl15
    have hrl15 := rowsLv (bitsOf 15 (c15L (raw.take (sumF raw))))
    generalize (bitsOf 15 (c15L (raw.take (sumF raw)))).map encLv = B15 at *
    generalize valB (bitsOf 15 (c15L (raw.take (sumF raw)))) = vb at *
    generalize valB (raw.drop (sumF raw)) = va at *
    have hkk : (nextF raw).1 ≤ 8 := by
      have h9 := nextF_le raw
      apply Classical.byContradiction
      intro q
      have q9 : (nextF raw).1 = 9 := by omega
      have hs := sumF_ge raw
      obtain ⟨g1, g2⟩ := nextF_gt (m := raw) (by omega)
      have g3 := hri g1
      unfold nextF at q9
      split at q9; · simp at q9
      split at q9; · simp at q9
      split at q9; · simp at q9
      split at q9; · simp at q9
      split at q9; · simp at q9
      split at q9; · simp at q9
      split at q9; · simp at q9
      split at q9; · simp at q9
      split at q9; · simp at q9
      omega
    clear hri
    generalize sumF raw = sf at *
    generalize nextF raw = nx at *
    obtain ⟨kind, kx⟩ := nx
    simp only [] at hN1 hfive height hF hkk hrun0 ih hq
    clear hN height
    by_cases k4 : 4 < kind
    · have k4i : (4 : Int) < kind := by omega
      have k4j : ¬ (kind : Int) ≤ 4 := by omega
      simp only [if_pos k4] at ih hq
      by_cases k6 : kind = 6
      · subst k6
        simp [endP] at ih hq
        have ih2 := ih
        clear ih
        simp [oneSt, rawV, rawH, hw, encRs, sg0, Fr.zero, u8v, nilS, lv, encLv] at ih2
        cases b <;> simp at ih2 <;> simp [go_sem, run_codeL E L89_0.eq_1, oneSt, rawV, rawH, hw, nilS, encRs, sg0, Fr.zero, u8v, hbl, hb, hbi, encLv, lv, wi, h5i, hN1, k4i, hrl, hbb, hw, rowsOk, purse_eq, List.range_succ] <;> rw [run_inLoop'] <;> simp [go_sem, purse_eq, List.range_succ] <;> exact ih2
      · have k6i : ¬ (kind : Int) = 6 := by omega
        by_cases k5 : kind = 5
        · subst k5
          obtain ⟨g1, g2⟩ := hfive rfl
          have hright := hright g2
          have hA := hA g1
          have hV1 := hV1 g2
          have hS := hS g2
          have hsl := hsl g2
          by_cases hrt : rightF raw = true
          · have hvv := hright.1 hrt
            subst hvv
            simp [endP, hrt] at ih hq
            cases b
            · simp at hq
              rw [hq]
              simp [go_sem, run_codeL E L89_0.eq_1, oneSt, rawV, rawH, hw, nilS, encRs, sg0, Fr.zero, u8v, hbl, hb, hbi, encLv, lv, wi, h5i, hN1, hA, hV1, hV2, hS, hsl, hc1, hc2, hc3, hbl15, hrl15, k4i, hrl, hbb, hw, rowsOk, purse_eq, List.range_succ]
            · simp at ih
              have ih2 := ih
              clear ih
              simp [oneSt, rawV, rawH, hw, encRs, sg0, Fr.zero, u8v, nilS, lv, encLv] at ih2
              simp [go_sem, run_codeL E L89_0.eq_1, oneSt, rawV, rawH, hw, nilS, encRs, sg0, Fr.zero, u8v, hbl, hb, hbi, encLv, lv, wi, h5i, hN1, hA, hV1, hV2, hS, hsl, hc1, hc2, hc3, hbl15, hrl15, k4i, hrl, hbb, hw, rowsOk, purse_eq, List.range_succ]
              rw [run_inLoop']
              simp [go_sem, purse_eq, List.range_succ]
              exact ih2
          · have hvv : ¬ va = vb := fun q => hrt (hright.2 q)
            have hvvi : ¬ (va : Int) = (vb : Int) := by omega
            have hrt : rightF raw = false := by simpa using hrt
            simp [endP, hrt] at hq
            rw [hq]
            simp [go_sem, run_codeL E L89_0.eq_1, oneSt, rawV, rawH, hw, nilS, encRs, sg0, Fr.zero, u8v, hbl, hb, hbi, encLv, lv, wi, h5i, hN1, hA, hV1, hV2, hS, hsl, hc1, hc2, hc3, hbl15, hrl15, hvv, hvvi, k4i, hrl, hbb, hw, rowsOk, purse_eq, List.range_succ]
        · have k5i : ¬ (kind : Int) = 5 := by omega
          clear hfive hA hV1 hS hV2 hright hsl
          by_cases k8 : kind = 8 ∧ kx = 5
          · obtain ⟨rfl, rfl⟩ := k8
            have hF1 := hF rfl
            simp [endP] at hq
            cases b
            · simp at hq
              rw [hq]
              simp [go_sem, run_codeL E L89_0.eq_1, oneSt, rawV, rawH, hw, nilS, encRs, sg0, Fr.zero, u8v, hbl, hb, hbi, encLv, lv, wi, h5i, hN1, k4i, hrl, hbb, hw, rowsOk, purse_eq, List.range_succ]
            · simp at hq
              rw [hq]
              have hF2 := hF1 false
              simp [encFr, u8v] at hF2
              cases acked <;> simp [go_sem, run_codeL E L89_0.eq_1, oneSt, rawV, rawH, hw, nilS, encRs, sg0, Fr.zero, u8v, hbl, hb, hbi, encLv, lv, wi, h5i, hN1, hF2, k4i, hrl, hbb, hw, rowsOk, purse_eq, List.range_succ]
          · have k8i : (kind : Int) = 8 → ¬ (kx : Int) = 5 := by omega
            clear hF
            simp [endP, k5, k6, k8] at ih hq
            have e8 : (decide ((kind : Int) = 8) && decide ((kx : Int) = 5)) = false := by simpa using k8i
            by_cases k8b : kind = 8
            · subst k8b
              have kxi := k8i rfl
              have kx5 : ¬ kx = 5 := by omega
              cases b
              · simp at hq
                rw [hq]
                simp [go_sem, run_codeL E L89_0.eq_1, oneSt, rawV, rawH, hw, nilS, encRs, sg0, Fr.zero, u8v, hbl, hb, hbi, encLv, lv, wi, h5i, hN1, k4i, kxi, kx5, hrl, hbb, hw, rowsOk, purse_eq, List.range_succ]
              · simp at ih
                have ih2 := ih
                clear ih
                simp [oneSt, rawV, rawH, hw, encRs, sg0, Fr.zero, u8v, nilS, lv, encLv] at ih2
                simp [go_sem, run_codeL E L89_0.eq_1, oneSt, rawV, rawH, hw, nilS, encRs, sg0, Fr.zero, u8v, hbl, hb, hbi, encLv, lv, wi, h5i, hN1, k4i, kxi, kx5, hrl, hbb, hw, rowsOk, purse_eq, List.range_succ]
                rw [run_inLoop']
                simp [go_sem, purse_eq, List.range_succ]
                exact ih2
            · have k8bi : ¬ (kind : Int) = 8 := by omega
              cases b
              · simp [k4] at hq
                rw [hq]
                simp [go_sem, run_codeL E L89_0.eq_1, oneSt, rawV, rawH, hw, nilS, encRs, sg0, Fr.zero, u8v, hbl, hb, hbi, encLv, lv, wi, h5i, hN1, k4i, k4, k4j, k5, k5i, k6, k6i, k8b, k8bi, hrl, hbb, hw, rowsOk, purse_eq, List.range_succ]
              · simp at ih
                have ih2 := ih
                clear ih
                simp [oneSt, rawV, rawH, hw, encRs, sg0, Fr.zero, u8v, nilS, lv, encLv] at ih2
                simp [go_sem, run_codeL E L89_0.eq_1, oneSt, rawV, rawH, hw, nilS, encRs, sg0, Fr.zero, u8v, hbl, hb, hbi, encLv, lv, wi, h5i, hN1, k4i, k4, k4j, k5, k5i, k6, k6i, k8b, k8bi, hrl, hbb, hw, rowsOk, purse_eq, List.range_succ]
                rw [run_inLoop']
                simp [go_sem, purse_eq, List.range_succ]
                exact ih2
    · have k4i : ¬ (4 : Int) < kind := by omega
      have k4j : (kind : Int) ≤ 4 := by omega
      have k5 : ¬ kind = 5 := by omega
      have k6 : ¬ kind = 6 := by omega
      have k8 : ¬ kind = 8 := by omega
      have hr1 := hrun0 (by omega)
      have hp := hprev hr1
      obtain ⟨_, hpi⟩ := List.getElem?_eq_some_iff.1 hp
      clear hF hfive hA hV1 hS hV2 hright hsl
      simp [endP, k4, k5, k6, k8, hr1] at ih hq
      by_cases hbq : b = last
      · subst hbq
        simp at ih
        have ih2 := ih
        clear ih
        simp [oneSt, rawV, rawH, hw, encRs, sg0, Fr.zero, u8v, nilS, lv, encLv] at ih2
        cases b <;> simp at ih2 <;> simp [go_sem, run_codeL E L89_0.eq_1, oneSt, rawV, rawH, hw, nilS, encRs, sg0, Fr.zero, u8v, hbl, hb, hbi, encLv, lv, wi, h5i, hN1, k4i, k4j, hfii, wm, hp, hpi, w1, hrl, hbb, hw, rowsOk, purse_eq, List.range_succ] <;> rw [run_inLoop'] <;> simp [go_sem, purse_eq, List.range_succ] <;> exact ih2
      · simp [hbq] at ih
        have ih2 := ih
        clear ih
        simp [oneSt, rawV, rawH, hw, encRs, sg0, Fr.zero, u8v, nilS, lv, encLv] at ih2
        cases b <;> cases last <;> simp at hbq <;> simp at ih2 <;> simp [go_sem, run_codeL E L89_0.eq_1, oneSt, rawV, rawH, hw, nilS, encRs, sg0, Fr.zero, u8v, hbl, hb, hbi, encLv, lv, wi, h5i, hN1, k4i, k4j, hfii, wm, hp, hpi, w1, hrl, hbb, hw, rowsOk, purse_eq, List.range_succ] <;> rw [run_inLoop'] <;> simp [go_sem, purse_eq, List.range_succ] <;> exact ih2
theorem one_loop (m : List Bool) (hm : m.length ≤ 1000000) (nl fu : Bool) (frm : Nat) (hf : m[frm]? = some false) (k : List Item) (R : Option Sg → Option (AVal × Heap))
    (hR : ∀ s, R (some s) = some (.tup [.agg (encRs s), .lit (.bool true)], []))
    (hk : ∀ (τ : Tmps) lk' m', lk 4 τ = .ptr 0 0 → finK 0 [.cell 4 true 16, .tmp 5] (run E 0 k τ (.box (encRs sg0) :: rawH lk' m')) = R none) :
    ∀ (d i : Nat) (w : Wt) (lk : Bool), i + d = m.length → RI m frm i w →
    finK 0 [.cell 4 true 16, .tmp 5] (run E 0 (.code L89_0 :: .inLoop [1000000, 0, 1, 4, 6, 7, 8, 9] L89_0 :: .inBlock 0 :: k) (oneSt m nl fu frm i w) (.box (encRs sg0) :: rawH lk w.raw)) = R (oneGo w (m.drop i)) := by
  intro d
  induction d with
  | zero =>
    intro i w lk hi hI
    have : i = m.length := by omega
    subst this
    rw [List.drop_length, oneGo]
    unfold oneSt
    simp [go_sem, run_codeL E L89_0.eq_1]
    exact hk _ _ _ rfl
  | succ d ih =>
    intro i w lk hi hI
    have hlt : i < m.length := by omega
    have hb : m[i]? = some m[i] := List.getElem?_eq_getElem hlt
    rw [List.drop_eq_getElem_cons hlt, oneGo]
    by_cases hw : w.raw = []
    · have hif := (hI.init hw).1
      subst hif
      have hbf : m[i] = false := by rw [hb] at hf; exact Option.some.inj hf
      have hon : (onP w m[i]).1 = none := by
        have hr0 := (hI.init hw).2
        rw [hbf]
        simp [onP, endP, takeP, countP, hw, hr0, show nextF [] = (0, 0) from rfl]
      have hS := hI.step hb (fun _ => hbf) hon
      rw [hon]
      simp only []
      rw [hbf] at hS ⊢
      exact one_nil m hm nl fu i w hI hw hf lk k _ (fun lk' => ih (i + 1) _ lk' (by omega) hS)
    · refine one_own m hm nl fu frm i hlt w hI hw m[i] hb lk k _ ?_ ?_
      · intro s hs
        rw [hs]
        exact hR s
      · intro hn lk'
        rw [hn]
        exact ih (i + 1) _ lk' (by omega) (hI.step hb (fun q => absurd q hw) hn)
def oneRes (o : Option Sg) : AVal := match o with | none => .tup [.agg (encRs sg0), .lit (.bool false)] | some s => .tup [.agg (encRs s), .lit (.bool true)]
/-- The watcher as a frame begins. -/
def onW (w : Wt) (frm : Nat) : Wt := { w with on := true, frm := frm, tick := frm, raw := [], last := false, run := 0, acked := false }
theorem one_spec (m : List Bool) (hm : m.length ≤ 1000000) (nl fu : Bool) (frm : Nat) (hf : m[frm]? = some false) (w : Wt) :
    call E (.func (.func 89) [] []) [.imm nl fu true (m.map encLv), .lit (.int .i64 frm)] [] = some (oneRes (oneGo (onW w frm) (m.drop frm)), []) := by
  rw [call_func E E89]
  obtain ⟨hfl, -⟩ := List.getElem?_eq_some_iff.1 hf
  have hI : RI m frm frm (onW w frm) := ⟨by simp [onW], rfl, rfl, rfl, by intro q; simp [onW, dataF, extF] at q, fun q => absurd rfl q, Nat.le_refl _, fun _ => ⟨rfl, rfl⟩, fun q => absurd rfl q, fun q => absurd rfl q, fun q => by simp [onW] at q⟩
  have h := fun k hk => one_loop m hm nl fu frm hf k (fun o => some (oneRes o, [])) (fun _ => rfl) hk (m.length - frm) frm (onW w frm) false (by omega) hI
  generalize oneGo (onW w frm) (m.drop frm) = o at h ⊢
  simp only [oneSt, onW, rawV, rawH, if_true, lv, Bool.not_false, encRs, sg0, Fr.zero, u8v, Int.natCast_zero, nilS, show decide (2 = 1) = false from rfl] at h
  simp [go_sem, ir89, nilS, purse_eq, List.range_succ]
  rw [run_inLoop']
  simp [go_sem, purse_eq, List.range_succ]
  refine h _ ?_
  intro τ lk' m' t4
  by_cases hm' : m' = []
  · subst hm'
    simp [go_sem, t4, oneRes, encRs, sg0, Fr.zero, u8v, purse_eq, List.range_succ]
  · simp [go_sem, t4, oneRes, hm', encRs, sg0, Fr.zero, u8v, purse_eq, List.range_succ]
end Go.AM.R1
open Go Go.AM
namespace Go.AM.R1
/-! ### What the document sees, all of it -/
def trail (m : List Bool) : Nat → Nat
  | 0 => 0
  | i + 1 => if m[i]? = some true then trail m i + 1 else 0
theorem trail_le (m : List Bool) : ∀ i, trail m i ≤ i
  | 0 => Nat.le_refl _
  | i + 1 => by
    have := trail_le m i
    rw [trail]; split <;> omega
theorem onP_facts (w : Wt) (b : Bool) : (onP w b).2.tick = w.tick + 1 ∧ (onP w b).2.ones = (if b = true then w.ones + 1 else 0) ∧ (∀ s, (onP w b).1 = some s → s.to = w.tick + 1 ∧ (onP w b).2.on = false) ∧ ((onP w b).1 = none → (onP w b).2.on = w.on) := by
  have hk := takeP_keep (countP w b) b
  unfold onP endP
  by_cases h0 : (takeP (countP w b) b).1 = 0
  · rw [if_pos h0]
    exact ⟨hk.2.1, hk.2.2.2, fun s h => (by simp at h), fun _ => hk.2.2.1⟩
  · rw [if_neg h0]
    by_cases h2 : (takeP (countP w b) b).1 = 2
    · rw [if_pos h2]
      exact ⟨hk.2.1, hk.2.2.2, fun s h => (by simp only [Option.some.injEq] at h; subst h; exact ⟨hk.2.1, rfl⟩), fun h => (by simp at h)⟩
    · rw [if_neg h2]
      exact ⟨hk.2.1, hk.2.2.2, fun s h => (by simp only [Option.some.injEq] at h; subst h; exact ⟨hk.2.1, rfl⟩), fun h => (by simp at h)⟩
theorem trail_step {m : List Bool} {i : Nat} {b : Bool} (hb : m[i]? = some b) : trail m (i + 1) = if b = true then trail m i + 1 else 0 := by
  rw [trail, hb]; cases b <;> rfl
theorem sgGo_one (m : List Bool) : ∀ (d i : Nat) (w : Wt), i + d = m.length → w.on = true → w.tick = i → w.ones = trail m i →
    match oneGo w (m.drop i) with
    | none => sgGo w (m.drop i) = []
    | some s => ∃ w', w'.on = false ∧ w'.tick = s.to ∧ w'.ones = trail m s.to ∧ i < s.to ∧ s.to ≤ m.length ∧ sgGo w (m.drop i) = s :: sgGo w' (m.drop s.to) := by
  intro d
  induction d with
  | zero =>
    intro i w hi h1 h2 h3
    have : i = m.length := by omega
    subst this
    rw [List.drop_length]
    rfl
  | succ d ih =>
    intro i w hi h1 h2 h3
    have hlt : i < m.length := by omega
    have hb : m[i]? = some m[i] := List.getElem?_eq_getElem hlt
    obtain ⟨f1, f2, f3, f4⟩ := onP_facts w m[i]
    rw [List.drop_eq_getElem_cons hlt, oneGo, sgGo, seeP_onP _ h1]
    cases hs : (onP w m[i]).1 with
    | some s =>
      simp only []
      obtain ⟨g1, g2⟩ := f3 s hs
      have e : s.to = i + 1 := by omega
      rw [e]
      exact ⟨_, g2, by omega, by rw [f2, h3, trail_step hb], by omega, by omega, rfl⟩
    | none =>
      simp only [List.nil_append]
      have := ih (i + 1) (onP w m[i]).2 (by omega) (by rw [f4 hs]; exact h1) (by omega) (by rw [f2, h3, trail_step hb])
      revert this
      cases oneGo (onP w m[i]).2 (m.drop (i + 1)) with
      | none => exact id
      | some s =>
        rintro ⟨w', q1, q2, q3, q4, q5, q6⟩
        exact ⟨w', q1, q2, q3, by omega, q5, q6⟩
/-- One level, no frame on. -/
theorem sgGo_off {m : List Bool} {i : Nat} {w : Wt} (hi : i < m.length) (hon : w.on = false) (hn : ¬ (m[i] = false ∧ 10 ≤ w.ones)) :
    sgGo w (m.drop i) = sgGo (countP w m[i]) (m.drop (i + 1)) := by
  have hst : startP w m[i] = w := by unfold startP; rw [if_neg (by rintro ⟨-, q⟩; exact hn q)]
  have hse : seeP w m[i] = (none, countP w m[i]) := by unfold seeP; rw [hst, if_pos hon]
  rw [List.drop_eq_getElem_cons hi, sgGo, hse]
  rfl
theorem sgGo_start {m : List Bool} {i : Nat} {w : Wt} (hi : i < m.length) (hon : w.on = false) (ht : w.tick = i) (hn : m[i] = false ∧ 10 ≤ w.ones) :
    sgGo w (m.drop i) = sgGo (onW w i) (m.drop i) := by
  have hst : startP w m[i] = onW w i := by
    unfold startP onW; rw [if_pos ⟨hon, hn⟩, ← ht]
  have hso : startP (onW w i) m[i] = onW w i := by unfold startP; rw [if_neg (by simp [onW])]
  have hse : seeP w m[i] = seeP (onW w i) m[i] := by unfold seeP; rw [hst, hso]
  rw [List.drop_eq_getElem_cons hi, sgGo, sgGo, hse]
def rsV (ix : Nat) (n : Nat) : AVal := if n = 0 then nilS else .own ix n 16 0 n
def rsH (out : List Sg) : Heap := if out = [] then [] else [.arr true false false 16 (out.map encRs)]
theorem rowsRs (l : List Sg) : rowsOk 16 (l.map encRs) = true := rowsOk_map (f := encRs) (fun _ => rfl) l
theorem rall_inner (m : List Bool) (hm : m.length ≤ 1000000) (nl fu : Bool) (out : List Sg) (hout : out ≠ []) (at' : Nat) (hat : at' ≤ m.length) (k : List Item) (Q : Option (AVal × Heap))
    (hk : ∀ τ, lk 0 τ = .imm nl fu true (m.map encLv) → lk 3 τ = .own 0 out.length 16 0 out.length → lk 4 τ = .lit (.int .i64 (trail m at')) → lk 5 τ = .lit (.int .i64 at') → finK 0 [.tmp 2] (run E 0 k τ [.arr true false false 16 (out.map encRs)]) = Q) :
    ∀ (d j : Nat), j + d = at' → trail m at' = j + trail m d →
    finK 0 [.tmp 2] (run E 0 (.code L52_1 :: .inLoop [1000000, 0, 3, 4, 5] L52_1 :: .inBlock 2 :: k) [(0, .imm nl fu true (m.map encLv)), (3, .own 0 out.length 16 0 out.length), (4, .lit (.int .i64 j)), (5, .lit (.int .i64 at'))] [.arr true false false 16 (out.map encRs)]) = Q := by
  intro d
  induction d with
  | zero =>
    intro j hj ht
    have : j = at' := by omega
    subst this
    rw [show trail m 0 = 0 from rfl, Nat.add_zero] at ht
    simp [go_sem, run_codeL E L52_1.eq_1]
    refine hk _ rfl rfl ?_ rfl
    rw [ht]; rfl
  | succ d ih =>
    intro j hj ht
    have h1 : (j : Int) < at' := by omega
    have w1 : IntKind.wrap .i64 ((at' : Int) - 1) = ((at' - 1 : Nat) : Int) := by rw [wrap64 (by omega) (by omega)]; omega
    have w2 : IntKind.wrap .i64 (((at' - 1 : Nat) : Int) - (j : Int)) = (d : Int) := by rw [wrap64 (by omega) (by omega)]; omega
    have wi := wrapIdx (i := j) (by omega)
    have hdl : d < m.length := by omega
    have hb : m[d]? = some m[d] := List.getElem?_eq_getElem hdl
    rw [trail_step hb] at ht
    by_cases hv : m[d] = true
    · rw [if_pos hv] at ht
      have ih2 := ih (j + 1) (by omega) (by omega)
      have hb2 : m[d]? = some true := by rw [hb, hv]
      simp at ih2 wi
      simp [go_sem, run_codeL E L52_1.eq_1, h1, w1, w2, wi, hdl, hb2, hv, encLv, lv, purse_eq, List.range_succ]
      rw [run_inLoop']
      simp [go_sem, purse_eq, List.range_succ]
      exact ih2
    · rw [if_neg hv] at ht
      have hv : m[d] = false := by simpa using hv
      have hb2 : m[d]? = some false := by rw [hb, hv]
      simp [go_sem, run_codeL E L52_1.eq_1, h1, w1, w2, wi, hdl, hb2, hv, encLv, lv, purse_eq, List.range_succ]
      refine hk _ rfl rfl ?_ rfl
      rw [ht]; rfl
end Go.AM.R1
open Go Go.AM
namespace Go.AM.R1
set_option maxHeartbeats 4000000 in
theorem rsall_loop (m : List Bool) (hm : m.length ≤ 500000) (nl fu : Bool) (k : List Item)
    (hk : ∀ τ out, lk 3 τ = rsV 0 out.length → finK 0 [.tmp 2] (run E 0 k τ (rsH out)) = some (rsV 0 out.length, rsH out)) :
    ∀ (n i : Nat) (w : Wt) (out : List Sg), m.length - i ≤ n → i ≤ m.length → w.on = false → w.tick = i → w.ones = trail m i → out.length ≤ i →
    finK 0 [.tmp 2] (run E 0 (.code L52_0 :: .inLoop [1000000, 0, 3, 4, 5] L52_0 :: .inBlock 0 :: k) [(0, .imm nl fu true (m.map encLv)), (3, rsV 0 out.length), (4, .lit (.int .i64 w.ones)), (5, .lit (.int .i64 i))] (rsH out)) = some (rsV 0 (out ++ sgGo w (m.drop i)).length, rsH (out ++ sgGo w (m.drop i))) := by
  intro n
  induction n with
  | zero =>
    intro i w out hn hi h1 h2 h3 h4
    have : i = m.length := by omega
    subst this
    rw [List.drop_length, sgGo, List.append_nil]
    simp [go_sem, run_codeL E L52_0.eq_1]
    exact hk _ out rfl
  | succ n ih =>
    intro i w out hn hi h1 h2 h3 h4
    by_cases hie : i = m.length
    · subst hie
      rw [List.drop_length, sgGo, List.append_nil]
      simp [go_sem, run_codeL E L52_0.eq_1]
      exact hk _ out rfl
    · have hlt : i < m.length := by omega
      have hb : m[i]? = some m[i] := List.getElem?_eq_getElem hlt
      have wi := wrapIdx (i := i) (by omega)
      have ht := trail_le m i
      have wo := wrapIdx (i := w.ones) (by omega)
      have hrs := rowsRs out
      have hsz : ¬ (70368744177664 < (out.length + 1) * 64) := by omega
      by_cases hbt : m[i] = true
      · have e := sgGo_off (w := w) hlt h1 (by rw [hbt]; simp)
        have ih2 := ih (i + 1) (countP w m[i]) out (by omega) (by omega) h1 (by show w.tick + 1 = _; omega) (by show (if m[i] = true then w.ones + 1 else 0) = _; rw [trail_step hb, h3]) (by omega)
        rw [e]
        have ho : (countP w m[i]).ones = w.ones + 1 := by show (if m[i] = true then w.ones + 1 else 0) = _; rw [if_pos hbt]
        rw [ho] at ih2
        generalize (some (rsV 0 (out ++ sgGo (countP w m[i]) (m.drop (i + 1))).length, rsH (out ++ sgGo (countP w m[i]) (m.drop (i + 1)))) : Option (AVal × Heap)) = Q at *
        simp at ih2 wi wo
        by_cases hout : out = []
        · subst hout
          simp [rsV, rsH, nilS] at ih2
          simp [go_sem, run_codeL E L52_0.eq_1, hlt, hb, hbt, encLv, lv, wi, wo, rsV, rsH, nilS, purse_eq, List.range_succ]
          rw [run_inLoop']
          simp [go_sem, purse_eq, List.range_succ]
          exact ih2
        · have hol : ¬ out.length = 0 := by have := List.length_pos_iff.2 hout; omega
          simp only [rsV, rsH, hout, hol, if_false] at ih2 ⊢
          simp [go_sem, run_codeL E L52_0.eq_1, hlt, hb, hbt, encLv, lv, wi, wo, purse_eq, List.range_succ]
          rw [run_inLoop']
          simp [go_sem, purse_eq, List.range_succ]
          exact ih2
      · have hbf : m[i] = false := by simpa using hbt
        by_cases h10 : w.ones < 10
        · have h10i : (w.ones : Int) < 10 := by omega
          have e := sgGo_off (w := w) hlt h1 (by omega)
          have ih2 := ih (i + 1) (countP w m[i]) out (by omega) (by omega) h1 (by show w.tick + 1 = _; omega) (by show (if m[i] = true then w.ones + 1 else 0) = _; rw [trail_step hb, h3]) (by omega)
          rw [e]
          have ho : (countP w m[i]).ones = 0 := by show (if m[i] = true then w.ones + 1 else 0) = _; rw [if_neg hbt]
          rw [ho] at ih2
          generalize (some (rsV 0 (out ++ sgGo (countP w m[i]) (m.drop (i + 1))).length, rsH (out ++ sgGo (countP w m[i]) (m.drop (i + 1)))) : Option (AVal × Heap)) = Q at *
          simp at ih2 wi wo
          by_cases hout : out = []
          · subst hout
            simp [rsV, rsH, nilS] at ih2
            simp [go_sem, run_codeL E L52_0.eq_1, hlt, hb, hbf, h10i, encLv, lv, wi, wo, rsV, rsH, nilS, purse_eq, List.range_succ]
            rw [run_inLoop']
            simp [go_sem, purse_eq, List.range_succ]
            exact ih2
          · have hol : ¬ out.length = 0 := by have := List.length_pos_iff.2 hout; omega
            simp only [rsV, rsH, hout, hol, if_false] at ih2 ⊢
            simp [go_sem, run_codeL E L52_0.eq_1, hlt, hb, hbf, h10i, encLv, lv, wi, wo, purse_eq, List.range_succ]
            rw [run_inLoop']
            simp [go_sem, purse_eq, List.range_succ]
            exact ih2
        · have h10i : ¬ (w.ones : Int) < 10 := by omega
          have h10j : ((w.ones : Int) < 10) = False := eq_false h10i
          have e := sgGo_start (w := w) hlt h1 h2 ⟨hbf, by omega⟩
          have hO := one_spec m (by omega) nl fu i (by rw [hb, hbf]) w
          have hf := sgGo_one m (m.length - i) i (onW w i) (by omega) rfl rfl h3
          rw [e]
          cases ho : oneGo (onW w i) (m.drop i) with
          | none =>
            rw [ho] at hO hf
            simp only [] at hf
            rw [hf, List.append_nil]
            simp [oneRes, encRs, sg0, Fr.zero, u8v] at hO
            by_cases hout : out = []
            · subst hout
              simp [go_sem, run_codeL E L52_0.eq_1, hlt, hb, hbf, h10i, h10j, hO, encLv, lv, wi, wo, rsV, rsH, nilS, purse_eq, List.range_succ]
            · have hol : ¬ out.length = 0 := by have := List.length_pos_iff.2 hout; omega
              simp only [rsV, rsH, hout, hol, if_false]
              simp [go_sem, run_codeL E L52_0.eq_1, hlt, hb, hbf, h10i, h10j, hO, encLv, lv, wi, wo, purse_eq, List.range_succ]
          | some s =>
            rw [ho] at hO hf
            obtain ⟨w', q1, q2, q3, q4, q5, q6⟩ := hf
            rw [q6, show out ++ s :: sgGo w' (m.drop s.to) = (out ++ [s]) ++ sgGo w' (m.drop s.to) from by simp]
            have ih2 := ih s.to w' (out ++ [s]) (by omega) q5 q1 q2 q3 (by simp; omega)
            generalize (some (rsV 0 ((out ++ [s]) ++ sgGo w' (m.drop s.to)).length, rsH ((out ++ [s]) ++ sgGo w' (m.drop s.to))) : Option (AVal × Heap)) = Q at *
            have hne : out ++ [s] ≠ [] := by simp
            have hnl : ¬ (out ++ [s]).length = 0 := by simp
            rw [q3] at ih2
            have hin := fun k hk => rall_inner m (by omega) nl fu (out ++ [s]) hne s.to q5 k Q hk s.to 0 (by omega) (by omega)
            have hr16 : rowsOk 16 [encRs s] = true := rowsRs [s]
            simp only [rsV, rsH, hne, hnl, if_false] at ih2 hin ⊢
            simp [oneRes, encRs, u8v] at hO
            by_cases hout : out = []
            · subst hout
              simp [encRs, u8v] at hin ih2 hr16
              simp [go_sem, run_codeL E L52_0.eq_1, hlt, hb, hbf, h10i, h10j, hO, encLv, lv, wi, wo, nilS, hr16, purse_eq, List.range_succ]
              rw [run_inLoop']
              simp [go_sem, purse_eq, List.range_succ]
              refine hin _ ?_
              intro τ t0 t3 t4 t5
              simp [go_sem, t0, t3, t4, t5, purse_eq, List.range_succ]
              rw [run_inLoop']
              simp [go_sem, t0, t3, t4, t5, purse_eq, List.range_succ]
              exact ih2
            · have hol : ¬ out.length = 0 := by have := List.length_pos_iff.2 hout; omega
              simp [encRs, u8v] at hr16
              simp only [List.map_append, List.map_cons, List.map_nil, List.length_append, List.length_cons, List.length_nil, Nat.zero_add] at hin ih2
              have hml : (out.map encRs).length = out.length := by simp
              generalize out.map encRs = OB at *
              simp only [encRs, u8v] at hin ih2
              simp [go_sem, run_codeL E L52_0.eq_1, hlt, hb, hbf, h10i, h10j, hO, hol, hout, encLv, lv, wi, wo, nilS, hr16, hrs, hsz, hml, purse_eq, List.range_succ]
              rw [run_inLoop']
              simp [go_sem, purse_eq, List.range_succ]
              refine hin _ ?_
              intro τ t0 t3 t4 t5
              simp [go_sem, t0, t3, t4, t5, hml, purse_eq, List.range_succ]
              rw [run_inLoop']
              simp [go_sem, t0, t3, t4, t5, hml, purse_eq, List.range_succ]
              exact ih2
theorem rsall_spec (m : List Bool) (hm : m.length ≤ 500000) (nl fu : Bool) : call E (.func (.func 52) [] []) [.imm nl fu true (m.map encLv)] [] = some (rsV 0 (sgAll m).length, rsH (sgAll m)) := by
  rw [call_func E E52]
  have h := fun k hk => rsall_loop m hm nl fu k hk m.length 0 wat0 [] (by omega) (by omega) rfl rfl rfl (by simp)
  rw [List.drop_zero, List.nil_append, show sgGo wat0 m = sgAll m from rfl] at h
  generalize (some (rsV 0 (sgAll m).length, rsH (sgAll m)) : Option (AVal × Heap)) = G at h ⊢
  simp only [List.length_nil, rsV, rsH, if_true, nilS, wat0, Int.natCast_zero] at h
  simp [go_sem, ir52, nilS, purse_eq, List.range_succ]
  rw [run_inLoop']
  simp [go_sem, purse_eq, List.range_succ]
  refine h _ ?_
  intro τ out t3
  by_cases ho : out = []
  · subst ho
    simp at t3
    simp [go_sem, t3, purse_eq, List.range_succ]
  · have hol : ¬ out.length = 0 := by have := List.length_pos_iff.2 ho; omega
    simp only [ho, hol, if_false] at t3 ⊢
    simp [go_sem, t3, purse_eq, List.range_succ]
end Go.AM.R1
open Go Go.AM
namespace Go.AM.R1
theorem wfr_bad (m : List Bool) (hl : m.length ≤ 500000) (x : Int) (hx : x ≠ 0 ∧ x ≠ 1) (r : List Int) (nl fu : Bool) : call E (.func (.func 51) [] []) [.imm nl fu true ((m.map lv ++ x :: r).map encI)] [] = some (.tup [nilS, .lit (.int .i64 10)], []) := by
  rw [call_func E E51]
  have hA := wall_bad m hl x hx r nl fu
  generalize (m.map lv ++ x :: r).map encI = rows at *
  simp [nilS] at hA
  simp [go_sem, ir51, hA, nilS, purse_eq, List.range_succ]
/-- What each sight is. -/
def SgOk (s : Sg) : Prop := s.kind = 1 ∨ (s.kind = 2 ∧ s.frame = Fr.zero ∧ s.acked = false)
theorem endP_ok (r : Nat × Wt) (s : Sg) (h : (endP r).1 = some s) : SgOk s := by
  unfold endP at h
  split at h
  · simp at h
  · split at h
    · simp only [Option.some.injEq] at h; subst h; exact .inl rfl
    · simp only [Option.some.injEq] at h; subst h; exact .inr ⟨rfl, rfl, rfl⟩
theorem seeP_ok (w : Wt) (b : Bool) (s : Sg) (h : (seeP w b).1 = some s) : SgOk s := by
  unfold seeP at h
  split at h
  · simp at h
  · exact endP_ok _ s h
theorem sgGo_ok : ∀ (m : List Bool) (w : Wt), ∀ s ∈ sgGo w m, SgOk s
  | [], w, s, h => by simp [sgGo] at h
  | b :: m, w, s, h => by
    rw [sgGo, List.mem_append] at h
    rcases h with h | h
    · cases hs : (seeP w b).1 with
      | none => rw [hs] at h; simp at h
      | some s' =>
        rw [hs] at h
        simp only [List.mem_singleton] at h
        subst h
        exact seeP_ok w b s hs
    · exact sgGo_ok m _ s h
def rsIx (fs : List Fr) : Nat := if fs = [] then 1 else 2
theorem frAll_split (l : List Sg) (i : Nat) (hi : i < l.length) : frAll l = frAll (l.take i) ++ (frOf1 l[i] ++ frAll (l.drop (i + 1))) := by
  have h := congrArg frAll (show l = l.take i ++ (l[i] :: l.drop (i + 1)) from by rw [← List.drop_eq_getElem_cons hi, List.take_append_drop])
  rw [h]
  show List.flatMap frOf1 _ = _
  rw [List.flatMap_append, List.flatMap_cons]
  rfl
theorem frAll_take (l : List Sg) (i : Nat) (hi : i < l.length) : frAll (l.take (i + 1)) = frAll (l.take i) ++ frOf1 l[i] := by
  rw [List.take_succ_eq_append_getElem hi]
  show List.flatMap frOf1 _ = _
  rw [List.flatMap_append, List.flatMap_cons, List.flatMap_nil, List.append_nil]
  rfl
set_option maxHeartbeats 8000000 in
theorem sees_loop (l : List Sg) (hl0 : l ≠ []) (hl : l.length ≤ 500000) (hok : ∀ s ∈ l, SgOk s) (k : List Item) (Q : Option (AVal × Heap))
    (hk : ∀ τ, lk 5 τ = frV 1 (frAll l).length → lk 8 τ = .lit (.int .i64 (frAll l).length) → finK 0 [.tmp 2] (run E 0 k τ (outH l ++ (frH (frAll l) ++ rsH l))) = Q) :
    ∀ (d i : Nat), i + d = l.length →
    finK 0 [.tmp 2] (run E 0 (.code L8_0 :: .inLoop [1000000, 3, 5, 7, 8, 9] L8_0 :: .inBlock 0 :: k) [(3, outV 0 l.length), (5, frV 1 (frAll l).length), (7, rsV (rsIx (frAll l)) l.length), (8, .lit (.int .i64 (frAll (l.take i)).length)), (9, .lit (.int .i64 i))] (outH l ++ (frH (frAll l) ++ rsH l))) = Q := by
  have hln : ¬ l.length = 0 := by have := List.length_pos_iff.2 hl0; omega
  intro d
  induction d with
  | zero =>
    intro i hi
    have : i = l.length := by omega
    subst this
    rw [List.take_length]
    simp [go_sem, run_codeL E L8_0.eq_1, outV, outH, frV, frH, rsV, rsH, hl0, hln]
    have hk := fun τ => hk τ
    simp [outV, outH, frV, frH, rsV, rsH, hl0, hln] at hk
    refine hk _ ?_ ?_ <;> rfl
  | succ d ih =>
    intro i hi
    have hlt : i < l.length := by omega
    have wi := wrapIdx (i := i) (by omega)
    have ih2 := ih (i + 1) (by omega)
    have hsp := frAll_split l i hlt
    rw [frAll_take l i hlt] at ih2
    have hoki := hok l[i] (List.getElem_mem _)
    have hlg : l[i]? = some l[i] := List.getElem?_eq_getElem hlt
    have hfl : (frAll (l.take i)).length ≤ i := by
      have : ∀ q : List Sg, (frAll q).length ≤ q.length := by
        intro q; induction q with
        | nil => simp [frAll]
        | cons s q ihq =>
          have : frAll (s :: q) = frOf1 s ++ frAll q := rfl
          rw [this, List.length_append, List.length_cons]
          unfold frOf1; split <;> simp <;> omega
      have := this (l.take i)
      rw [List.length_take] at this
      omega
    obtain ⟨s, hs⟩ : ∃ s, s = l[i] := ⟨_, rfl⟩
    rw [← hs] at hoki hlg hsp ih2
    have hs' : l[i] = s := hs.symm
    clear hs
    obtain ⟨kind, frm, to, frame, acked⟩ := s
    rcases hoki with h1 | ⟨h1, h2, h3⟩
    · simp only [] at h1
      subst h1
      have hf1 : frOf1 ⟨1, frm, to, frame, acked⟩ = [frame] := rfl
      rw [hf1] at hsp ih2
      have hfne : frAll l ≠ [] := by rw [hsp]; simp
      have hfl0 : ¬ (frAll l).length = 0 := by have := List.length_pos_iff.2 hfne; omega
      have hkl : (frAll (l.take i)).length < (frAll l).length := by rw [hsp, List.length_append, List.length_append, List.length_singleton]; omega
      have hkg : (frAll l)[(frAll (l.take i)).length]? = some frame := by rw [hsp, List.getElem?_append_right (Nat.le_refl _), Nat.sub_self] <;> rfl
      have wk := wrapIdx (i := (frAll (l.take i)).length) (by omega)
      rw [List.length_append, List.length_singleton] at ih2
      generalize (frAll (l.take i)).length = kk at *
      clear hsp
      obtain ⟨hkl', hkg'⟩ := List.getElem?_eq_some_iff.1 hkg
      have hkli : ¬ (frAll l).length ≤ kk := by omega
      generalize frAll l = fs at *
      simp [outV, outH, frV, frH, rsV, rsH, rsIx, hl0, hln, hfne, hfl0] at ih2 wi wk
      simp [go_sem, run_codeL E L8_0.eq_1, hlt, hlg, hs', outV, outH, frV, frH, rsV, rsH, rsIx, hl0, hln, hfne, hfl0, encRs, encSg, encFr_eq, u8v, hkl, hkli, hkg, hkg', wi, wk, purse_eq, List.range_succ]
      rw [run_inLoop']
      simp [go_sem, purse_eq, List.range_succ]
      exact ih2
    · simp only [] at h1 h2 h3
      subst h1 h2 h3
      have hf1 : frOf1 ⟨2, frm, to, Fr.zero, false⟩ = [] := rfl
      rw [hf1, List.append_nil] at ih2
      clear hsp
      generalize (frAll (l.take i)).length = kk at *
      generalize frAll l = fs at *
      by_cases hfs : fs = []
      · subst hfs
        simp [outV, outH, frV, frH, rsV, rsH, rsIx, hl0, hln] at ih2 wi
        simp [go_sem, run_codeL E L8_0.eq_1, hlt, hlg, hs', outV, outH, frV, frH, rsV, rsH, rsIx, hl0, hln, encRs, encSg, Fr.zero, u8v, wi, nilS, purse_eq, List.range_succ]
        rw [run_inLoop']
        simp [go_sem, purse_eq, List.range_succ]
        exact ih2
      · have hfl0 : ¬ fs.length = 0 := by have := List.length_pos_iff.2 hfs; omega
        simp [outV, outH, frV, frH, rsV, rsH, rsIx, hl0, hln, hfs, hfl0] at ih2 wi
        simp [go_sem, run_codeL E L8_0.eq_1, hlt, hlg, hs', outV, outH, frV, frH, rsV, rsH, rsIx, hl0, hln, hfs, hfl0, encRs, encSg, Fr.zero, u8v, wi, nilS, purse_eq, List.range_succ]
        rw [run_inLoop']
        simp [go_sem, purse_eq, List.range_succ]
        exact ih2
theorem sees_loop0 (l : List Sg) (hl0 : l ≠ []) (hl : l.length ≤ 500000) (hok : ∀ s ∈ l, SgOk s) (k : List Item) (Q : Option (AVal × Heap))
    (hk : ∀ τ, lk 5 τ = frV 1 (frAll l).length → lk 8 τ = .lit (.int .i64 (frAll l).length) → finK 0 [.tmp 2] (run E 0 k τ (outH l ++ (frH (frAll l) ++ rsH l))) = Q) :
    finK 0 [.tmp 2] (run E 0 (.code L8_0 :: .inLoop [1000000, 3, 5, 7, 8, 9] L8_0 :: .inBlock 0 :: k) [(3, outV 0 l.length), (5, frV 1 (frAll l).length), (7, rsV (rsIx (frAll l)) l.length), (8, .lit (.int .i64 0)), (9, .lit (.int .i64 0))] (outH l ++ (frH (frAll l) ++ rsH l))) = Q :=
  sees_loop l hl0 hl hok k Q hk l.length 0 (by omega)
set_option maxHeartbeats 4000000 in
theorem watchSees_spec (l : List Int) (nl fu : Bool) :
    call E (.func (.func 8) [] []) [.imm nl fu true (l.map encI)] [] = some (.lit (.bool true), []) := by
  rw [call_func E E8]
  have ha := awake19
  by_cases h8 : (800 : Int) < l.length
  · simp [go_sem, ir8, ha, h8, purse_eq, List.range_succ]
  · have hL := levels_spec l (by omega) nl fu
    by_cases hlv : (l.all fun x => decide (x = 0 ∨ x = 1)) = true
    · rw [hlv] at hL
      obtain ⟨m, rfl⟩ := levels_map l hlv
      rw [lv_encI] at hL ⊢
      have hm : m.length ≤ 800 := by rw [List.length_map] at h8; omega
      have hA := wall_spec m (by omega) nl fu
      have hF := wfr_spec m (by omega) nl fu
      have hR := rsall_spec m (by omega) nl fu
      have hli : ¬ (800 : Int) < m.length := by omega
      have hok : ∀ s ∈ sgAll m, SgOk s := sgGo_ok m wat0
      have hsl : (sgAll m).length ≤ 500000 := by have := sgGo_len m wat0; show (sgGo wat0 m).length ≤ _; omega
      clear h8 hlv
      generalize sgAll m = l at *
      by_cases ho : l = []
      · subst ho
        simp [outV, outH, rsV, rsH, frV, frH, frAll, nilS] at hA hF hR
        simp [go_sem, ir8, ha, hL, hA, hF, hR, hli, nilS, purse_eq, List.range_succ]
        rw [run_inLoop']
        simp [go_sem, run_codeL E L8_0.eq_1, ha, nilS, purse_eq, List.range_succ]
      · have hln : ¬ l.length = 0 := by have := List.length_pos_iff.2 ho; omega
        have hloop := fun k Q hk => sees_loop0 l ho hsl hok k Q hk
        generalize frAll l = fs at *
        by_cases hfs : fs = []
        · subst hfs
          simp only [outV, outH, rsV, rsH, frV, frH, rsIx, ho, hln, List.length_nil, List.nil_append, if_true, if_false, nilS, Int.natCast_zero] at hA hF hR hloop
          simp [go_sem, ir8, ha, hL, hA, hF, hR, hli, nilS, purse_eq, List.range_succ]
          rw [run_inLoop']
          simp [go_sem, purse_eq, List.range_succ]
          refine hloop _ _ ?_
          intro τ t5 t8
          simp [go_sem, t5, t8, ha, purse_eq, List.range_succ]
        · have hfl0 : ¬ fs.length = 0 := by have := List.length_pos_iff.2 hfs; omega
          simp only [outV, outH, rsV, rsH, frV, frH, rsIx, ho, hln, hfs, hfl0, if_true, if_false, nilS] at hA hF hR hloop
          simp [go_sem, ir8, ha, hL, hA, hF, hR, hli, nilS, purse_eq, List.range_succ]
          rw [run_inLoop']
          simp [go_sem, purse_eq, List.range_succ]
          refine hloop _ _ ?_
          intro τ t5 t8
          simp [go_sem, t5, t8, ha, purse_eq, List.range_succ]
    · have hlv : (l.all fun x => decide (x = 0 ∨ x = 1)) = false := by simpa using hlv
      rw [hlv] at hL
      obtain ⟨m, x, r, e, h1, h2⟩ := levels_not l hlv
      have hml : m.length ≤ 500000 := by
        have := congrArg List.length e
        rw [List.length_append, List.length_map] at this
        omega
      have hA := wall_bad m hml x ⟨h1, h2⟩ r nl fu
      have hF := wfr_bad m hml x ⟨h1, h2⟩ r nl fu
      rw [← e] at hA hF
      simp [nilS] at hA hF
      simp [go_sem, ir8, ha, h8, hL, hA, hF, nilS, purse_eq, List.range_succ]
end Go.AM.R1
open Go Go.AM Go.Proofs
namespace Go.AM.R1

section
variable {H : Type} {P : Program}
theorem decV_int {n : Nat} {t : TypeId} {ik : IntKind} (hu : P.underlying t = some (.int ik)) {d : DataW H} {a : AVal} (h : DecV P (n + 1) t d a) :
    ∃ v, d = .lit (.int ik v) ∧ (Lit.int ik v).wf = true ∧ a = .lit (.int ik v) := by
  unfold DecV at h
  rw [if_neg (by simp [isAggT, hu])] at h
  simp only [Dec, hu] at h
  obtain ⟨v, h1, h2, h3⟩ := h
  exact ⟨v, h1, h2, by simpa using h3⟩
theorem all2_forall {α β : Type} {R : α → β → Prop} {Q : β → Prop} (h : ∀ a b, R a b → Q b) : ∀ {l : List α} {m : List β}, All2 R l m → ∀ b ∈ m, Q b
  | [], [], _, b, hb => by cases hb
  | [], _ :: _, h', _, _ => h'.elim
  | _ :: _, [], h', _, _ => h'.elim
  | a :: r, c :: s, h', b, hb => by
    rcases List.mem_cons.1 hb with rfl | hb
    · exact h _ _ h'.1
    · exact all2_forall h h'.2 b hb
theorem all2_length {α β : Type} {R : α → β → Prop} : ∀ {l : List α} {m : List β}, All2 R l m → l.length = m.length
  | [], [], _ => rfl
  | [], _ :: _, h' => h'.elim
  | _ :: _, [], h' => h'.elim
  | a :: r, c :: s, h' => by simp [all2_length h'.2]
/-- Rows that are all of a form. -/
theorem rows_map {α : Type} (f : α → List AVal) (Q : α → Prop) : ∀ {rows : List (List AVal)}, (∀ r ∈ rows, ∃ x, r = f x ∧ Q x) → ∃ l : List α, rows = l.map f ∧ ∀ x ∈ l, Q x
  | [], _ => ⟨[], rfl, by simp⟩
  | r :: s, h => by
    obtain ⟨x, hx, hq⟩ := h r (by simp)
    obtain ⟨l, hl, hl2⟩ := rows_map f Q (rows := s) fun y hy => h y (by simp [hy])
    exact ⟨x :: l, by rw [hx, hl]; rfl, fun y hy => by rcases List.mem_cons.1 hy with rfl | hy <;> simp_all⟩

theorem wf64 {v : Int} (h : (Lit.int .i64 v).wf = true) : -9223372036854775808 ≤ v ∧ v ≤ 9223372036854775807 := by
  simpa [Lit.wf, IntKind.min, IntKind.max, IntKind.signed, IntKind.bits] using h
theorem wfu32 {v : Int} (h : (Lit.int .u32 v).wf = true) : 0 ≤ v ∧ v ≤ 4294967295 := by
  simpa [Lit.wf, IntKind.min, IntKind.max, IntKind.signed, IntKind.bits] using h

theorem fieldsR_cons {α β : Type} {R : TypeId → α → β → Prop} {f : Field} {fs : List Field} : ∀ {l : List α} {m : List β}, FieldsR R (f :: fs) l m → ∃ a r b s, l = a :: r ∧ m = b :: s ∧ R f.type a b ∧ FieldsR R fs r s
  | [], _, h => h.elim
  | _ :: _, [], h => h.elim
  | a :: r, b :: s, h => ⟨a, r, b, s, rfl, rfl, h.1, h.2⟩
theorem fieldsR_nil {α β : Type} {R : TypeId → α → β → Prop} : ∀ {l : List α} {m : List β}, FieldsR R [] l m → l = [] ∧ m = []
  | [], [], _ => ⟨rfl, rfl⟩
  | [], _ :: _, h => h.elim
  | _ :: _, _, h => h.elim
theorem decArgs_cons {k : Nat} {t : TypeId} {ts : List TypeId} : ∀ {ds : List (DataW H)} {cs : List AVal}, DecArgs P k (t :: ts) ds cs → ∃ d r b s, ds = d :: r ∧ cs = b :: s ∧ DecV P k t d b ∧ DecArgs P k ts r s
  | [], _, h => h.elim
  | _ :: _, [], h => h.elim
  | d :: r, b :: s, h => ⟨d, r, b, s, rfl, rfl, h.1, h.2⟩
theorem decArgs_nil {k : Nat} : ∀ {ds : List (DataW H)} {cs : List AVal}, DecArgs P k [] ds cs → ds = [] ∧ cs = []
  | [], [], _ => ⟨rfl, rfl⟩
  | [], _ :: _, h => h.elim
  | _ :: _, _, h => h.elim
structure IsRun (P : Program) (t : TypeId) where
  f1 : Field
  f2 : Field
  f3 : Field
  hu : P.underlying t = some (.struct #[f1, f2, f3])
  h1 : P.underlying f1.type = some (.int .i64)
  h2 : P.underlying f2.type = some (.int .i64)
  h3 : P.underlying f3.type = some (.int .u32)
def Run.Fit (r : Run) : Prop := (-9223372036854775808 ≤ r.N ∧ r.N ≤ 9223372036854775807) ∧ (-9223372036854775808 ≤ r.Bus ∧ r.Bus ≤ 9223372036854775807) ∧ (0 ≤ r.Drive ∧ r.Drive ≤ 4294967295)
theorem dec_run {n : Nat} {t : TypeId} (i : IsRun P t) {d : DataW H} {cs : List AVal} (h : Dec P (n + 2) t d cs) : ∃ r : Run, cs = encRun r ∧ r.Fit := by
  simp only [Dec, i.hu] at h
  obtain ⟨parts, ass, -, rfl, hf⟩ := h
  obtain ⟨p1, ps1, a1, as1, rfl, rfl, r1, hf⟩ := fieldsR_cons hf
  obtain ⟨p2, ps2, a2, as2, rfl, rfl, r2, hf⟩ := fieldsR_cons hf
  obtain ⟨p3, ps3, a3, as3, rfl, rfl, r3, hf⟩ := fieldsR_cons hf
  obtain ⟨rfl, rfl⟩ := fieldsR_nil hf
  simp only [Dec, i.h1, i.h2, i.h3] at r1 r2 r3
  obtain ⟨v1, -, w1, rfl⟩ := r1
  obtain ⟨v2, -, w2, rfl⟩ := r2
  obtain ⟨v3, -, w3, rfl⟩ := r3
  exact ⟨⟨v1, v2, v3⟩, rfl, wf64 w1, wf64 w2, wfu32 w3⟩
theorem dec_runs {n : Nat} {t e : TypeId} (hu : P.underlying t = some (.slice e)) (i : IsRun P e) {d : DataW H} {a : AVal} (h : DecV P (n + 3) t d a) :
    ∃ (nl fu : Bool) (l : List Run), a = .imm nl fu true (l.map encRun) ∧ ∀ r ∈ l, r.Fit := by
  unfold DecV at h
  rw [if_neg (by simp [isAggT, hu])] at h
  rw [Dec, hu] at h
  rcases h with ⟨-, h⟩ | ⟨elems, spare, rows, -, h, h2, h3⟩
  · exact ⟨true, true, [], by simpa [nilS] using h, by simp⟩
  · obtain ⟨l, rfl, hl⟩ := rows_map encRun Run.Fit (all2_forall (Q := fun b => ∃ r : Run, b = encRun r ∧ r.Fit) (fun a b hab => dec_run i hab) h2)
    exact ⟨false, false, l, by simpa using h, hl⟩
theorem all2_flat {α : Type} (f : α → List AVal) (Q : α → Prop) {R : DataW H → List AVal → Prop} (h : ∀ d a, R d a → ∃ x, a = f x ∧ Q x) :
    ∀ {ds : List (DataW H)} {ass : List (List AVal)}, All2 R ds ass → ∃ l : List α, l.length = ds.length ∧ ass = l.map f ∧ ∀ x ∈ l, Q x
  | [], [], _ => ⟨[], rfl, rfl, by simp⟩
  | [], _ :: _, h' => h'.elim
  | _ :: _, [], h' => h'.elim
  | d :: ds, a :: ass, h' => by
    obtain ⟨x, hx, hq⟩ := h _ _ h'.1
    obtain ⟨l, h1, h2, h3⟩ := all2_flat f Q h h'.2
    exact ⟨x :: l, by simp [h1], by rw [hx, h2]; rfl, fun y hy => by rcases List.mem_cons.1 hy with rfl | hy <;> simp_all⟩
theorem decV_ints {n m : Nat} {t e : TypeId} {ik : IntKind} (hu : P.underlying t = some (.array m e)) (he : P.underlying e = some (.int ik)) {d : DataW H} {a : AVal} (h : DecV P (n + 2) t d a) :
    ∃ l : List Int, l.length = m ∧ a = .agg (l.map fun v => .lit (.int ik v)) ∧ ∀ v ∈ l, (Lit.int ik v).wf = true := by
  unfold DecV at h
  rw [if_pos (by simp [isAggT, hu])] at h
  obtain ⟨cs, rfl, h⟩ := h
  rw [Dec, hu] at h
  obtain ⟨parts, ass, -, rfl, hm, h2⟩ := h
  obtain ⟨l, h3, rfl, h5⟩ := all2_flat (fun v => [AVal.lit (.int ik v)]) (fun v => (Lit.int ik v).wf = true) (fun d a hda => by
    simp only [Dec, he] at hda
    obtain ⟨v, -, hw, rfl⟩ := hda
    exact ⟨v, rfl, hw⟩) h2
  refine ⟨l, by omega, ?_, h5⟩
  congr 1
  clear h5 h3 h2
  induction l with
  | nil => rfl
  | cons x r ih => simp [ih]
end
end Go.AM.R1
open Go Go.AM Go.Proofs
namespace Go.AM.R1
section
variable {H : Type} {P : Program}
theorem dec_runs' {n : Nat} {t e : TypeId} (hu : P.underlying t = some (.slice e)) (i : IsRun P e) {d : DataW H} {cs : List AVal} (h : Dec P (n + 3) t d cs) :
    ∃ (nl fu : Bool) (l : List Run), cs = [.imm nl fu true (l.map encRun)] ∧ ∀ r ∈ l, r.Fit := by
  rw [Dec, hu] at h
  rcases h with ⟨-, h⟩ | ⟨elems, spare, rows, -, h, h2, h3⟩
  · exact ⟨true, true, [], by simpa [nilS] using h, by simp⟩
  · obtain ⟨l, rfl, hl⟩ := rows_map encRun Run.Fit (all2_forall (Q := fun b => ∃ r : Run, b = encRun r ∧ r.Fit) (fun a b hab => dec_run i hab) h2)
    exact ⟨false, false, l, h, hl⟩
theorem decV_block {n : Nat} {t e : TypeId} {f1 f2 : Field} (hu : P.underlying t = some (.struct #[f1, f2])) (h1 : P.underlying f1.type = some (.int .i64)) (h2 : P.underlying f2.type = some (.slice e)) (i : IsRun P e)
    {d : DataW H} {a : AVal} (h : DecV P (n + 4) t d a) : ∃ (first : Int) (nl fu : Bool) (l : List Run), a = .agg (encBlk first l nl fu) ∧ (Lit.int .i64 first).wf = true ∧ ∀ r ∈ l, r.Fit := by
  unfold DecV at h
  rw [if_pos (by simp [isAggT, hu])] at h
  obtain ⟨cs, rfl, h⟩ := h
  rw [Dec, hu] at h
  obtain ⟨parts, ass, -, rfl, hf⟩ := h
  obtain ⟨p1, ps1, a1, as1, rfl, rfl, r1, hf⟩ := fieldsR_cons hf
  obtain ⟨p2, ps2, a2, as2, rfl, rfl, r2, hf⟩ := fieldsR_cons hf
  obtain ⟨rfl, rfl⟩ := fieldsR_nil hf
  simp only [Dec, h1] at r1
  obtain ⟨v1, -, w1, rfl⟩ := r1
  obtain ⟨nl, fu, l, rfl, hl⟩ := dec_runs' h2 i r2
  exact ⟨v1, nl, fu, l, rfl, w1, hl⟩
/-- Bytes. -/
theorem decV_bytes {n : Nat} {t e : TypeId} (hu : P.underlying t = some (.slice e)) (he : P.underlying e = some (.int .u8)) {d : DataW H} {a : AVal} (h : DecV P (n + 2) t d a) :
    ∃ (nl fu : Bool) (l : List Nat), a = .imm nl fu true (l.map encB) ∧ (nl = false ∨ l = []) ∧ ∀ c ∈ l, c < 256 := by
  unfold DecV at h
  rw [if_neg (by simp [isAggT, hu])] at h
  rw [Dec, hu] at h
  rcases h with ⟨-, h⟩ | ⟨elems, spare, rows, -, h, h2, h3⟩
  · exact ⟨true, true, [], by simpa [nilS] using h, .inr rfl, by simp⟩
  · obtain ⟨l, rfl, hl⟩ := rows_map encB (fun c => c < 256) (all2_forall (Q := fun b => ∃ c : Nat, b = encB c ∧ c < 256) (fun a b hab => by
      simp only [Dec, he] at hab
      obtain ⟨v, -, hw, rfl⟩ := hab
      have hv : 0 ≤ v ∧ v ≤ 255 := by simpa [Lit.wf, IntKind.min, IntKind.max, IntKind.signed, IntKind.bits] using hw
      refine ⟨v.toNat, ?_, by omega⟩
      unfold encB
      rw [show ((v.toNat : Nat) : Int) = v from by omega]) h2)
    exact ⟨false, false, l, by simpa using h, .inl rfl, hl⟩
end
end Go.AM.R1
open Go Go.AM
namespace Go.AM.R1

/-! ### Scripts -/
def encScr (node first : Int) (l : List Run) (nl fu : Bool) : List AVal := [.lit (.int .i64 node), .lit (.int .i64 first), .imm nl fu true (l.map encRun)]
def okR (r : Run) : Bool := decide (1 ≤ r.N) && decide (r.N ≤ 1073741824) && (decide (0 ≤ r.Bus) && decide (r.Bus ≤ 1))
def okP (node first : Int) : Bool := decide (0 ≤ node) && decide (node ≤ 31) && (decide (0 ≤ first) && decide (first ≤ 1073741824))
/-- How a script is wrong. -/
def chkS (node first : Int) (l : List Run) : Int := if okP node first = true ∧ l.all okR = true then (if 1073741824 < sumN l then 12 else 0) else 10
theorem okR_N {r : Run} (h : okR r = true) : (1 ≤ r.N ∧ r.N ≤ 1073741824) ∧ (0 ≤ r.Bus ∧ r.Bus ≤ 1) := by
  simp [okR] at h; omega
/-- The place of the first one that is so. -/
def findI {α : Type} (p : α → Bool) : Nat → List α → Int
  | _, [] => -1
  | i, r :: l => if p r = true then (i : Int) else findI p (i + 1) l
theorem findI_ge {α : Type} (p : α → Bool) : ∀ (l : List α) (i : Nat), (decide ((0 : Int) ≤ findI p i l)) = l.any p
  | [], i => by simp [findI]
  | r :: l, i => by
    rw [findI, List.any_cons]
    cases hp : p r with
    | true => simp
    | false => simp [findI_ge p l]
theorem any_not {α : Type} (p : α → Bool) (l : List α) : (l.any fun x => !p x) = !(l.all p) := by
  induction l with
  | nil => rfl
  | cons x r ih => simp [List.any_cons, List.all_cons, ih, Bool.not_and]
end Go.AM.R1
open Go Go.AM Go.Proofs
namespace Go.AM.R1
section
variable {H : Type} {P : Program}
structure IsScr (P : Program) (t : TypeId) where
  f1 : Field
  f2 : Field
  f3 : Field
  e : TypeId
  hu : P.underlying t = some (.struct #[f1, f2, f3])
  h1 : P.underlying f1.type = some (.int .i64)
  h2 : P.underlying f2.type = some (.int .i64)
  h3 : P.underlying f3.type = some (.slice e)
  i : IsRun P e
structure Scr where
  node : Int
  first : Int
  runs : List Run
  nl : Bool
  fu : Bool
def encS (s : Scr) : List AVal := encScr s.node s.first s.runs s.nl s.fu
def Scr.Fit (s : Scr) : Prop := (-9223372036854775808 ≤ s.node ∧ s.node ≤ 9223372036854775807) ∧ (-9223372036854775808 ≤ s.first ∧ s.first ≤ 9223372036854775807) ∧ ∀ r ∈ s.runs, r.Fit
theorem dec_scr {n : Nat} {t : TypeId} (i : IsScr P t) {d : DataW H} {cs : List AVal} (h : Dec P (n + 4) t d cs) : ∃ s : Scr, cs = encS s ∧ s.Fit := by
  rw [Dec, i.hu] at h
  obtain ⟨parts, ass, -, rfl, hf⟩ := h
  obtain ⟨p1, ps1, a1, as1, rfl, rfl, r1, hf⟩ := fieldsR_cons hf
  obtain ⟨p2, ps2, a2, as2, rfl, rfl, r2, hf⟩ := fieldsR_cons hf
  obtain ⟨p3, ps3, a3, as3, rfl, rfl, r3, hf⟩ := fieldsR_cons hf
  obtain ⟨rfl, rfl⟩ := fieldsR_nil hf
  simp only [Dec, i.h1, i.h2] at r1 r2
  obtain ⟨v1, -, w1, rfl⟩ := r1
  obtain ⟨v2, -, w2, rfl⟩ := r2
  obtain ⟨nl, fu, l, rfl, hl⟩ := dec_runs' i.h3 i.i r3
  exact ⟨⟨v1, v2, l, nl, fu⟩, rfl, wf64 w1, wf64 w2, hl⟩
theorem decV_scr {n : Nat} {t : TypeId} (i : IsScr P t) {d : DataW H} {a : AVal} (h : DecV P (n + 4) t d a) : ∃ s : Scr, a = .agg (encS s) ∧ s.Fit := by
  unfold DecV at h
  rw [if_pos (by simp [isAggT, i.hu])] at h
  obtain ⟨cs, rfl, h⟩ := h
  obtain ⟨s, rfl, hs⟩ := dec_scr i h
  exact ⟨s, rfl, hs⟩
/-- Rows of scripts. -/
theorem decV_scrs {n : Nat} {t e : TypeId} (hu : P.underlying t = some (.slice e)) (i : IsScr P e) {d : DataW H} {a : AVal} (h : DecV P (n + 5) t d a) :
    ∃ (nl fu : Bool) (l : List Scr), a = .imm nl fu true (l.map encS) ∧ ∀ r ∈ l, r.Fit := by
  unfold DecV at h
  rw [if_neg (by simp [isAggT, hu])] at h
  rw [Dec, hu] at h
  rcases h with ⟨-, h⟩ | ⟨elems, spare, rows, -, h, h2, h3⟩
  · exact ⟨true, true, [], by simpa [nilS] using h, by simp⟩
  · obtain ⟨l, rfl, hl⟩ := rows_map encS Scr.Fit (all2_forall (Q := fun b => ∃ r : Scr, b = encS r ∧ r.Fit) (fun a b hab => dec_scr i hab) h2)
    exact ⟨false, false, l, by simpa using h, hl⟩
end
end Go.AM.R1
open Go Go.AM Go.Proofs
namespace Go.AM.R1
section
variable {H : Type} {P : Program}
/-- A row of runs, as it is handed over. -/
structure RowV where
  nl : Bool
  fu : Bool
  l : List Run
def encRow (r : RowV) : List AVal := [.imm r.nl r.fu true (r.l.map encRun)]
def RowV.Fit (r : RowV) : Prop := (∀ x ∈ r.l, x.Fit) ∧ r.l.length ≤ 9223372036854775807
theorem dec_row {n : Nat} {t e : TypeId} (hu : P.underlying t = some (.slice e)) (i : IsRun P e) {d : DataW H} {cs : List AVal} (h : Dec P (n + 3) t d cs) :
    ∃ r : RowV, cs = encRow r ∧ r.Fit := by
  rw [Dec, hu] at h
  rcases h with ⟨-, h⟩ | ⟨elems, spare, rows, -, h, h2, h3⟩
  · exact ⟨⟨true, true, []⟩, by simpa [nilS, encRow] using h, by simp, by simp⟩
  · obtain ⟨l, rfl, hl⟩ := rows_map encRun Run.Fit (all2_forall (Q := fun b => ∃ r : Run, b = encRun r ∧ r.Fit) (fun a b hab => dec_run i hab) h2)
    exact ⟨⟨false, false, l⟩, h, hl, by simpa [maxLen] using h3⟩
theorem dec_rows {n : Nat} {t s e : TypeId} (ht : P.underlying t = some (.slice s)) (hu : P.underlying s = some (.slice e)) (i : IsRun P e) {d : DataW H} {cs : List AVal} (h : Dec P (n + 4) t d cs) :
    ∃ (nl fu : Bool) (l : List RowV), cs = [.imm nl fu true (l.map encRow)] ∧ (∀ r ∈ l, r.Fit) ∧ l.length ≤ 9223372036854775807 := by
  rw [Dec, ht] at h
  rcases h with ⟨-, h⟩ | ⟨elems, spare, rows, -, h, h2, h3⟩
  · exact ⟨true, true, [], by simpa [nilS] using h, by simp, by simp⟩
  · obtain ⟨l, rfl, hl⟩ := rows_map encRow RowV.Fit (all2_forall (Q := fun b => ∃ r : RowV, b = encRow r ∧ r.Fit) (fun a b hab => dec_row hu i hab) h2)
    exact ⟨false, false, l, h, hl, by simpa [maxLen] using h3⟩
theorem decV_rows {n : Nat} {t s e : TypeId} (ht : P.underlying t = some (.slice s)) (hu : P.underlying s = some (.slice e)) (i : IsRun P e) {d : DataW H} {a : AVal} (h : DecV P (n + 4) t d a) :
    ∃ (nl fu : Bool) (l : List RowV), a = .imm nl fu true (l.map encRow) ∧ (∀ r ∈ l, r.Fit) ∧ l.length ≤ 9223372036854775807 := by
  unfold DecV at h
  rw [if_neg (by simp [isAggT, ht])] at h
  obtain ⟨nl, fu, l, h1, h2⟩ := dec_rows ht hu i h
  exact ⟨nl, fu, l, by simpa using h1, h2⟩
/-- Two lists of rows. -/
theorem decV_two {n : Nat} {t u s e : TypeId} (hh : P.underlying t = some (.array 2 u)) (ht : P.underlying u = some (.slice s)) (hu : P.underlying s = some (.slice e)) (i : IsRun P e) {d : DataW H} {a : AVal} (h : DecV P (n + 5) t d a) :
    ∃ (nl fu nl' fu' : Bool) (l m : List RowV), a = .agg [.imm nl fu true (l.map encRow), .imm nl' fu' true (m.map encRow)] ∧ ((∀ r ∈ l, r.Fit) ∧ l.length ≤ 9223372036854775807) ∧ ((∀ r ∈ m, r.Fit) ∧ m.length ≤ 9223372036854775807) := by
  unfold DecV at h
  rw [if_pos (by simp [isAggT, hh])] at h
  obtain ⟨cs, rfl, h⟩ := h
  rw [Dec, hh] at h
  obtain ⟨parts, ass, -, rfl, hm, h2⟩ := h
  match parts, ass, hm, h2 with
  | [p1, p2], [a1, a2], _, ⟨h1, h2, _⟩ =>
    obtain ⟨nl, fu, l, rfl, hl⟩ := dec_rows ht hu i h1
    obtain ⟨nl', fu', m, rfl, hm⟩ := dec_rows ht hu i h2
    exact ⟨nl, fu, nl', fu', l, m, rfl, hl, hm⟩
/-- A row of rows in a struct of one part. -/
theorem dec_act {n : Nat} {t e : TypeId} {f1 : Field} (hs : P.underlying t = some (.struct #[f1])) (hu : P.underlying f1.type = some (.slice e)) (i : IsRun P e) {d : DataW H} {cs : List AVal} (h : Dec P (n + 4) t d cs) :
    ∃ r : RowV, cs = encRow r ∧ r.Fit := by
  rw [Dec, hs] at h
  obtain ⟨parts, ass, -, rfl, hf⟩ := h
  obtain ⟨p1, ps1, a1, as1, rfl, rfl, r1, hf⟩ := fieldsR_cons hf
  obtain ⟨rfl, rfl⟩ := fieldsR_nil hf
  obtain ⟨r, rfl, hr⟩ := dec_row hu i r1
  exact ⟨r, by simp [encRow], hr⟩
theorem decV_acts {n : Nat} {t s e : TypeId} {f1 : Field} (ht : P.underlying t = some (.slice s)) (hs : P.underlying s = some (.struct #[f1])) (hu : P.underlying f1.type = some (.slice e)) (i : IsRun P e) {d : DataW H} {a : AVal} (h : DecV P (n + 5) t d a) :
    ∃ (nl fu : Bool) (l : List RowV), a = .imm nl fu true (l.map encRow) ∧ (∀ r ∈ l, r.Fit) ∧ l.length ≤ 9223372036854775807 := by
  unfold DecV at h
  rw [if_neg (by simp [isAggT, ht])] at h
  rw [Dec, ht] at h
  rcases h with ⟨-, h⟩ | ⟨elems, spare, rows, -, h, h2, h3⟩
  · exact ⟨true, true, [], by simpa [nilS] using h, by simp, by simp⟩
  · obtain ⟨l, rfl, hl⟩ := rows_map encRow RowV.Fit (all2_forall (Q := fun b => ∃ r : RowV, b = encRow r ∧ r.Fit) (fun a b hab => dec_act hs hu i hab) h2)
    exact ⟨false, false, l, by simpa using h, hl, by simpa [maxLen] using h3⟩
end
end Go.AM.R1
open Go Go.AM Go.Proofs
namespace Go.AM.R1
section
variable {H : Type} {P : Program}
/-- A struct of three numbers. -/
theorem decV_i3 {n : Nat} {t : TypeId} {f1 f2 f3 : Field} {k1 k2 k3 : IntKind} (hu : P.underlying t = some (.struct #[f1, f2, f3])) (h1 : P.underlying f1.type = some (.int k1)) (h2 : P.underlying f2.type = some (.int k2)) (h3 : P.underlying f3.type = some (.int k3))
    {d : DataW H} {a : AVal} (h : DecV P (n + 2) t d a) : ∃ (x y z : Int), a = .agg [.lit (.int k1 x), .lit (.int k2 y), .lit (.int k3 z)] ∧ (Lit.int k1 x).wf = true ∧ (Lit.int k2 y).wf = true ∧ (Lit.int k3 z).wf = true := by
  unfold DecV at h
  rw [if_pos (by simp [isAggT, hu])] at h
  obtain ⟨cs, rfl, h⟩ := h
  rw [Dec, hu] at h
  obtain ⟨parts, ass, -, rfl, hf⟩ := h
  obtain ⟨p1, ps1, a1, as1, rfl, rfl, r1, hf⟩ := fieldsR_cons hf
  obtain ⟨p2, ps2, a2, as2, rfl, rfl, r2, hf⟩ := fieldsR_cons hf
  obtain ⟨p3, ps3, a3, as3, rfl, rfl, r3, hf⟩ := fieldsR_cons hf
  obtain ⟨rfl, rfl⟩ := fieldsR_nil hf
  simp only [Dec, h1] at r1
  simp only [Dec, h2] at r2
  simp only [Dec, h3] at r3
  obtain ⟨v1, -, w1, rfl⟩ := r1
  obtain ⟨v2, -, w2, rfl⟩ := r2
  obtain ⟨v3, -, w3, rfl⟩ := r3
  exact ⟨v1, v2, v3, rfl, w1, w2, w3⟩
end
end Go.AM.R1
open Go Go.AM Go.Proofs
namespace Go.AM.R1
section
variable {H : Type} {P : Program}
/-- The types of a frame. -/
structure IsFr (P : Program) (t : TypeId) (f1 f2 f3 f4 f5 : Field) (e : TypeId) : Prop where
  hs : P.underlying t = some (.struct #[f1, f2, f3, f4, f5])
  h1 : P.underlying f1.type = some (.int .i64)
  h2 : P.underlying f2.type = some .bool
  h3 : P.underlying f3.type = some .bool
  h4 : P.underlying f4.type = some (.int .i64)
  h5 : P.underlying f5.type = some (.array 8 e)
  he : P.underlying e = some (.int .u8)
theorem wfu8 {v : Int} (h : (Lit.int .u8 v).wf = true) : 0 ≤ v ∧ v ≤ 255 := by
  simpa [Lit.wf, IntKind.min, IntKind.max, IntKind.signed, IntKind.bits] using h
theorem dec_frame {n : Nat} {t e : TypeId} {f1 f2 f3 f4 f5 : Field} (i : IsFr P t f1 f2 f3 f4 f5 e) {d : DataW H} {cs : List AVal} (h : Dec P (n + 3) t d cs) : ∃ f : Fr, cs = encFr f ∧ f.Ok := by
  rw [Dec, i.hs] at h
  obtain ⟨parts, ass, -, rfl, hf⟩ := h
  obtain ⟨p1, ps1, a1, as1, rfl, rfl, r1, hf⟩ := fieldsR_cons hf
  obtain ⟨p2, ps2, a2, as2, rfl, rfl, r2, hf⟩ := fieldsR_cons hf
  obtain ⟨p3, ps3, a3, as3, rfl, rfl, r3, hf⟩ := fieldsR_cons hf
  obtain ⟨p4, ps4, a4, as4, rfl, rfl, r4, hf⟩ := fieldsR_cons hf
  obtain ⟨p5, ps5, a5, as5, rfl, rfl, r5, hf⟩ := fieldsR_cons hf
  obtain ⟨rfl, rfl⟩ := fieldsR_nil hf
  simp only [Dec, i.h1] at r1
  simp only [Dec, i.h2] at r2
  simp only [Dec, i.h3] at r3
  simp only [Dec, i.h4] at r4
  rw [Dec, i.h5] at r5
  obtain ⟨v1, -, w1, rfl⟩ := r1
  obtain ⟨b2, -, rfl⟩ := r2
  obtain ⟨b3, -, rfl⟩ := r3
  obtain ⟨v4, -, w4, rfl⟩ := r4
  obtain ⟨pp, aa, -, rfl, hm, h2⟩ := r5
  obtain ⟨l, hl, rfl, hw⟩ := all2_flat (fun v => [AVal.lit (.int .u8 v)]) (fun v => (Lit.int .u8 v).wf = true) (fun d a hda => by
    simp only [Dec, i.he] at hda
    obtain ⟨v, -, hw, rfl⟩ := hda
    exact ⟨v, rfl, hw⟩) h2
  rw [hm] at hl
  match l, hl, hw with
  | [x0, x1, x2, x3, x4, x5, x6, x7], _, hw =>
    have y0 := wfu8 (hw x0 (by simp))
    have y1 := wfu8 (hw x1 (by simp))
    have y2 := wfu8 (hw x2 (by simp))
    have y3 := wfu8 (hw x3 (by simp))
    have y4 := wfu8 (hw x4 (by simp))
    have y5 := wfu8 (hw x5 (by simp))
    have y6 := wfu8 (hw x6 (by simp))
    have y7 := wfu8 (hw x7 (by simp))
    refine ⟨⟨v1, b2, b3, v4, x0.toNat, x1.toNat, x2.toNat, x3.toNat, x4.toNat, x5.toNat, x6.toNat, x7.toNat⟩, ?_, ⟨(wf64 w1).1, (wf64 w1).2, (wf64 w4).1, (wf64 w4).2, ?_⟩⟩
    · have e : ∀ v : Int, 0 ≤ v ∧ v ≤ 255 → u8v v.toNat = .lit (.int .u8 v) := fun v hv => by unfold u8v; rw [show ((v.toNat : Nat) : Int) = v from by omega]
      simp only [encFr, e x0 y0, e x1 y1, e x2 y2, e x3 y3, e x4 y4, e x5 y5, e x6 y6, e x7 y7]
      rfl
    · intro c hc
      simp only [Fr.bytes, List.mem_cons, List.not_mem_nil, or_false] at hc
      omega
theorem decV_frame {n : Nat} {t e : TypeId} {f1 f2 f3 f4 f5 : Field} (i : IsFr P t f1 f2 f3 f4 f5 e) {d : DataW H} {a : AVal} (h : DecV P (n + 3) t d a) : ∃ f : Fr, a = .agg (encFr f) ∧ f.Ok := by
  unfold DecV at h
  rw [if_pos (by simp [isAggT, i.hs])] at h
  obtain ⟨cs, rfl, h⟩ := h
  obtain ⟨f, rfl, hf⟩ := dec_frame i h
  exact ⟨f, rfl, hf⟩
/-- A row of frames. -/
theorem decV_frames {n : Nat} {s t e : TypeId} {f1 f2 f3 f4 f5 : Field} (hu : P.underlying s = some (.slice t)) (i : IsFr P t f1 f2 f3 f4 f5 e) {d : DataW H} {a : AVal} (h : DecV P (n + 4) s d a) :
    ∃ (nl fu : Bool) (l : List Fr), a = .imm nl fu true (l.map encFr) ∧ (∀ f ∈ l, f.Ok) ∧ l.length ≤ 9223372036854775807 := by
  unfold DecV at h
  rw [if_neg (by simp [isAggT, hu])] at h
  rw [Dec, hu] at h
  rcases h with ⟨-, h⟩ | ⟨elems, spare, rows, -, h, h2, h3⟩
  · exact ⟨true, true, [], by simpa [nilS] using h, by simp, by simp⟩
  · obtain ⟨l, rfl, hl⟩ := rows_map encFr Fr.Ok (all2_forall (Q := fun b => ∃ r : Fr, b = encFr r ∧ r.Ok) (fun a b hab => dec_frame i hab) h2)
    exact ⟨false, false, l, by simpa using h, hl, by simpa [maxLen] using h3⟩
/-- A row of numbers. -/
theorem dec_nums {n : Nat} {t e : TypeId} (hu : P.underlying t = some (.slice e)) (he : P.underlying e = some (.int .i64)) {d : DataW H} {cs : List AVal} (h : Dec P (n + 2) t d cs) :
    ∃ (nl fu : Bool) (l : List Int), cs = [.imm nl fu true (l.map encI)] ∧ (∀ x ∈ l, -9223372036854775808 ≤ x ∧ x ≤ 9223372036854775807) ∧ l.length ≤ 9223372036854775807 := by
  rw [Dec, hu] at h
  rcases h with ⟨-, h⟩ | ⟨elems, spare, rows, -, h, h2, h3⟩
  · exact ⟨true, true, [], by simpa [nilS] using h, by simp, by simp⟩
  · obtain ⟨l, rfl, hl⟩ := rows_map encI (fun x => -9223372036854775808 ≤ x ∧ x ≤ 9223372036854775807) (all2_forall (Q := fun b => ∃ x : Int, b = encI x ∧ (-9223372036854775808 ≤ x ∧ x ≤ 9223372036854775807)) (fun a b hab => by
      simp only [Dec, he] at hab
      obtain ⟨v, -, hw, rfl⟩ := hab
      exact ⟨v, rfl, wf64 hw⟩) h2)
    exact ⟨false, false, l, h, hl, by simpa [maxLen] using h3⟩
theorem decV_nums {n : Nat} {t e : TypeId} (hu : P.underlying t = some (.slice e)) (he : P.underlying e = some (.int .i64)) {d : DataW H} {a : AVal} (h : DecV P (n + 2) t d a) :
    ∃ (nl fu : Bool) (l : List Int), a = .imm nl fu true (l.map encI) ∧ (∀ x ∈ l, -9223372036854775808 ≤ x ∧ x ≤ 9223372036854775807) ∧ l.length ≤ 9223372036854775807 := by
  unfold DecV at h
  rw [if_neg (by simp [isAggT, hu])] at h
  obtain ⟨nl, fu, l, h1, h2⟩ := dec_nums hu he h
  exact ⟨nl, fu, l, by simpa using h1, h2⟩
end
end Go.AM.R1
open Go Go.AM Go.AM.R1 Go.Proofs
namespace Go.Proofs.Ytgolbdijmmeebaa
open Go.ChangeShapes Go.WideShapes Go.ChangeAt Go.RowKit
namespace watchSees
theorem own : ownKnob Try.prog.godebug = none := by kernel_rfl
theorem laidOut : laidOutB Try.prog = true := by kernel_rfl
theorem mixed : Try.prog.follows .mixedOrders = true := by kernel_rfl
set_option maxRecDepth 100000 in
theorem contract (H : Type) (enc : TypeId × Value → H) (W : World) (base : Nat) (args : Array Value) (ds gs : List (DataW H)) (before : List MemPlace)
    (hval : ∀ (j : Nat) t v, Try.f8.params[j]? = some t → args[j]? = some v → Value.okWide Try.prog W .any base t v)
    (hW : DataW.Whole enc Try.prog Try.f8.params.toList Rows.watchSeesSpec.vars false W args.toList ds gs before) :
    Calls Try.prog 8 args W fun e W' => ∃ v, e = .returned v ∧ Rows.watchSeesSpec.post enc Try.prog Try.f8 false true false false W args v W' := by
  refine law_contract (id := 8) (f := Try.f8) (s := Rows.watchSeesSpec) (k := 7) (nargs := 1) (base := base) (ds := ds) (gs := gs) (before := before) mixed R1.hE laidOut ?e1 ?e2 (tb := 4) ?e3 Try.underlying4 ?e4 ?e5 ?e7 ?e8 ?e6
  case e7 => exact hval
  case e8 => exact hW
  case e1 => rfl
  case e3 => kernel_rfl
  case e4 => rw [Try.params8]; rfl
  · rw [Try.params8]; decide +kernel
  · intro ds h
    match ds, h with
    | [d1], _ => rfl
  · intro cs hA
    rw [Try.params8] at hA
    obtain ⟨d1, r1, a1, s1, rfl, rfl, h1, hA⟩ := decArgs_cons hA
    obtain ⟨rfl, rfl⟩ := decArgs_nil hA
    obtain ⟨nl, fu, l, rfl, hl, -⟩ := decV_nums (n := 5) Try.underlying34 Try.underlying3 h1
    obtain ⟨n, hn⟩ := (call_iff R1.E).1 (watchSees_spec l nl fu)
    exact ⟨n, _, hn⟩

set_option maxRecDepth 100000 in
theorem lifted (os : Os) (started : os.Started) (H : Type) (enc : TypeId × Value → H) :
    ReturnsInHanded {} Try.checked os 8 .any (Rows.watchSeesSpec.pre6 enc Try.prog Try.f8 Rows.watchSeesRow.domain false) (Rows.watchSeesSpec.post enc Try.prog Try.f8 false true false false) := by
  refine returnsInHanded_of_change (C := Try.checked) own started (by kernel_rfl) Try.func8
    (ChangeSpec.witness6 (enc := enc) (C := Try.checked) false ⟨#[], #[.slice none 0 0], []⟩ 8 (by kernel_rfl) (by kernel_rfl) (by kernel_rfl) (by kernel_rfl)) ?_
  intro W base args ds gs before hval hW _ _
  exact contract H enc W base args ds gs before hval hW

theorem proved : Rows.WatchSeesSaid :=
  OpenClaim.holds_of_wide 8 Try.f8 rfl rfl rfl rfl rfl rfl rfl ⟨rfl, rfl, rfl, rfl, rfl⟩ rfl rfl rfl rfl rfl (by kernel_rfl) Try.func8 (by kernel_rfl)
    (of_decide_eq_true (by kernel_rfl)) (by unfold Func.isWrapper; first | (rw [if_pos (by decide +kernel)]; kernel_rfl) | (rw [if_neg (by decide +kernel)]; exact ⟨rfl, rfl⟩))
    (fun os started H enc _ => lifted os started H enc)
end watchSees
theorem watchSeesProved : Rows.WatchSeesSaid := watchSees.proved
end Go.Proofs.Ytgolbdijmmeebaa
