/- The law LogRecovers of package magnetolaw17 returns true for every input, and its arguments read as before. -/
import Derived.Test.YtgolbdijmmeebaaLogRecovers2
import Derived.ProofKit
set_option linter.unusedVariables false
set_option linter.unusedSimpArgs false
open Go Go.AM
namespace Go.AM.R1
def RInv (i : Nat) (L : List Bk) (W : List Run) : Prop := ∃ A, BInv i L W A
set_option maxHeartbeats 4000000 in
theorem rec1_A0 (ff lw lq : Bool) (xl xf xb : Int) (l : List RowV) (nl fu : Bool) (nm fm : Bool) (la : List Run) (hl4 : l.length ≤ 40) (hfew : ∀ r ∈ l, fewR r.l = true) (hfit : ∀ r ∈ l, r.Fit) (i : Nat) (hi : i < l.length) (v : RInv i ([] : List Bk) ([] : List Run)) (k : List Item) (Q : Option (AVal × Heap))
    (ih : ∀ L' W' ff lw lq, RInv (i + 1) L' W' → finK 0 [.tmp 6] (run E 0 (.code L5_0 :: .inLoop [1000000, 0, 1, 5, 7, 8, 9] L5_0 :: .inBlock 0 :: k) [(0, .imm nl fu true (l.map encRow)), (1, .imm nm fm true (la.map encRun)), (5, .ptr 0 0), (7, .ptr 1 0), (8, .ptr 2 0), (9, .lit (.int .i64 ((i + 1 : Nat) : Int)))] (.box [.lit (.int .i64 xl), .lit (.int .i64 xf), .lit (.int .u32 xb)] :: (lG ff lw lq L' W' 100000).map (renE (· + 1)))) = Q) :
    finK 0 [.tmp 6] (run E 0 (.code L5_0 :: .inLoop [1000000, 0, 1, 5, 7, 8, 9] L5_0 :: .inBlock 0 :: k) [(0, .imm nl fu true (l.map encRow)), (1, .imm nm fm true (la.map encRun)), (5, .ptr 0 0), (7, .ptr 1 0), (8, .ptr 2 0), (9, .lit (.int .i64 i))] (.box [.lit (.int .i64 xl), .lit (.int .i64 xf), .lit (.int .u32 xb)] :: (lG ff lw lq ([] : List Bk) ([] : List Run) 100000).map (renE (· + 1)))) = Q := by
  obtain ⟨A, v⟩ := v
  have hfo : false = false → ([] : List Bk) = [] := (fun _ => rfl)
  have v1 := v.fi
  have hb := v1.bs
  have hln := v1.ln
  have ht := v1.tot
  have hsW := v1.sum
  have wi := wrapIdx (i := i) (by omega)
  have hg := acc_facts v1.good (by omega)
  have hlL : ([] : List Bk).length ≤ 1000000 := by simp
  have hlW : ([] : List Run).length ≤ 4096 := by simp
  have hgi : (l.map encRow)[i]? = some (encRow l[i]) := by simp [List.getElem?_eq_getElem hi]
  have hmem := List.getElem_mem hi
  have hw := hfew _ hmem
  have hf0 := hfit _ hmem
  have hr : encRow l[i] = [.imm l[i].nl l[i].fu true (l[i].l.map encRun)] := rfl
  generalize l[i].nl = rn at *
  generalize l[i].fu = rf at *
  by_cases he : l[i].l = []
  · rw [he] at hr
    have D := gdoes0 false false false lq ([] : List Bk) hfo 0 100000 rn rf
    have ih := ih ([] : List Bk) [] false false lq ⟨A, v.succ⟩
    simp only [lG, lS, lSJ, flH, if_true, if_false, Bool.true_eq_false, reduceIte, reduceCtorEq] at D ih ⊢
    simp [lG, lS, fF, fB, fileB, nilS, endE, encEnd, show totB [] = 0 from rfl, show blksB [] = [] from rfl] at D ih
    simp [go_sem, run_codeL E L5_0.eq_1, hi, hgi, hr, wi, fileB, nilS, purse_eq, List.range_succ, D, lG, lS, fF, fB, fileB, nilS, endE, encEnd, show totB [] = 0 from rfl, show blksB [] = [] from rfl]
    rw [run_inLoop']
    simp [go_sem, purse_eq, List.range_succ]
    simpa [go_sem] using ih
  · have hl12 : l[i].l.length ≤ 12 := by simp [fewR] at hw; exact hw.1
    have hn : ∀ x ∈ l[i].l, x.N ≤ 1000000 := by simp [fewR] at hw; exact hw.2
    have hok : ∀ x ∈ l[i].l, x.Ok := fun x hx => (hf0.1 x hx).ok
    have D := gdoesA false false false lq ([] : List Bk) ([] : List Run) l[i].l he hfo hlL hlW v1.ck ht (by omega) hok 0 100000 rn rf
    by_cases hc : chk l[i].l = 0
    · obtain ⟨v2, ha⟩ := v.app (by omega) hc hl12 hn hf0.1
      have hJn : joined [] (([] : List Run) ++ l[i].l) ≠ [] := joined_ne (fun x hx => ((sum_joined v1.ck hc).2 x hx).1) (by simp [he])
      have ih := ih ([] : List Bk) (joined [] (([] : List Run) ++ l[i].l)) false false false ⟨_, v2⟩
      simp only [ha, hc, ne_eq, not_true_eq_false, if_false, if_true] at D
      generalize joined [] (([] : List Run) ++ l[i].l) = Z at *
      simp only [lG, lS, lSJ, flH, hJn, if_true, if_false, Bool.true_eq_false, reduceIte, reduceCtorEq] at D ih  ⊢
      generalize l[i].l = r at *
      simp [lG, lS, fF, fB, fileB, nilS, endE, encEnd, show totB [] = 0 from rfl, show blksB [] = [] from rfl, lSJ, hJn] at D
      simp [lG, lS, fF, fB, fileB, nilS, endE, encEnd, show totB [] = 0 from rfl, show blksB [] = [] from rfl, hJn, he] at ih
      simp [go_sem, run_codeL E L5_0.eq_1, hi, hgi, hr, wi, fileB, nilS, purse_eq, List.range_succ, D, hJn, he, lG, lS, fF, fB, fileB, nilS, endE, encEnd, show totB [] = 0 from rfl, show blksB [] = [] from rfl]
      rw [run_inLoop']
      simp [go_sem, purse_eq, List.range_succ]
      simpa [go_sem] using ih
    · have ha : appE ([] : List Bk) ([] : List Run) l[i].l = chk l[i].l := by unfold appE; rw [if_pos hc]
      have ih := ih ([] : List Bk) ([] : List Run) false false lq ⟨A, v.succ⟩
      simp only [ha, hc, ne_eq, not_false_eq_true, if_true] at D
      clear ha
      generalize chk l[i].l = c at *
      simp only [lG, lS, lSJ, flH, if_true, if_false, Bool.true_eq_false, reduceIte, reduceCtorEq] at D ih ⊢
      generalize l[i].l = r at *
      simp [lG, lS, fF, fB, fileB, nilS, endE, encEnd, show totB [] = 0 from rfl, show blksB [] = [] from rfl] at D ih
      simp [go_sem, run_codeL E L5_0.eq_1, hi, hgi, hr, wi, fileB, nilS, purse_eq, List.range_succ, D, hc, lG, lS, fF, fB, fileB, nilS, endE, encEnd, show totB [] = 0 from rfl, show blksB [] = [] from rfl]
      rw [run_inLoop']
      simp [go_sem, purse_eq, List.range_succ]
      simpa [go_sem] using ih
set_option maxHeartbeats 4000000 in
theorem rec1_A1 (ff lw lq : Bool) (W : List Run) (hW : W ≠ []) (xl xf xb : Int) (l : List RowV) (nl fu : Bool) (nm fm : Bool) (la : List Run) (hl4 : l.length ≤ 40) (hfew : ∀ r ∈ l, fewR r.l = true) (hfit : ∀ r ∈ l, r.Fit) (i : Nat) (hi : i < l.length) (v : RInv i ([] : List Bk) W) (k : List Item) (Q : Option (AVal × Heap))
    (ih : ∀ L' W' ff lw lq, RInv (i + 1) L' W' → finK 0 [.tmp 6] (run E 0 (.code L5_0 :: .inLoop [1000000, 0, 1, 5, 7, 8, 9] L5_0 :: .inBlock 0 :: k) [(0, .imm nl fu true (l.map encRow)), (1, .imm nm fm true (la.map encRun)), (5, .ptr 0 0), (7, .ptr 1 0), (8, .ptr 2 0), (9, .lit (.int .i64 ((i + 1 : Nat) : Int)))] (.box [.lit (.int .i64 xl), .lit (.int .i64 xf), .lit (.int .u32 xb)] :: (lG ff lw lq L' W' 100000).map (renE (· + 1)))) = Q) :
    finK 0 [.tmp 6] (run E 0 (.code L5_0 :: .inLoop [1000000, 0, 1, 5, 7, 8, 9] L5_0 :: .inBlock 0 :: k) [(0, .imm nl fu true (l.map encRow)), (1, .imm nm fm true (la.map encRun)), (5, .ptr 0 0), (7, .ptr 1 0), (8, .ptr 2 0), (9, .lit (.int .i64 i))] (.box [.lit (.int .i64 xl), .lit (.int .i64 xf), .lit (.int .u32 xb)] :: (lG ff lw lq ([] : List Bk) W 100000).map (renE (· + 1)))) = Q := by
  obtain ⟨A, v⟩ := v
  have hfo : false = false → ([] : List Bk) = [] := (fun _ => rfl)
  have v1 := v.fi
  have hb := v1.bs
  have hln := v1.ln
  have ht := v1.tot
  have hsW := v1.sum
  have wi := wrapIdx (i := i) (by omega)
  have hg := acc_facts v1.good (by omega)
  have hlL : ([] : List Bk).length ≤ 1000000 := by simp
  have hlW : W.length ≤ 4096 := by omega
  have hgi : (l.map encRow)[i]? = some (encRow l[i]) := by simp [List.getElem?_eq_getElem hi]
  have hmem := List.getElem_mem hi
  have hw := hfew _ hmem
  have hf0 := hfit _ hmem
  have hr : encRow l[i] = [.imm l[i].nl l[i].fu true (l[i].l.map encRun)] := rfl
  generalize l[i].nl = rn at *
  generalize l[i].fu = rf at *
  by_cases he : l[i].l = []
  · rw [he] at hr
    have hc := v1.chkB (by omega) hW
    have hf := v.room (by omega) hW
    have D := gdoesF false false false lq ([] : List Bk) W hfo hW hc v1.jo v1.dr ht hg (by simp [blksB]) 0 100000 (by omega) rn rf
    simp only [hf, if_false] at D
    have ih := ih ([] ++ [(totB [], W)]) [] false false true ⟨A, v.flush (by omega) hW⟩
    have e1 : blksB ([] ++ [(totB [], W)]) = putBk (0, W) := by simp [blksB, totB]
    have e2 : allR ([] ++ [(totB [], W)]) = W := by simp [allR]
    have e3 : endsGo 0 0 ([] ++ [(totB [], W)]) = [((putBk (0, W)).length, sumN W)] := by simp [endsGo, totB]
    have e4 : ¬ (([] : List Bk) ++ [(totB [], W)]) = [] := by simp
    simp only [lG, if_neg e4, lS, e1, e2, e3, v1.jo] at ih
    simp only [lG, lS, lSJ, flH, hW, if_true, if_false, Bool.true_eq_false, reduceIte, reduceCtorEq] at D ih ⊢
    generalize putBk (0, W) = pb at *
    generalize sumN W = sw at *
    simp [lG, lS, fF, fB, fileB, nilS, endE, encEnd, hW, show totB [] = 0 from rfl, show blksB [] = [] from rfl, flH] at D
    simp [lG, lS, fF, fB, fileB, nilS, endE, encEnd, hW, show totB [] = 0 from rfl, show blksB [] = [] from rfl, e4] at ih
    simp [go_sem, run_codeL E L5_0.eq_1, hi, hgi, hr, wi, fileB, nilS, purse_eq, List.range_succ, D, lG, lS, fF, fB, fileB, nilS, endE, encEnd, hW, show totB [] = 0 from rfl, show blksB [] = [] from rfl]
    rw [run_inLoop']
    simp [go_sem, purse_eq, List.range_succ]
    simpa [go_sem] using ih
  · have hl12 : l[i].l.length ≤ 12 := by simp [fewR] at hw; exact hw.1
    have hn : ∀ x ∈ l[i].l, x.N ≤ 1000000 := by simp [fewR] at hw; exact hw.2
    have hok : ∀ x ∈ l[i].l, x.Ok := fun x hx => (hf0.1 x hx).ok
    have D := gdoesA false false false lq ([] : List Bk) W l[i].l he hfo hlL hlW v1.ck ht (by omega) hok 0 100000 rn rf
    by_cases hc : chk l[i].l = 0
    · obtain ⟨v2, ha⟩ := v.app (by omega) hc hl12 hn hf0.1
      have hJn : joined [] (W ++ l[i].l) ≠ [] := joined_ne (fun x hx => ((sum_joined v1.ck hc).2 x hx).1) (by simp [he])
      have ih := ih ([] : List Bk) (joined [] (W ++ l[i].l)) false false false ⟨_, v2⟩
      simp only [ha, hc, ne_eq, not_true_eq_false, if_false, if_true, hW] at D
      generalize joined [] (W ++ l[i].l) = Z at *
      simp only [lG, lS, lSJ, flH, hW, hJn, if_true, if_false, Bool.true_eq_false, reduceIte, reduceCtorEq] at D ih  ⊢
      generalize l[i].l = r at *
      generalize sumN W = sw at *
      simp [lG, lS, fF, fB, fileB, nilS, endE, encEnd, hW, show totB [] = 0 from rfl, show blksB [] = [] from rfl, lSJ, hJn] at D
      simp [lG, lS, fF, fB, fileB, nilS, endE, encEnd, hW, show totB [] = 0 from rfl, show blksB [] = [] from rfl, hJn, he] at ih
      simp [go_sem, run_codeL E L5_0.eq_1, hi, hgi, hr, wi, fileB, nilS, purse_eq, List.range_succ, D, hJn, he, lG, lS, fF, fB, fileB, nilS, endE, encEnd, hW, show totB [] = 0 from rfl, show blksB [] = [] from rfl]
      rw [run_inLoop']
      simp [go_sem, purse_eq, List.range_succ]
      simpa [go_sem] using ih
    · have ha : appE ([] : List Bk) W l[i].l = chk l[i].l := by unfold appE; rw [if_pos hc]
      have ih := ih ([] : List Bk) W false false lq ⟨A, v.succ⟩
      simp only [ha, hc, ne_eq, not_false_eq_true, if_true] at D
      clear ha
      generalize chk l[i].l = c at *
      simp only [lG, lS, lSJ, flH, hW, if_true, if_false, Bool.true_eq_false, reduceIte, reduceCtorEq] at D ih ⊢
      generalize l[i].l = r at *
      generalize sumN W = sw at *
      simp [lG, lS, fF, fB, fileB, nilS, endE, encEnd, hW, show totB [] = 0 from rfl, show blksB [] = [] from rfl] at D ih
      simp [go_sem, run_codeL E L5_0.eq_1, hi, hgi, hr, wi, fileB, nilS, purse_eq, List.range_succ, D, hc, lG, lS, fF, fB, fileB, nilS, endE, encEnd, hW, show totB [] = 0 from rfl, show blksB [] = [] from rfl]
      rw [run_inLoop']
      simp [go_sem, purse_eq, List.range_succ]
      simpa [go_sem] using ih
set_option maxHeartbeats 4000000 in
theorem rec1_B0 (ff lw lq : Bool) (L : List Bk) (hL : L ≠ []) (xl xf xb : Int) (l : List RowV) (nl fu : Bool) (nm fm : Bool) (la : List Run) (hl4 : l.length ≤ 40) (hfew : ∀ r ∈ l, fewR r.l = true) (hfit : ∀ r ∈ l, r.Fit) (i : Nat) (hi : i < l.length) (v : RInv i L ([] : List Run)) (k : List Item) (Q : Option (AVal × Heap))
    (ih : ∀ L' W' ff lw lq, RInv (i + 1) L' W' → finK 0 [.tmp 6] (run E 0 (.code L5_0 :: .inLoop [1000000, 0, 1, 5, 7, 8, 9] L5_0 :: .inBlock 0 :: k) [(0, .imm nl fu true (l.map encRow)), (1, .imm nm fm true (la.map encRun)), (5, .ptr 0 0), (7, .ptr 1 0), (8, .ptr 2 0), (9, .lit (.int .i64 ((i + 1 : Nat) : Int)))] (.box [.lit (.int .i64 xl), .lit (.int .i64 xf), .lit (.int .u32 xb)] :: (lG ff lw lq L' W' 100000).map (renE (· + 1)))) = Q) :
    finK 0 [.tmp 6] (run E 0 (.code L5_0 :: .inLoop [1000000, 0, 1, 5, 7, 8, 9] L5_0 :: .inBlock 0 :: k) [(0, .imm nl fu true (l.map encRow)), (1, .imm nm fm true (la.map encRun)), (5, .ptr 0 0), (7, .ptr 1 0), (8, .ptr 2 0), (9, .lit (.int .i64 i))] (.box [.lit (.int .i64 xl), .lit (.int .i64 xf), .lit (.int .u32 xb)] :: (lG ff lw lq L ([] : List Run) 100000).map (renE (· + 1)))) = Q := by
  obtain ⟨A, v⟩ := v
  have hfo : true = false → L = [] := (fun h => nomatch h)
  have v1 := v.fi
  have hb := v1.bs
  have hln := v1.ln
  have ht := v1.tot
  have hsW := v1.sum
  have wi := wrapIdx (i := i) (by omega)
  have hg := acc_facts v1.good (by omega)
  obtain ⟨g1, g2, g3, g4⟩ := hg hL
  have hlL : L.length ≤ 1000000 := by omega
  have hlW : ([] : List Run).length ≤ 4096 := by simp
  have hgi : (l.map encRow)[i]? = some (encRow l[i]) := by simp [List.getElem?_eq_getElem hi]
  have hmem := List.getElem_mem hi
  have hw := hfew _ hmem
  have hf0 := hfit _ hmem
  have hr : encRow l[i] = [.imm l[i].nl l[i].fu true (l[i].l.map encRun)] := rfl
  generalize l[i].nl = rn at *
  generalize l[i].fu = rf at *
  by_cases he : l[i].l = []
  · rw [he] at hr
    have D := gdoes0 true ff lw lq L hfo (blksB L).length 100000 rn rf
    have ih := ih L [] ff lw lq ⟨A, v.succ⟩
    simp only [lG, lS, lSJ, flH, hL, if_true, if_false, Bool.true_eq_false, reduceIte, reduceCtorEq] at D ih ⊢
    generalize joined [] (allR L) = J at *
    generalize blksB L = bs at *
    generalize totB L = T at *
    generalize endsGo 0 0 L = es at *
    generalize L.length = nL at *
    simp [lG, lS, fF, fB, fileB, nilS, endE, encEnd, hL, show totB [] = 0 from rfl, show blksB [] = [] from rfl] at D ih
    simp [go_sem, run_codeL E L5_0.eq_1, hi, hgi, hr, wi, fileB, nilS, purse_eq, List.range_succ, D, lG, lS, fF, fB, fileB, nilS, endE, encEnd, hL, show totB [] = 0 from rfl, show blksB [] = [] from rfl]
    rw [run_inLoop']
    simp [go_sem, purse_eq, List.range_succ]
    simpa [go_sem] using ih
  · have hl12 : l[i].l.length ≤ 12 := by simp [fewR] at hw; exact hw.1
    have hn : ∀ x ∈ l[i].l, x.N ≤ 1000000 := by simp [fewR] at hw; exact hw.2
    have hok : ∀ x ∈ l[i].l, x.Ok := fun x hx => (hf0.1 x hx).ok
    have D := gdoesA true ff lw lq L ([] : List Run) l[i].l he hfo hlL hlW v1.ck ht (by omega) hok (blksB L).length 100000 rn rf
    by_cases hc : chk l[i].l = 0
    · obtain ⟨v2, ha⟩ := v.app (by omega) hc hl12 hn hf0.1
      have hJn : joined [] (([] : List Run) ++ l[i].l) ≠ [] := joined_ne (fun x hx => ((sum_joined v1.ck hc).2 x hx).1) (by simp [he])
      have ih := ih L (joined [] (([] : List Run) ++ l[i].l)) ff lw false ⟨_, v2⟩
      simp only [ha, hc, ne_eq, not_true_eq_false, if_false, if_true] at D
      generalize joined [] (([] : List Run) ++ l[i].l) = Z at *
      simp only [lG, lS, lSJ, flH, hL, hJn, if_true, if_false, Bool.true_eq_false, reduceIte, reduceCtorEq] at D ih  ⊢
      generalize l[i].l = r at *
      generalize joined [] (allR L) = J at *
      generalize blksB L = bs at *
      generalize totB L = T at *
      generalize endsGo 0 0 L = es at *
      generalize L.length = nL at *
      simp [lG, lS, fF, fB, fileB, nilS, endE, encEnd, hL, show totB [] = 0 from rfl, show blksB [] = [] from rfl, lSJ, hJn] at D
      simp [lG, lS, fF, fB, fileB, nilS, endE, encEnd, hL, show totB [] = 0 from rfl, show blksB [] = [] from rfl, hJn, he] at ih
      simp [go_sem, run_codeL E L5_0.eq_1, hi, hgi, hr, wi, fileB, nilS, purse_eq, List.range_succ, D, hJn, he, lG, lS, fF, fB, fileB, nilS, endE, encEnd, hL, show totB [] = 0 from rfl, show blksB [] = [] from rfl]
      rw [run_inLoop']
      simp [go_sem, purse_eq, List.range_succ]
      simpa [go_sem] using ih
    · have ha : appE L ([] : List Run) l[i].l = chk l[i].l := by unfold appE; rw [if_pos hc]
      have ih := ih L ([] : List Run) ff lw lq ⟨A, v.succ⟩
      simp only [ha, hc, ne_eq, not_false_eq_true, if_true] at D
      clear ha
      generalize chk l[i].l = c at *
      simp only [lG, lS, lSJ, flH, hL, if_true, if_false, Bool.true_eq_false, reduceIte, reduceCtorEq] at D ih ⊢
      generalize l[i].l = r at *
      generalize joined [] (allR L) = J at *
      generalize blksB L = bs at *
      generalize totB L = T at *
      generalize endsGo 0 0 L = es at *
      generalize L.length = nL at *
      simp [lG, lS, fF, fB, fileB, nilS, endE, encEnd, hL, show totB [] = 0 from rfl, show blksB [] = [] from rfl] at D ih
      simp [go_sem, run_codeL E L5_0.eq_1, hi, hgi, hr, wi, fileB, nilS, purse_eq, List.range_succ, D, hc, lG, lS, fF, fB, fileB, nilS, endE, encEnd, hL, show totB [] = 0 from rfl, show blksB [] = [] from rfl]
      rw [run_inLoop']
      simp [go_sem, purse_eq, List.range_succ]
      simpa [go_sem] using ih
set_option maxHeartbeats 4000000 in
theorem rec1_B1 (ff lw lq : Bool) (L : List Bk) (hL : L ≠ []) (W : List Run) (hW : W ≠ []) (xl xf xb : Int) (l : List RowV) (nl fu : Bool) (nm fm : Bool) (la : List Run) (hl4 : l.length ≤ 40) (hfew : ∀ r ∈ l, fewR r.l = true) (hfit : ∀ r ∈ l, r.Fit) (i : Nat) (hi : i < l.length) (v : RInv i L W) (k : List Item) (Q : Option (AVal × Heap))
    (ih : ∀ L' W' ff lw lq, RInv (i + 1) L' W' → finK 0 [.tmp 6] (run E 0 (.code L5_0 :: .inLoop [1000000, 0, 1, 5, 7, 8, 9] L5_0 :: .inBlock 0 :: k) [(0, .imm nl fu true (l.map encRow)), (1, .imm nm fm true (la.map encRun)), (5, .ptr 0 0), (7, .ptr 1 0), (8, .ptr 2 0), (9, .lit (.int .i64 ((i + 1 : Nat) : Int)))] (.box [.lit (.int .i64 xl), .lit (.int .i64 xf), .lit (.int .u32 xb)] :: (lG ff lw lq L' W' 100000).map (renE (· + 1)))) = Q) :
    finK 0 [.tmp 6] (run E 0 (.code L5_0 :: .inLoop [1000000, 0, 1, 5, 7, 8, 9] L5_0 :: .inBlock 0 :: k) [(0, .imm nl fu true (l.map encRow)), (1, .imm nm fm true (la.map encRun)), (5, .ptr 0 0), (7, .ptr 1 0), (8, .ptr 2 0), (9, .lit (.int .i64 i))] (.box [.lit (.int .i64 xl), .lit (.int .i64 xf), .lit (.int .u32 xb)] :: (lG ff lw lq L W 100000).map (renE (· + 1)))) = Q := by
  obtain ⟨A, v⟩ := v
  have hfo : true = false → L = [] := (fun h => nomatch h)
  have v1 := v.fi
  have hb := v1.bs
  have hln := v1.ln
  have ht := v1.tot
  have hsW := v1.sum
  have wi := wrapIdx (i := i) (by omega)
  have hg := acc_facts v1.good (by omega)
  obtain ⟨g1, g2, g3, g4⟩ := hg hL
  have hlL : L.length ≤ 1000000 := by omega
  have hlW : W.length ≤ 4096 := by omega
  have hgi : (l.map encRow)[i]? = some (encRow l[i]) := by simp [List.getElem?_eq_getElem hi]
  have hmem := List.getElem_mem hi
  have hw := hfew _ hmem
  have hf0 := hfit _ hmem
  have hr : encRow l[i] = [.imm l[i].nl l[i].fu true (l[i].l.map encRun)] := rfl
  generalize l[i].nl = rn at *
  generalize l[i].fu = rf at *
  by_cases he : l[i].l = []
  · rw [he] at hr
    have hc := v1.chkB (by omega) hW
    have hf := v.room (by omega) hW
    have D := gdoesF true ff lw lq L W hfo hW hc v1.jo v1.dr ht hg (by omega) (blksB L).length 100000 (by omega) rn rf
    simp only [hf, if_false] at D
    have ih := ih (L ++ [(totB L, W)]) [] false false true ⟨A, v.flush (by omega) hW⟩
    have e1 : blksB (L ++ [(totB L, W)]) = blksB L ++ putBk (totB L, W) := by rw [blksB_append]; simp [blksB]
    have e2 : allR (L ++ [(totB L, W)]) = allR L ++ W := by simp [allR]
    have e3 : endsGo 0 0 (L ++ [(totB L, W)]) = endsGo 0 0 L ++ [((blksB L).length + (putBk (totB L, W)).length, totB L + sumN W)] := by rw [endsGo_append]; simp [endsGo]
    have e4 : ¬ (L ++ [(totB L, W)]) = [] := by simp
    simp only [lG, if_neg e4, lS, e1, e2, e3, if_true, Bool.true_eq_false, if_false, reduceIte, reduceCtorEq, List.length_append, List.length_cons, List.length_nil, Nat.zero_add] at ih
    simp only [lG, lS, lSJ, flH, hL, hW, if_true, if_false, Bool.true_eq_false, reduceIte, reduceCtorEq] at D ih ⊢
    generalize joined [] (allR L ++ W) = J2 at *
    generalize putBk (totB L, W) = pb at *
    generalize joined [] (allR L) = J at *
    generalize blksB L = bs at *
    generalize totB L = T at *
    generalize endsGo 0 0 L = es at *
    generalize L.length = nL at *
    simp [lG, lS, fF, fB, fileB, nilS, endE, encEnd, hL, hW, show totB [] = 0 from rfl, show blksB [] = [] from rfl, flH] at D
    simp [lG, lS, fF, fB, fileB, nilS, endE, encEnd, hL, hW, show totB [] = 0 from rfl, show blksB [] = [] from rfl, e4] at ih
    simp [go_sem, run_codeL E L5_0.eq_1, hi, hgi, hr, wi, fileB, nilS, purse_eq, List.range_succ, D, lG, lS, fF, fB, fileB, nilS, endE, encEnd, hL, hW, show totB [] = 0 from rfl, show blksB [] = [] from rfl]
    rw [run_inLoop']
    simp [go_sem, purse_eq, List.range_succ]
    simpa [go_sem] using ih
  · have hl12 : l[i].l.length ≤ 12 := by simp [fewR] at hw; exact hw.1
    have hn : ∀ x ∈ l[i].l, x.N ≤ 1000000 := by simp [fewR] at hw; exact hw.2
    have hok : ∀ x ∈ l[i].l, x.Ok := fun x hx => (hf0.1 x hx).ok
    have D := gdoesA true ff lw lq L W l[i].l he hfo hlL hlW v1.ck ht (by omega) hok (blksB L).length 100000 rn rf
    by_cases hc : chk l[i].l = 0
    · obtain ⟨v2, ha⟩ := v.app (by omega) hc hl12 hn hf0.1
      have hJn : joined [] (W ++ l[i].l) ≠ [] := joined_ne (fun x hx => ((sum_joined v1.ck hc).2 x hx).1) (by simp [he])
      have ih := ih L (joined [] (W ++ l[i].l)) ff lw false ⟨_, v2⟩
      simp only [ha, hc, ne_eq, not_true_eq_false, if_false, if_true, hW] at D
      generalize joined [] (W ++ l[i].l) = Z at *
      simp only [lG, lS, lSJ, flH, hL, hW, hJn, if_true, if_false, Bool.true_eq_false, reduceIte, reduceCtorEq] at D ih  ⊢
      generalize l[i].l = r at *
      generalize joined [] (allR L) = J at *
      generalize blksB L = bs at *
      generalize totB L = T at *
      generalize endsGo 0 0 L = es at *
      generalize L.length = nL at *
      generalize sumN W = sw at *
      simp [lG, lS, fF, fB, fileB, nilS, endE, encEnd, hL, hW, show totB [] = 0 from rfl, show blksB [] = [] from rfl, lSJ, hJn] at D
      simp [lG, lS, fF, fB, fileB, nilS, endE, encEnd, hL, hW, show totB [] = 0 from rfl, show blksB [] = [] from rfl, hJn, he] at ih
      simp [go_sem, run_codeL E L5_0.eq_1, hi, hgi, hr, wi, fileB, nilS, purse_eq, List.range_succ, D, hJn, he, lG, lS, fF, fB, fileB, nilS, endE, encEnd, hL, hW, show totB [] = 0 from rfl, show blksB [] = [] from rfl]
      rw [run_inLoop']
      simp [go_sem, purse_eq, List.range_succ]
      simpa [go_sem] using ih
    · have ha : appE L W l[i].l = chk l[i].l := by unfold appE; rw [if_pos hc]
      have ih := ih L W ff lw lq ⟨A, v.succ⟩
      simp only [ha, hc, ne_eq, not_false_eq_true, if_true] at D
      clear ha
      generalize chk l[i].l = c at *
      simp only [lG, lS, lSJ, flH, hL, hW, if_true, if_false, Bool.true_eq_false, reduceIte, reduceCtorEq] at D ih ⊢
      generalize l[i].l = r at *
      generalize joined [] (allR L) = J at *
      generalize blksB L = bs at *
      generalize totB L = T at *
      generalize endsGo 0 0 L = es at *
      generalize L.length = nL at *
      generalize sumN W = sw at *
      simp [lG, lS, fF, fB, fileB, nilS, endE, encEnd, hL, hW, show totB [] = 0 from rfl, show blksB [] = [] from rfl] at D ih
      simp [go_sem, run_codeL E L5_0.eq_1, hi, hgi, hr, wi, fileB, nilS, purse_eq, List.range_succ, D, hc, lG, lS, fF, fB, fileB, nilS, endE, encEnd, hL, hW, show totB [] = 0 from rfl, show blksB [] = [] from rfl]
      rw [run_inLoop']
      simp [go_sem, purse_eq, List.range_succ]
      simpa [go_sem] using ih
end Go.AM.R1
open Go Go.AM
namespace Go.AM.R1
/-! ### A Flush that wrote, told by the blocks that there are then; a file that crashed, opened -/
def fH1 (M : List Bk) (W0 : List Run) (most : Int) : Heap := [.box [.ptr 1 0, .own 3 (joined [] (allR M)).length 3 0 (joined [] (allR M)).length, .own 4 M.length 2 0 M.length, nilS], fileB (.own 5 (blksB M).length 1 0 (blksB M).length) (blksB M).length most false, .arr true true false 3 (W0.map encRun), .arr true false false 3 ((joined [] (allR M)).map encRun), .arr true false false 2 ((endsGo 0 0 M).map encEnd), .arr true false false 1 ((blksB M).map encB)]
def fH2 (M : List Bk) (G1 G2 : List (List AVal)) (most : Int) : Heap := [.box [.ptr 1 0, .own 6 (joined [] (allR M)).length 3 0 (joined [] (allR M)).length, .own 4 M.length 2 0 M.length, nilS], fileB (.own 2 (blksB M).length 1 0 (blksB M).length) (blksB M).length most false, .arr true false false 1 ((blksB M).map encB), .arr true true false 3 G1, .arr true false false 2 ((endsGo 0 0 M).map encEnd), .arr true true false 3 G2, .arr true false false 3 ((joined [] (allR M)).map encRun)]
theorem flH_1 (lw : Bool) (W : List Run) (hj : joined [] W = W) (most : Int) : flH false lw [] W most = fH1 ([] ++ [(totB [], W)]) W most := by
  have e1 : blksB ([] ++ [(totB [], W)]) = putBk (0, W) := by simp [blksB, totB]
  have e2 : allR ([] ++ [(totB [], W)]) = W := by simp [allR]
  have e3 : endsGo 0 0 ([] ++ [(totB [], W)]) = [((putBk (0, W)).length, sumN W)] := by simp [endsGo, totB]
  simp only [flH, fH1, e1, e2, e3, hj, if_true]
  simp [encEnd, endE]
theorem flH_1' (lw : Bool) (M : List Bk) (hM : M = []) (W : List Run) (hj : joined [] W = W) (most : Int) : flH false lw M W most = fH1 (M ++ [(totB M, W)]) W most := by
  subst hM; exact flH_1 lw W hj most
theorem flH_2 (lw : Bool) (L : List Bk) (hL : L ≠ []) (W : List Run) (most : Int) : flH true lw L W most = fH2 (L ++ [(totB L, W)]) ((joined [] (allR L) ++ W).map encRun) (W.map encRun) most := by
  have e1 : blksB (L ++ [(totB L, W)]) = blksB L ++ putBk (totB L, W) := by rw [blksB_append]; simp [blksB]
  have e2 : allR (L ++ [(totB L, W)]) = allR L ++ W := by simp [allR]
  have e3 : endsGo 0 0 (L ++ [(totB L, W)]) = endsGo 0 0 L ++ [((blksB L).length + (putBk (totB L, W)).length, totB L + sumN W)] := by rw [endsGo_append]; simp [endsGo]
  simp only [flH, fH2, e1, e2, e3, hL, if_false, Bool.true_eq_false]
  simp [encEnd, endE]
theorem fopenC (ff : Bool) (fb : List Nat) (hl : fb.length ≤ 1000000) (sure : Nat) (most : Int) : call E (.func (.func 37) [] []) [.ptr 0 0] (fB ff fb sure most true)
    = some (.tup [.ptr 2 0, .lit (.int .i64 0)], fB ff fb sure most true ++ [fileB (.own 3 fb.length 1 0 fb.length) fb.length most false, .arr true false fb.isEmpty 1 (fb.map encB)]) := by
  rw [call_func E E37]
  have h1 := bsize1 ff fb sure most true
  have h2 := clone_spec fb ff (by omega)
  simp [fB, fileB] at h1
  simp [go_sem, ir37, fB, fileB, nilS, h1, h2, purse_eq, List.range_succ]
/-- What a crash leaves of a block, behind the blocks ahead. -/
theorem kept_eq (M : List Bk) (P : List Nat) (left : Nat) (h : left ≤ P.length) (g : List Nat) (hg : P.length ≤ g.length) :
    xorAt ((blksB M ++ P).take ((blksB M).length + left)) (blksB M).length (g.take left) = blksB M ++ List.zipWith (· ^^^ ·) (P.take left) g := by
  have hgl : (g.take left).length = left := by simp; omega
  have ht : (blksB M ++ P).take ((blksB M).length + left) = blksB M ++ P.take left := by
    rw [List.take_append, List.take_of_length_le (by omega)]
    congr 1
    congr 1; omega
  rw [ht, xorAt_eq _ _ _ (by simp; omega), hgl, List.take_left, List.drop_left, List.drop_of_length_le (by simp; omega), List.append_nil]
  congr 1
  apply List.ext_getElem
  · simp; omega
  · intro i h1 h2
    simp
theorem app_facts {i : Nat} {M : List Bk} (v : RInv i M []) (hi : i ≤ 60) {r : List Run} (hr : r ≠ []) (hl : r.length ≤ 12) (hn : ∀ x ∈ r, x.N ≤ 1000000) (hf : ∀ x ∈ r, x.Fit) (hc : chk r = 0) :
    appE M [] r = 0 ∧ chkB (totB M) (joined [] r) = 0 ∧ RInv (i + 2) (M ++ [(totB M, joined [] r)]) [] ∧ FInv 100000 (i + 1) M (joined [] r) ∧ joined [] r ≠ [] ∧ (joined [] r).length ≤ 12 ∧ ¬ (100000 : Int) < ((blksB M).length : Int) + (putBk (totB M, joined [] r)).length := by
  obtain ⟨A, v⟩ := v
  obtain ⟨v2, ha⟩ := v.app (by omega) hc hl hn hf
  rw [List.nil_append] at v2
  have hne : joined [] r ≠ [] := joined_ne (fun x hx => ((sum_joined v.fi.ck hc).2 x (by simpa using hx)).1) hr
  have hjl := joined_length r []
  simp at hjl
  exact ⟨ha, v2.fi.chkB (by omega) hne, ⟨_, v2.flush (by omega) hne⟩, v2.fi, hne, by omega, v2.room (by omega) hne⟩
end Go.AM.R1
open Go Go.AM Go.Proofs
namespace Go.AM.R1
theorem awake17 : call E (.func (.func 18) [] []) [] [] = some (.lit (.bool true), []) :=
  (call_iff E).2 ⟨3000, by kernel_rfl⟩
end Go.AM.R1
open Go Go.AM
namespace Go.AM.R1
theorem rec1_loop (xl xf xb : Int) (l : List RowV) (nl fu : Bool) (nm fm : Bool) (la : List Run) (hl4 : l.length ≤ 40) (hfew : ∀ r ∈ l, fewR r.l = true) (hfit : ∀ r ∈ l, r.Fit) (k : List Item) (Q : Option (AVal × Heap))
    (hk : ∀ τ i L W ff lw lq, RInv i L W → i ≤ 40 → lk 1 τ = .imm nm fm true (la.map encRun) → lk 5 τ = .ptr 0 0 → lk 7 τ = .ptr 1 0 → lk 8 τ = .ptr 2 0 → finK 0 [.tmp 6] (run E 0 k τ (.box [.lit (.int .i64 xl), .lit (.int .i64 xf), .lit (.int .u32 xb)] :: (lG ff lw lq L W 100000).map (renE (· + 1)))) = Q) :
    ∀ (d i : Nat) (L W) (ff lw lq : Bool), i + d = l.length → RInv i L W →
    finK 0 [.tmp 6] (run E 0 (.code L5_0 :: .inLoop [1000000, 0, 1, 5, 7, 8, 9] L5_0 :: .inBlock 0 :: k) [(0, .imm nl fu true (l.map encRow)), (1, .imm nm fm true (la.map encRun)), (5, .ptr 0 0), (7, .ptr 1 0), (8, .ptr 2 0), (9, .lit (.int .i64 i))] (.box [.lit (.int .i64 xl), .lit (.int .i64 xf), .lit (.int .u32 xb)] :: (lG ff lw lq L W 100000).map (renE (· + 1)))) = Q := by
  intro d
  induction d with
  | zero =>
    intro i L W ff lw lq hi v
    have : i = l.length := by omega
    subst this
    simp [go_sem, run_codeL E L5_0.eq_1]
    simpa [go_sem] using hk _ _ L W ff lw lq v hl4 rfl rfl rfl rfl
  | succ d ih =>
    intro i L W ff lw lq hi v
    have ih2 := fun L' W' ff lw lq v2 => ih (i + 1) L' W' ff lw lq (by omega) v2
    by_cases hL : L = []
    · subst hL
      by_cases hW : W = []
      · subst hW
        exact rec1_A0 ff lw lq xl xf xb l nl fu nm fm la hl4 hfew hfit i (by omega) v k Q ih2
      · exact rec1_A1 ff lw lq W hW xl xf xb l nl fu nm fm la hl4 hfew hfit i (by omega) v k Q ih2
    · by_cases hW : W = []
      · subst hW
        exact rec1_B0 ff lw lq L hL xl xf xb l nl fu nm fm la hl4 hfew hfit i (by omega) v k Q ih2
      · exact rec1_B1 ff lw lq L hL W hW xl xf xb l nl fu nm fm la hl4 hfew hfit i (by omega) v k Q ih2
theorem rec1_loop0 (xl xf xb : Int) (l : List RowV) (nl fu : Bool) (nm fm : Bool) (la : List Run) (hl4 : l.length ≤ 40) (hfew : ∀ r ∈ l, fewR r.l = true) (hfit : ∀ r ∈ l, r.Fit) (k : List Item) (Q : Option (AVal × Heap))
    (hk : ∀ τ i L W ff lw lq, RInv i L W → i ≤ 40 → lk 1 τ = .imm nm fm true (la.map encRun) → lk 5 τ = .ptr 0 0 → lk 7 τ = .ptr 1 0 → lk 8 τ = .ptr 2 0 → finK 0 [.tmp 6] (run E 0 k τ (.box [.lit (.int .i64 xl), .lit (.int .i64 xf), .lit (.int .u32 xb)] :: (lG ff lw lq L W 100000).map (renE (· + 1)))) = Q) :
    finK 0 [.tmp 6] (run E 0 (.code L5_0 :: .inLoop [1000000, 0, 1, 5, 7, 8, 9] L5_0 :: .inBlock 0 :: k) [(0, .imm nl fu true (l.map encRow)), (1, .imm nm fm true (la.map encRun)), (5, .ptr 0 0), (7, .ptr 1 0), (8, .ptr 2 0), (9, .lit (.int .i64 0))] [.box [.lit (.int .i64 xl), .lit (.int .i64 xf), .lit (.int .u32 xb)], .box [.ptr 2 0, .imm true true true [], .imm true true true [], .imm true true true []], .box [.imm true true true [], .lit (.int .i64 0), .lit (.int .i64 100000), .lit (.bool false)]]) = Q := by
  have h := rec1_loop xl xf xb l nl fu nm fm la hl4 hfew hfit k Q hk l.length 0 [] [] false false false (by omega) ⟨[], ⟨trivial, rfl, rfl, by simp, by simp, by simp [totB, sumN], by simp [blksB]⟩, by simp [blksB], by simp, by simp [allR], rfl, by simp, rfl, rfl⟩
  simpa [lG, lS, fileB, nilS, go_sem] using h
def recK : List Item := [.code (.seq (.seq (.reg [⟨none, some 231, .copy (.t 14)⟩, ⟨none, some 232, .fieldA 0 (.t 5)⟩, ⟨none, some 233, .load false 1 (.t 232)⟩, ⟨none, some 234, .copy (.t 21)⟩, ⟨none, some 235, .call 41 [(.t 231), (.t 233), (.t 234)]⟩, ⟨none, some 236, .bin .neq (.t 235) (.c (.lit (.int .i64 0)))⟩] [] []) (.cond (.t 236) (.seq (.reg [⟨none, some 6, .copy (.c (.lit (.bool false)))⟩] [] []) .ret) .skip)) (.seq (.reg [⟨none, some 238, .copy (.t 14)⟩, ⟨none, some 239, .call 42 [(.t 238)]⟩, ⟨none, some 237, .copy (.t 239)⟩, ⟨none, some 240, .extract (.t 237) 0⟩, ⟨none, some 241, .extract (.t 237) 1⟩, ⟨none, some 242, .extract (.t 237) 2⟩, ⟨none, some 27, .copy (.t 240)⟩, ⟨none, some 28, .copy (.t 241)⟩, ⟨none, some 29, .copy (.t 242)⟩] [] []) (.seq (.reg [⟨none, some 244, .copy (.t 14)⟩, ⟨none, some 245, .call 37 [(.t 244)]⟩, ⟨none, some 243, .copy (.t 245)⟩, ⟨none, some 246, .extract (.t 243) 0⟩, ⟨none, some 247, .extract (.t 243) 1⟩, ⟨none, some 30, .copy (.t 246)⟩, ⟨none, some 31, .copy (.t 247)⟩] [] []) (.seq (.seq (.reg [⟨none, some 248, .copy (.t 29)⟩, ⟨none, some 249, .bin .neq (.t 248) (.c (.lit (.int .i64 25)))⟩, ⟨none, some 250, .copy (.t 249)⟩, ⟨some (250, false), some 251, .copy (.t 30)⟩, ⟨some (250, false), some 252, .isNil false .ptr (.t 251)⟩, ⟨none, some 253, .pick (.t 250) (.c (.lit (.bool true))) (.t 252)⟩, ⟨none, some 254, .copy (.t 253)⟩, ⟨some (254, false), some 255, .copy (.t 31)⟩, ⟨some (254, false), some 256, .bin .neq (.t 255) (.c (.lit (.int .i64 0)))⟩, ⟨none, some 257, .pick (.t 254) (.c (.lit (.bool true))) (.t 256)⟩] [] []) (.cond (.t 257) (.seq (.reg [⟨none, some 6, .copy (.c (.lit (.bool false)))⟩] [] []) .ret) .skip)) (.seq (.reg [⟨none, some 259, .copy (.t 30)⟩, ⟨none, some 260, .call 42 [(.t 259)]⟩, ⟨none, some 258, .copy (.t 260)⟩, ⟨none, some 261, .extract (.t 258) 0⟩, ⟨none, some 262, .extract (.t 258) 1⟩, ⟨none, some 263, .extract (.t 258) 2⟩, ⟨none, some 32, .copy (.t 261)⟩, ⟨none, some 33, .copy (.t 262)⟩, ⟨none, some 34, .copy (.t 263)⟩] [] []) (.seq (.seq (.reg [⟨none, some 264, .copy (.t 32)⟩, ⟨none, some 265, .isNil false .ptr (.t 264)⟩, ⟨none, some 266, .copy (.t 265)⟩, ⟨some (266, false), some 267, .copy (.t 34)⟩, ⟨some (266, false), some 268, .bin .neq (.t 267) (.c (.lit (.int .i64 0)))⟩, ⟨none, some 269, .pick (.t 266) (.c (.lit (.bool true))) (.t 268)⟩] [] []) (.cond (.t 269) (.seq (.reg [⟨none, some 6, .copy (.c (.lit (.bool false)))⟩] [] []) .ret) .skip)) (.seq (.reg [⟨none, some 271, .copy (.t 32)⟩, ⟨none, some 272, .call 32 [(.t 271)]⟩, ⟨none, some 270, .copy (.t 272)⟩, ⟨none, some 273, .extract (.t 270) 0⟩, ⟨none, some 274, .extract (.t 270) 1⟩, ⟨none, some 35, .copy (.t 273)⟩, ⟨none, some 36, .copy (.t 274)⟩] [] []) (.seq (.seq (.reg [⟨none, some 275, .fieldA 0 (.t 5)⟩, ⟨none, some 276, .load false 1 (.t 275)⟩, ⟨none, some 277, .copy (.t 19)⟩, ⟨none, some 278, .len (.t 277)⟩, ⟨none, some 279, .copy (.t 13)⟩, ⟨none, some 280, .bin .sub (.t 278) (.t 279)⟩, ⟨none, some 281, .bin .eql (.t 276) (.t 280)⟩, ⟨none, some 282, .copy (.t 281)⟩, ⟨some (282, true), some 283, .copy (.t 22)⟩, ⟨some (282, true), some 284, .un .not (.t 283)⟩, ⟨none, some 285, .pick (.t 282) (.t 284) (.c (.lit (.bool false)))⟩] [] []) (.cond (.t 285) (.seq (.reg [⟨none, some 286, .copy (.t 33)⟩, ⟨none, some 287, .bin .eql (.t 286) (.c (.lit (.int .i64 0)))⟩, ⟨none, some 288, .copy (.t 287)⟩, ⟨some (288, true), some 289, .copy (.t 35)⟩, ⟨some (288, true), some 290, .copy (.t 17)⟩, ⟨some (288, true), some 291, .call 33 [(.t 289), (.t 290)]⟩, ⟨none, some 292, .pick (.t 288) (.t 291) (.c (.lit (.bool false)))⟩, ⟨none, some 293, .copy (.t 292)⟩, ⟨some (293, true), some 294, .copy (.t 32)⟩, ⟨some (293, true), some 295, .call 26 [(.t 294)]⟩, ⟨some (293, true), some 296, .copy (.t 7)⟩, ⟨some (293, true), some 297, .call 26 [(.t 296)]⟩, ⟨some (293, true), some 298, .bin .eql (.t 295) (.t 297)⟩, ⟨none, some 299, .pick (.t 293) (.t 298) (.c (.lit (.bool false)))⟩, ⟨none, some 300, .copy (.t 299)⟩, ⟨some (300, true), some 301, .call 18 []⟩, ⟨none, some 302, .pick (.t 300) (.t 301) (.c (.lit (.bool false)))⟩, ⟨none, some 6, .copy (.t 302)⟩] [] []) .ret) .skip)) (.seq (.reg [⟨none, some 303, .copy (.t 33)⟩, ⟨none, some 304, .fieldA 0 (.t 5)⟩, ⟨none, some 305, .load false 1 (.t 304)⟩, ⟨none, some 306, .bin .eql (.t 303) (.t 305)⟩, ⟨none, some 307, .copy (.t 306)⟩, ⟨some (307, true), some 308, .copy (.t 35)⟩, ⟨some (307, true), some 309, .copy (.t 10)⟩, ⟨some (307, true), some 310, .call 33 [(.t 308), (.t 309)]⟩, ⟨none, some 311, .pick (.t 307) (.t 310) (.c (.lit (.bool false)))⟩, ⟨none, some 312, .copy (.t 311)⟩, ⟨some (312, true), some 313, .copy (.t 32)⟩, ⟨some (312, true), some 314, .call 26 [(.t 313)]⟩, ⟨some (312, true), some 315, .copy (.t 12)⟩, ⟨some (312, true), some 316, .bin .eql (.t 314) (.t 315)⟩, ⟨none, some 317, .pick (.t 312) (.t 316) (.c (.lit (.bool false)))⟩, ⟨none, some 318, .copy (.t 317)⟩, ⟨some (318, true), some 319, .copy (.t 32)⟩, ⟨some (318, true), some 320, .call 29 [(.t 319)]⟩, ⟨some (318, true), some 321, .copy (.t 12)⟩, ⟨some (318, true), some 322, .bin .eql (.t 320) (.t 321)⟩, ⟨none, some 323, .pick (.t 318) (.t 322) (.c (.lit (.bool false)))⟩, ⟨none, some 324, .copy (.t 323)⟩, ⟨some (324, true), some 325, .copy (.t 30)⟩, ⟨some (324, true), some 326, .call 36 [(.t 325)]⟩, ⟨some (324, true), some 327, .copy (.t 13)⟩, ⟨some (324, true), some 328, .bin .eql (.t 326) (.t 327)⟩, ⟨none, some 329, .pick (.t 324) (.t 328) (.c (.lit (.bool false)))⟩, ⟨none, some 330, .copy (.t 329)⟩, ⟨some (330, true), some 331, .call 18 []⟩, ⟨none, some 332, .pick (.t 330) (.t 331) (.c (.lit (.bool false)))⟩, ⟨none, some 6, .copy (.t 332)⟩] [] []) .ret)))))))))]
set_option maxRecDepth 10000 in
set_option maxHeartbeats 16000000 in
theorem logRecovers_spec (l : List RowV) (hfit : ∀ r ∈ l, r.Fit) (nl fu : Bool) (la : List Run) (hla : ∀ r ∈ la, r.Fit) (nm fm : Bool) (xl xf xb : Int) (hxl : -9223372036854775808 ≤ xl ∧ xl ≤ 9223372036854775807) (hxf : -9223372036854775808 ≤ xf ∧ xf ≤ 9223372036854775807) (hxb : 0 ≤ xb ∧ xb ≤ 4294967295) :
    call E (.func (.func 5) [] []) [.imm nl fu true (l.map encRow), .imm nm fm true (la.map encRun), .agg [.lit (.int .i64 xl), .lit (.int .i64 xf), .lit (.int .u32 xb)]] [] = some (.lit (.bool true), []) := by
  rw [call_func E E5]
  have hF := fewA_spec l nl fu
  have hF2 := few17_spec la nm fm
  by_cases hf : fewA l = true
  · rw [hf] at hF
    by_cases hf2 : fewR la = true
    · rw [hf2] at hF2
      by_cases hl0 : la = []
      · subst hl0
        simp at hF2
        simp [go_sem, ir5, hF, hF2, awake17, purse_eq, List.range_succ]
      · have hl0' : ¬ (la.length : Int) = 0 := by have := List.length_pos_iff.2 hl0; omega
        have hM := lmade_spec 100000 (by omega)
        have hl4 : l.length ≤ 40 := by simp [fewA] at hf; exact hf.1
        have hfew : ∀ r ∈ l, fewR r.l = true := by simp [fewA] at hf; exact hf.2
        have hla12 : la.length ≤ 12 := by simp [fewR] at hf2; exact hf2.1
        have hlan : ∀ x ∈ la, x.N ≤ 1000000 := by simp [fewR] at hf2; exact hf2.2
        have hlok : ∀ x ∈ la, x.Ok := fun x hx => (hla x hx).ok
        have hCk := check_spec la (by omega) hlok nm fm
        rw [ticks_eq] at hCk
        simp [lN, fileB, nilS] at hM
        simp [go_sem, ir5, hF, hF2, hl0, hl0', hM, nilS, purse_eq, List.range_succ]
        rw [run_inLoop']
        simp [go_sem, purse_eq, List.range_succ]
        refine rec1_loop0 xl xf xb l nl fu nm fm la hl4 hfew hfit _ _ ?_
        intro τ i L W ff lw lq v hi t1 t5 t7 t8
        obtain ⟨A, v0⟩ := v
        have v1 := v0.fi
        have hg := acc_facts v1.good (by have := v1.bs; omega)
        have ht := v1.tot
        by_cases hL : L = []
        · subst hL
          by_cases hW : W = []
          · subst hW
            have hFl := gflush0 false false false lq [] (fun _ => rfl) 0 100000 false
            simp only [Bool.false_eq_true, if_false] at hFl
            obtain ⟨M, hM0⟩ : ∃ M : List Bk, M = [] := ⟨_, rfl⟩
            have vM : RInv i M [] := hM0 ▸ ⟨A, v0⟩
            have hMn : M = [] := hM0
            obtain ⟨A2, w0⟩ := vM
            have w1 := w0.fi
            have hgM := acc_facts w1.good (by have := w1.bs; omega)
            have htM := w1.tot
            have hbM := w1.bs
            have hlM := good_len M 0 w1.good
            have hfoM : false = false → M = [] := fun _ => hMn
            have hfbM : false = false → blksB M = [] := fun _ => by rw [hMn]; rfl
            have hR := gruns false false false lq M [] hfoM (by by_cases q : M = []; rw [q]; simp [allR, joined]; have := (hgM q).2.1; omega) (fun q => (hgM q).2.2.1) 0 100000 false
            have hT := gticks false false true lq M [] hfoM (by omega) (by simp) rfl htM 0 100000 false
            have hT1 := gticks false false true true M [] hfoM (by omega) (by simp) rfl htM 0 100000 false
            have hLn := flen false false (blksB M) hfbM 0 100000 false
            have hO := fopen0 100000
            have hA := gappend false false true true M [] la hfoM (by omega) (by simp) rfl htM (by omega) hlok 0 100000 false nm fm
            simp only [Bool.false_eq_true, if_false, List.nil_append, if_true] at hA
            by_cases hcl : chk la = 0
            · obtain ⟨ha, hcB, ⟨A3, y0⟩, f1, hJn, hJl, hroom⟩ := app_facts ⟨A2, w0⟩ (by omega) hl0 hla12 hlan hla hcl
              rw [ha] at hA
              simp only [hcl, ne_eq, not_true_eq_false, if_false] at hA
              generalize hW2 : joined [] la = W2 at *
              clear hW2
              have hm16 := few_bytes (x := (totB M, W2)) hcB hJl
              have hhl := headN_le (x := (totB M, W2)) hcB hm16
              obtain ⟨c, rest, hPc, hhd⟩ := first_byte (x := (totB M, W2)) hm16
              have hFl2 := gflush false false true false M W2 hfoM hJn hcB f1.jo f1.dr htM hgM (by omega) 0 100000 (by omega) false
              simp only [Bool.false_eq_true, if_false, hroom] at hFl2
              rw [flH_1' _ M hMn W2 f1.jo] at hFl2
              have e1 : blksB (M ++ [(totB M, W2)]) = blksB M ++ putBk (totB M, W2) := by rw [blksB_append]; simp [blksB]
              have hsh := fun (w : List Nat) => short_get (x := (totB M, W2)) hcB hm16 (w := w)
              have hPb : ∀ c ∈ putBk (totB M, W2), c < 256 := fun c hc => good_byte _ 0 y0.fi.good c (by rw [e1]; simp [hc])
              have htu := fun (w : List Nat) fr t ht hI hle => turned_get (P := putBk (totB M, W2)) (w := w) rfl hcB hPb (fr := fr) (t := t) ht hI hle
              rw [show (putN (bytesN (numsN (totB M) W2)).length).length = headN (totB M, W2) from rfl] at htu
              have hkp := fun left h g hg => kept_eq M (putBk (totB M, W2)) left h g hg
              have hst := fun (w : List Nat) hw => scanB_tail w1.good (w := w) hw
              obtain ⟨M2, hM2⟩ : ∃ M2, M2 = M ++ [(totB M, W2)] := ⟨_, rfl⟩
              rw [← hM2] at e1 y0 hFl2
              have hM2n : ¬ M2 = [] := by rw [hM2]; simp
              have hspt := scanB_put y0.fi.good
              have hgM2 := acc_facts y0.fi.good (by have := y0.fi.bs; omega)
              have hbM2 := y0.fi.bs
              have hlM2 := good_len M2 0 y0.fi.good
              have htM2 := y0.fi.tot
              obtain ⟨k1, k2, k3, k4⟩ := hgM2 hM2n
              have hb2 := good_byte M2 0 y0.fi.good
              have hbb := good_byte M 0 w1.good
              generalize headN (totB M, W2) = head at *
              generalize hPP : putBk (totB M, W2) = P at *
              clear hPP hroom hcB
              have hbn2 : blksB M2 ≠ [] := by rw [e1, hPc]; simp
              have hie2 : (blksB M2).isEmpty = false := by simpa using hbn2
              have hPl : 0 < P.length := by rw [hPc]; simp
              have hPne : P ≠ [] := by rw [hPc]; simp
              have hbl : (blksB M2).length = (blksB M).length + P.length := by rw [e1]; simp
              have hR2 := gruns true false false false M2 [] (fun h => nomatch h) (by omega) (fun _ => k3) (blksB M2).length 100000 false
              have hT2 := gticks true false true false M2 [] (fun h => nomatch h) (by omega) (by simp) rfl htM2 (blksB M2).length 100000 false
              have hB := fbytes true false (blksB M2) (by omega) (blksB M2).length 100000 false
              have hOB := fbytes false false (blksB M) (by omega) 0 100000 false
              have S13 := same13_spec (blksB M) (blksB M) (by omega) false false true true
              rw [decide_eq_true rfl] at S13
              have hOA := fappend false false (blksB M) hfbM 0 100000 (by omega) false P hPne (by omega) false
              rw [if_neg (by simp), if_neg (by omega), ← e1] at hOA
              have htk : List.take (blksB M).length ((blksB M2).map encB) = (blksB M).map encB := by rw [e1, List.map_append, ← List.length_map (f := encB), List.take_left]
              have hdk : List.drop (blksB M).length ((blksB M2).map encB) = P.map encB := by rw [e1, List.map_append, ← List.length_map (f := encB), List.drop_left]
              have hct : cutE ((blksB M2).map encB) 0 (blksB M).length = (blksB M).map encB := by unfold cutE; simp only [Nat.zero_add, List.drop_zero]; exact htk
              have hcd : cutE ((blksB M2).map encB) (blksB M).length ((blksB M2).length - (blksB M).length) = P.map encB := by unfold cutE; rw [Nat.add_sub_cancel' (by omega), List.take_of_length_le (by simp)]; exact hdk
              have hb0 : (blksB M2)[(blksB M).length]? = some c := by rw [e1, hPc, List.getElem?_append_right (by omega)]; simp
              have w1' : IntKind.wrap .i64 (((blksB M2).length : Int) - ((blksB M).length : Int)) = (P.length : Int) := by rw [wrap64 (by omega) (by omega)]; omega
              have hle : ¬ (blksB M2).length ≤ (blksB M).length := by omega
              have hle2 : (blksB M).length ≤ (blksB M2).length := by omega
              have hle3 : (blksB M).length < (blksB M2).length := by omega
              have hr2 := rowsB (blksB M2)
              have hcat : ¬ ((totB M : Int) = totB M → False) := by simp
              have hcr := fun left h => crash_range false (blksB M2) (by omega) (blksB M).length (by omega) 100000 left h true true
              have hcs := fun g hg hgl left h1 h2 => crash_spec false (blksB M2) hb2 (by omega) (blksB M).length 100000 g hg hgl left h1 h2 false false
              have hpl10 : P.length ≤ 100000 := by omega
              have hz1 : ¬ (70368744177664 < P.length) := by omega
              have hz2 : (P.length : Int) ≤ 70368744177664 := by omega
              have hz : List.replicate P.length [AVal.lit (.int .u8 0)] = (List.replicate P.length 0).map encB := by simp [encB]
              have hbg : ∀ h : (blksB M).length < (blksB M2).length, (blksB M2)[(blksB M).length]'h = c := fun h => Option.some.inj ((List.getElem?_eq_getElem h).symm.trans hb0)
              have hz0 : (blksB M).length = 0 := by rw [hMn]; rfl
              simp only [hz0] at w1' hle hle2 hle3 hb0 hbg
              simp only [Int.natCast_zero, Int.sub_zero] at w1'
              rw [← e1] at hkp
              by_cases hrg : xl < 0 ∨ (P.length : Int) < xl
              · have hcr := hcr xl (by omega)
                clear hsh htu hkp hst hspt hcs
                simp only [lG, lS, fH1, fH2, fF, fB, hM2n, hJn, if_true, if_false, Bool.true_eq_false, reduceIte, reduceCtorEq] at hR2 hT2 hB hOB S13 hOA hFl2 hcr
                generalize joined [] (allR M2) = J2 at *
                generalize blksB M2 = b2 at *
                generalize totB M2 = T2 at *
                generalize endsGo 0 0 M2 = es2 at *
                generalize M2.length = nM2 at *
                simp [lG, lS, fH1, fH2, fF, fB, fileB, nilS, endE, encEnd, hMn, show totB [] = 0 from rfl, show blksB [] = [] from rfl, show sumN [] = 0 from rfl, show allR [] = [] from rfl, show joined [] [] = [] from rfl, hM2n, hie2, hJn, hbn2] at hFl hR hT hT1 hLn hO hA hR2 hT2 hB hOB S13 hOA hFl2 hcr hct hcd ⊢
                by_cases hx0 : xl < 0
                · simp [go_sem, t1, t5, t7, t8, purse_eq, List.range_succ, hFl, hR, hT, hT1, hLn, hO, hA, hR2, hT2, hB, hOB, S13, hOA, hFl2, hcr, hct, hcd, hle, hle2, hle3, w1', hr2, hx0, awake17, lG, lS, fH1, fH2, fF, fB, fileB, nilS, endE, encEnd, hMn, show totB [] = 0 from rfl, show blksB [] = [] from rfl, show sumN [] = 0 from rfl, show allR [] = [] from rfl, show joined [] [] = [] from rfl, hM2n, hie2, hJn, hbn2]
                · have hx1 : (P.length : Int) < xl := by omega
                  simp [go_sem, t1, t5, t7, t8, purse_eq, List.range_succ, hFl, hR, hT, hT1, hLn, hO, hA, hR2, hT2, hB, hOB, S13, hOA, hFl2, hcr, hct, hcd, hle, hle2, hle3, w1', hr2, hx0, hx1, awake17, lG, lS, fH1, fH2, fF, fB, fileB, nilS, endE, encEnd, hMn, show totB [] = 0 from rfl, show blksB [] = [] from rfl, show sumN [] = 0 from rfl, show allR [] = [] from rfl, show joined [] [] = [] from rfl, hM2n, hie2, hJn, hbn2]
              · have hx0 : ¬ xl < 0 := by omega
                have hx1 : ¬ (P.length : Int) < xl := by omega
                obtain ⟨left, rfl⟩ := Int.eq_ofNat_of_zero_le (show 0 ≤ xl by omega)
                have hlp : left ≤ P.length := by omega
                have hx1n : ¬ P.length < left := by omega
                clear hcr hrg
                have hcase : (127 < c ∧ head = 2) ∨ (¬ 127 < c ∧ head = 1) := by by_cases h : 127 < c <;> simp [h] at hhd ⊢ <;> exact hhd
                clear hhd
                by_cases hlh : left ≤ head
                · have hzb : ∀ c ∈ List.replicate P.length 0, c < 256 := fun c hc => by have := List.eq_of_mem_replicate hc; omega
                  have hcs := hcs (List.replicate P.length 0) hzb (by simp; omega) left (by simp; omega) (by omega)
                  rw [hkp left hlp (List.replicate P.length 0) (by simp), zip_zero _ _ (by simp; omega)] at hcs
                  have hwl : (P.take left).length = left := by simp; omega
                  have hbad := hsh (P.take left) (by omega) (by rw [hwl])
                  have hsc := hst (P.take left) hbad
                  have hKb : ∀ c ∈ blksB M ++ P.take left, c < 256 := fun c hc => by rcases List.mem_append.1 hc with h | h; exact hbb c h; exact hPb c (List.mem_of_mem_take h)
                  have hKt : (blksB M ++ P.take left).take (blksB M).length = blksB M := List.take_left
                  obtain ⟨K, hK⟩ : ∃ K, K = blksB M ++ P.take left := ⟨_, rfl⟩
                  rw [← hK] at hcs hsc hKb hKt
                  have hKl : K.length = (blksB M).length + left := by rw [hK]; simp; omega
                  have hgC := gopenC true K hKb (by omega) (blksB M).length 100000
                  have hoC := fopenC true K (by omega) (blksB M).length 100000
                  have hgo := gopen K.isEmpty K hKb (by omega) K.length 100000
                  rw [hsc] at hgo
                  simp only [] at hgo
                  rw [show min K.length (blksB M).length = (blksB M).length from by omega, hKt] at hgo
                  have hKi : ¬ K = [] ∨ K.isEmpty = true := by cases K <;> simp
                  have hqR := gruns true true false false M [] (fun h => nomatch h) (by by_cases q : M = []; rw [q]; simp [allR, joined]; have := (hgM q).2.1; omega) (fun q => (hgM q).2.2.1) (blksB M).length 100000 false
                  have hqT := gticks true true true false M [] (fun h => nomatch h) (by omega) (by simp) rfl htM (blksB M).length 100000 false
                  have hqS := sureG true true true true M [] (fun h => nomatch h) (by omega) (blksB M).length 100000 false
                  rw [sureOf_all] at hqS
                  have hqL := flen true true (blksB M) (fun h => nomatch h) (blksB M).length 100000 false
                  have Sm := same_spec (joined [] (allR M)) (joined [] (allR M)) (by rw [hMn]; simp [allR, joined]) true true true true
                  rw [decide_eq_true rfl] at Sm
                  rw [show ((K.length : Int) - ((blksB M).length : Int)) = left from by omega] at hgo
                  have hKe : ∀ b, ([Entry.arr true false b 1 (K.map encB)] : Heap) = [.arr true false b 1 (K.map encB)] := fun _ => rfl
                  have hlw : ¬ left = P.length := by omega
                  have hlwi : ¬ (left : Int) = (P.length : Int) := by omega
                  clear hsh htu hkp hst hspt hbad hwl hK hKt hsc hKb hKe hKi
                  simp only [← hKl] at hcs
                  simp only [lG, lS, fH1, fH2, fF, fB, hM2n, hJn, if_true, if_false, Bool.true_eq_false, reduceIte, reduceCtorEq] at hR2 hT2 hB hOB S13 hOA hFl2 hcs hgC hoC hgo hqR hqT hqS hqL Sm
                  generalize joined [] (allR M2) = J2 at *
                  generalize blksB M2 = b2 at *
                  generalize totB M2 = T2 at *
                  generalize endsGo 0 0 M2 = es2 at *
                  generalize M2.length = nM2 at *
                  simp [lG, lS, fH1, fH2, fF, fB, fileB, nilS, endE, encEnd, hMn, show totB [] = 0 from rfl, show blksB [] = [] from rfl, show sumN [] = 0 from rfl, show allR [] = [] from rfl, show joined [] [] = [] from rfl, hM2n, hie2, hJn, hbn2] at hFl hR hT hT1 hLn hO hA hR2 hT2 hB hOB S13 hOA hFl2 hcs hgC hoC hgo hqR hqT hqS hqL Sm hct hcd ⊢
                  simp [encB] at hcs
                  rcases hcase with ⟨h127, rfl⟩ | ⟨h127, rfl⟩
                  · have h127i : (127 : Int) < (c : Int) := by omega
                    have hlh1 : ¬ 2 < left := by omega
                    have hlh2 : ¬ ((2 : Int) < left) := by omega
                    simp [go_sem, t1, t5, t7, t8, purse_eq, List.range_succ, hFl, hR, hT, hT1, hLn, hO, hA, hR2, hT2, hB, hOB, S13, hOA, hFl2, hcs, hgC, hoC, hgo, hqR, hqT, hqS, hqL, Sm, hct, hcd, hle, hle2, hle3, w1', hr2, hx0, hx1, hx1n, hbg, encB, h127, hlh1, hlh2, hz1, hz2, h127i, hlw, hlwi, awake17, lG, lS, fH1, fH2, fF, fB, fileB, nilS, endE, encEnd, hMn, show totB [] = 0 from rfl, show blksB [] = [] from rfl, show sumN [] = 0 from rfl, show allR [] = [] from rfl, show joined [] [] = [] from rfl, hM2n, hie2, hJn, hbn2]
                  · have h127i : ¬ (127 : Int) < (c : Int) := by omega
                    have hlh1 : ¬ 1 < left := by omega
                    have hlh2 : ¬ ((1 : Int) < left) := by omega
                    simp [go_sem, t1, t5, t7, t8, purse_eq, List.range_succ, hFl, hR, hT, hT1, hLn, hO, hA, hR2, hT2, hB, hOB, S13, hOA, hFl2, hcs, hgC, hoC, hgo, hqR, hqT, hqS, hqL, Sm, hct, hcd, hle, hle2, hle3, w1', hr2, hx0, hx1, hx1n, hbg, encB, h127, hlh1, hlh2, hz1, hz2, h127i, hlw, hlwi, awake17, lG, lS, fH1, fH2, fF, fB, fileB, nilS, endE, encEnd, hMn, show totB [] = 0 from rfl, show blksB [] = [] from rfl, show sumN [] = 0 from rfl, show allR [] = [] from rfl, show joined [] [] = [] from rfl, hM2n, hie2, hJn, hbn2]
                · have hlh1 : head < left := by omega
                  obtain ⟨many, hmany⟩ : ∃ many : Nat, many = 8 * (left - head) := ⟨_, rfl⟩
                  have hm0 : ¬ many = 0 := by omega
                  have hm0' : ¬ (many : Int) = 0 := by omega
                  have wA : IntKind.wrap .i64 ((left : Int) - (head : Int)) = (left : Int) - head := wrap64 (by omega) (by omega)
                  have wB : IntKind.wrap .i64 (8 * ((left : Int) - (head : Int))) = (many : Int) := by rw [wrap64 (by omega) (by omega)]; omega
                  have t1' : -(many : Int) < xf.tmod many ∧ xf.tmod many < many := ⟨by have := Int.lt_tmod_of_pos xf (show (0 : Int) < many by omega); omega, Int.tmod_lt_of_pos xf (by omega)⟩
                  have wC : IntKind.wrap .i64 (xf.tmod many + many) = xf.tmod many + many := wrap64 (by omega) (by omega)
                  have t2' : 0 ≤ (xf.tmod many + many).tmod many ∧ (xf.tmod many + many).tmod many < many := ⟨Int.tmod_nonneg _ (by omega), Int.tmod_lt_of_pos _ (by omega)⟩
                  obtain ⟨fr, hfr⟩ := Int.eq_ofNat_of_zero_le t2'.1
                  have hfrm : fr < many := by omega
                  clear t1' t2'
                  have hwl : (P.take left).length = left := by simp; omega
                  have hgoal : ∀ g turned τ, Inv (P.take left) head fr (min 32 (many - fr)) (min 32 (many - fr)) (List.zipWith (· ^^^ ·) (P.take left) g) turned → g.length = P.length → (∀ c ∈ g, c < 256) → lk 5 τ = .ptr 0 0 → lk 7 τ = .ptr 1 0 → lk 10 τ = nilS → lk 12 τ = .lit (.int .i64 (totB M)) → lk 13 τ = .lit (.int .i64 (blksB M).length) → lk 14 τ = .ptr 6 0 → lk 17 τ = .own 8 (joined [] (allR M2)).length 3 0 (joined [] (allR M2)).length → lk 19 τ = .own 9 (blksB M2).length 1 0 (blksB M2).length → lk 21 τ = .own 10 g.length 1 0 g.length → lk 22 τ = .lit (.bool turned) →
                      finK 0 [.tmp 6] (run E 0 recK τ [.box [.lit (.int .i64 left), .lit (.int .i64 xf), .lit (.int .u32 xb)], .box [.ptr 2 0, .own 4 (joined [] (allR M2)).length 3 0 (joined [] (allR M2)).length, .own 5 M2.length 2 0 M2.length, nilS], fileB (.own 3 (blksB M2).length 1 0 (blksB M2).length) (blksB M2).length 100000 false, .arr true false false 1 ((blksB M2).map encB), .arr true true false 3 ((joined [] (allR M2)).map encRun), .arr true false false 2 ((endsGo 0 0 M2).map encEnd), fileB (.own 7 (blksB M2).length 1 0 (blksB M2).length) (blksB M).length 100000 false, .arr true false false 1 ((blksB M2).map encB), .arr true false false 3 ((joined [] (allR M2)).map encRun), .arr true true false 1 ((blksB M2).map encB), .arr true false false 1 (g.map encB)]) = some (.lit (.bool true), []) := by
                    intro g turned τ hI hgl hgb u5 u7 u10 u12 u13 u14 u17 u19 u21 u22
                    have hcs := hcs g hgb (by omega) left (by omega) (by omega)
                    rw [hkp left hlp g (by omega)] at hcs
                    have hzl := hI.len
                    rw [hwl] at hzl
                    by_cases hwh : left = P.length ∧ turned = false
                    · obtain ⟨hw1, rfl⟩ := hwh
                      have hsame := hI.same rfl
                      rw [hw1, List.take_length] at hsame
                      rw [hw1, List.take_length, hsame, ← e1] at hcs
                      have hbb2 : (blksB M).length + P.length = (blksB M2).length := by omega
                      rw [hbb2] at hcs
                      have hsc := hspt
                      have hKb := hb2
                      have hKt : (blksB M2).take (blksB M2).length = blksB M2 := List.take_length
                      obtain ⟨K, hK⟩ : ∃ K, K = blksB M2 := ⟨_, rfl⟩
                      have hsc' : scanB K = (M2, (blksB M2).length, totB M2) := by rw [hK]; exact hspt
                      clear hsc
                      have hsc := hsc'
                      have hKt' : K.take (blksB M2).length = blksB M2 := by rw [hK]; exact hKt
                      clear hKt
                      have hKt := hKt'
                      have hKb : ∀ c ∈ K, c < 256 := by rw [hK]; exact hb2
                      have hKl : K.length = (blksB M).length + left := by rw [hK]; omega
                      have hgC := gopenC true K hKb (by omega) (blksB M).length 100000
                      have hoC := fopenC true K (by omega) (blksB M).length 100000
                      have hgo := gopen K.isEmpty K hKb (by omega) K.length 100000
                      rw [hsc] at hgo
                      simp only [] at hgo
                      rw [show min K.length (blksB M2).length = (blksB M2).length from by omega, hKt] at hgo
                      have hKi : ¬ K = [] ∨ K.isEmpty = true := by cases K <;> simp
                      have hqR := gruns true true false false M2 [] (fun h => nomatch h) (by by_cases q : M2 = []; rw [q]; simp [allR, joined]; omega) (fun q => k3) (blksB M2).length 100000 false
                      have hqT := gticks true true true false M2 [] (fun h => nomatch h) (by omega) (by simp) rfl htM2 (blksB M2).length 100000 false
                      have hqS := sureG true true true true M2 [] (fun h => nomatch h) (by omega) (blksB M2).length 100000 false
                      rw [sureOf_all] at hqS
                      have hqL := flen true true (blksB M2) (fun h => nomatch h) (blksB M2).length 100000 false
                      have Sm := same_spec (joined [] (allR M2)) (joined [] (allR M2)) (by omega) false false false false
                      rw [decide_eq_true rfl] at Sm
                      rw [show ((K.length : Int) - ((blksB M2).length : Int)) = 0 from by rw [hK]; omega] at hgo
                      rw [hK] at hgC hoC hgo
                      clear hsh htu hkp hst hspt hsc hKb hKt hKt' hsc' hKi hwl hI hsame hzl hfr wA wB wC
                      simp only [lG, lS, fH1, fH2, fF, fB, hM2n, hJn, if_true, if_false, Bool.true_eq_false, reduceIte, reduceCtorEq] at hR2 hT2 hB hOB S13 hOA hFl2 hcs hgC hoC hgo hqR hqT hqS hqL Sm
                      generalize joined [] (allR M2) = J2 at *
                      generalize blksB M2 = b2 at *
                      generalize totB M2 = T2 at *
                      generalize endsGo 0 0 M2 = es2 at *
                      generalize M2.length = nM2 at *
                      simp [lG, lS, fH1, fH2, fF, fB, fileB, nilS, endE, encEnd, hMn, show totB [] = 0 from rfl, show blksB [] = [] from rfl, show sumN [] = 0 from rfl, show allR [] = [] from rfl, show joined [] [] = [] from rfl, hM2n, hie2, hJn, hbn2, hgl] at hFl hR hT hT1 hLn hO hA hR2 hT2 hB hOB S13 hOA hFl2 hcs hgC hoC hgo hqR hqT hqS hqL Sm hct hcd u10 u17 u19 u21 ⊢
                      simp [go_sem, u5, u7, u10, u12, u13, u14, u17, u19, u21, u22, purse_eq, List.range_succ, hT2, hcs, hgC, hoC, hgo, hqR, hqT, hqS, hqL, Sm, w1', hw1, hgl, awake17, lG, lS, fH1, fH2, fF, fB, fileB, nilS, endE, encEnd, hMn, show totB [] = 0 from rfl, show blksB [] = [] from rfl, show sumN [] = 0 from rfl, show allR [] = [] from rfl, show joined [] [] = [] from rfl, hM2n, hie2, hJn, hbn2, recK]
                    · have hbad : (getB (List.zipWith (· ^^^ ·) (P.take left) g)).2.2 ≠ 0 := by
                        by_cases hlt : left < P.length
                        · exact hsh _ (by omega) (by rw [hzl]; exact hI.front)
                        · have hle4 : left = P.length := by omega
                          have htt : turned = true := by cases turned with | true => rfl | false => exact absurd ⟨hle4, rfl⟩ hwh
                          have hPP : P.take left = P := by rw [hle4, List.take_length]
                          rw [htt] at hI
                          rw [hPP] at hI ⊢
                          rw [htu _ fr _ (by omega) hI (by omega)]
                          simp
                      have hsc := hst _ hbad
                      have hKb : ∀ c ∈ blksB M ++ List.zipWith (· ^^^ ·) (P.take left) g, c < 256 := fun c hc => by rcases List.mem_append.1 hc with h | h; exact hbb c h; exact hI.byte c h
                      have hKt : (blksB M ++ List.zipWith (· ^^^ ·) (P.take left) g).take (blksB M).length = blksB M := List.take_left
                      obtain ⟨K, hK⟩ : ∃ K, K = blksB M ++ List.zipWith (· ^^^ ·) (P.take left) g := ⟨_, rfl⟩
                      rw [← hK] at hcs hsc hKb hKt
                      have hKl : K.length = (blksB M).length + left := by rw [hK, List.length_append, hzl]
                      have hgC := gopenC true K hKb (by omega) (blksB M).length 100000
                      have hoC := fopenC true K (by omega) (blksB M).length 100000
                      have hgo := gopen K.isEmpty K hKb (by omega) K.length 100000
                      rw [hsc] at hgo
                      simp only [] at hgo
                      rw [show min K.length (blksB M).length = (blksB M).length from by omega, hKt] at hgo
                      have hKi : ¬ K = [] ∨ K.isEmpty = true := by cases K <;> simp
                      have hqR := gruns true true false false M [] (fun h => nomatch h) (by by_cases q : M = []; rw [q]; simp [allR, joined]; have := (hgM q).2.1; omega) (fun q => (hgM q).2.2.1) (blksB M).length 100000 false
                      have hqT := gticks true true true false M [] (fun h => nomatch h) (by omega) (by simp) rfl htM (blksB M).length 100000 false
                      have hqS := sureG true true true true M [] (fun h => nomatch h) (by omega) (blksB M).length 100000 false
                      rw [sureOf_all] at hqS
                      have hqL := flen true true (blksB M) (fun h => nomatch h) (blksB M).length 100000 false
                      have Sm := same_spec (joined [] (allR M)) (joined [] (allR M)) (by rw [hMn]; simp [allR, joined]) true true true true
                      rw [decide_eq_true rfl] at Sm
                      rw [show ((K.length : Int) - ((blksB M).length : Int)) = left from by omega] at hgo
                      have hlw : ¬ (left = P.length ∧ turned = false) := hwh
                      have hlw2 : left = P.length → turned = true := fun h => by cases turned with | true => rfl | false => exact absurd ⟨h, rfl⟩ hwh
                      simp only [← hKl] at hcs
                      clear hsh htu hkp hst hspt hbad hwl hKt hsc hKb hKi hI hzl hfr wA wB wC
                      simp only [lG, lS, fH1, fH2, fF, fB, hM2n, hJn, if_true, if_false, Bool.true_eq_false, reduceIte, reduceCtorEq] at hR2 hT2 hB hOB S13 hOA hFl2 hcs hgC hoC hgo hqR hqT hqS hqL Sm
                      generalize joined [] (allR M2) = J2 at *
                      generalize blksB M2 = b2 at *
                      generalize totB M2 = T2 at *
                      generalize endsGo 0 0 M2 = es2 at *
                      generalize M2.length = nM2 at *
                      simp [lG, lS, fH1, fH2, fF, fB, fileB, nilS, endE, encEnd, hMn, show totB [] = 0 from rfl, show blksB [] = [] from rfl, show sumN [] = 0 from rfl, show allR [] = [] from rfl, show joined [] [] = [] from rfl, hM2n, hie2, hJn, hbn2, hgl] at hFl hR hT hT1 hLn hO hA hR2 hT2 hB hOB S13 hOA hFl2 hcs hgC hoC hgo hqR hqT hqS hqL Sm hct hcd u10 u17 u19 u21 ⊢
                      by_cases hlq : left = P.length
                      · subst hlq
                        have htt := hlw2 rfl
                        subst htt
                        simp [go_sem, u5, u7, u10, u12, u13, u14, u17, u19, u21, u22, purse_eq, List.range_succ, hT2, hcs, hgC, hoC, hgo, hqR, hqT, hqS, hqL, Sm, w1', hgl, awake17, lG, lS, fH1, fH2, fF, fB, fileB, nilS, endE, encEnd, hMn, show totB [] = 0 from rfl, show blksB [] = [] from rfl, show sumN [] = 0 from rfl, show allR [] = [] from rfl, show joined [] [] = [] from rfl, hM2n, hie2, hJn, hbn2, recK]
                      · have hlqi : ¬ (left : Int) = (P.length : Int) := by omega
                        simp [go_sem, u5, u7, u10, u12, u13, u14, u17, u19, u21, u22, purse_eq, List.range_succ, hT2, hcs, hgC, hoC, hgo, hqR, hqT, hqS, hqL, Sm, w1', hlqi, hgl, awake17, lG, lS, fH1, fH2, fF, fB, fileB, nilS, endE, encEnd, hMn, show totB [] = 0 from rfl, show blksB [] = [] from rfl, show sumN [] = 0 from rfl, show allR [] = [] from rfl, show joined [] [] = [] from rfl, hM2n, hie2, hJn, hbn2, recK]
                  clear hcs hsh htu hkp hst hspt
                  simp only [lG, lS, fH1, fH2, fF, fB, hM2n, hJn, if_true, if_false, Bool.true_eq_false, reduceIte, reduceCtorEq] at hR2 hT2 hB hOB S13 hOA hFl2 hgoal
                  generalize joined [] (allR M2) = J2 at *
                  generalize blksB M2 = b2 at *
                  generalize totB M2 = T2 at *
                  generalize endsGo 0 0 M2 = es2 at *
                  generalize M2.length = nM2 at *
                  simp only [hMn, show totB [] = 0 from rfl, show (blksB []).length = 0 from rfl] at hgoal
                  simp [lG, lS, fH1, fH2, fF, fB, fileB, nilS, endE, encEnd, hMn, show totB [] = 0 from rfl, show blksB [] = [] from rfl, show sumN [] = 0 from rfl, show allR [] = [] from rfl, show joined [] [] = [] from rfl, hM2n, hie2, hJn, hbn2] at hFl hR hT hT1 hLn hO hA hR2 hT2 hB hOB S13 hOA hFl2 hct hcd ⊢
                  rcases hcase with ⟨h127, rfl⟩ | ⟨h127, rfl⟩
                  · have h127i : (127 : Int) < (c : Int) := by omega
                    have hlh2 : ((2 : Int) < left) := by omega
                    simp at wA wB
                    simp [go_sem, t1, t5, t7, t8, purse_eq, List.range_succ, hFl, hR, hT, hT1, hLn, hO, hA, hR2, hT2, hB, hOB, S13, hOA, hFl2, hct, hcd, hle, hle2, hle3, w1', hr2, hx0, hx1, hx1n, hbg, encB, h127, hlh1, hlh2, hz1, hz2, h127i, wA, wB, wC, hm0, hm0', hfr, lG, lS, fH1, fH2, fF, fB, fileB, nilS, endE, encEnd, hMn, show totB [] = 0 from rfl, show blksB [] = [] from rfl, show sumN [] = 0 from rfl, show allR [] = [] from rfl, show joined [] [] = [] from rfl, hM2n, hie2, hJn, hbn2]
                    rw [run_inLoop']
                    simp [go_sem, t5, t7, purse_eq, List.range_succ]
                    (try rw [hfr])
                    exact rec_loopA0 (P.take left) (by omega) _ _ xb hxb _ _ _ _ _ _ _ _ _ _ _ _ _ _ _ _ _ _ _ _ _ _ _ _ _ _ _ _ P.length 2 many fr (by omega) (fun c hc => hPb c (List.mem_of_mem_take hc)) (by omega) hfrm (by omega) _ _ hgoal
                  · have h127i : ¬ (127 : Int) < (c : Int) := by omega
                    have hlh2 : ((1 : Int) < left) := by omega
                    simp at wA wB
                    simp [go_sem, t1, t5, t7, t8, purse_eq, List.range_succ, hFl, hR, hT, hT1, hLn, hO, hA, hR2, hT2, hB, hOB, S13, hOA, hFl2, hct, hcd, hle, hle2, hle3, w1', hr2, hx0, hx1, hx1n, hbg, encB, h127, hlh1, hlh2, hz1, hz2, h127i, wA, wB, wC, hm0, hm0', hfr, lG, lS, fH1, fH2, fF, fB, fileB, nilS, endE, encEnd, hMn, show totB [] = 0 from rfl, show blksB [] = [] from rfl, show sumN [] = 0 from rfl, show allR [] = [] from rfl, show joined [] [] = [] from rfl, hM2n, hie2, hJn, hbn2]
                    rw [run_inLoop']
                    simp [go_sem, t5, t7, purse_eq, List.range_succ]
                    (try rw [hfr])
                    exact rec_loopA0 (P.take left) (by omega) _ _ xb hxb _ _ _ _ _ _ _ _ _ _ _ _ _ _ _ _ _ _ _ _ _ _ _ _ _ _ _ _ P.length 1 many fr (by omega) (fun c hc => hPb c (List.mem_of_mem_take hc)) (by omega) hfrm (by omega) _ _ hgoal
            · have ha : appE M [] la = chk la := by unfold appE; rw [if_pos hcl]
              rw [if_neg hcl] at hCk
              rw [ha] at hA
              simp only [hcl, ne_eq, not_false_eq_true, if_true] at hA hCk
              simp [lG, lS, fH1, fH2, fF, fB, fileB, nilS, endE, encEnd, hMn, show totB [] = 0 from rfl, show blksB [] = [] from rfl, show sumN [] = 0 from rfl, show allR [] = [] from rfl, show joined [] [] = [] from rfl] at hFl hR hT hT1 hLn hO hA hCk ⊢
              simp [go_sem, t1, t5, t7, t8, purse_eq, List.range_succ, hFl, hR, hT, hT1, hLn, hO, hA, hCk, hcl, awake17, lG, lS, fH1, fH2, fF, fB, fileB, nilS, endE, encEnd, hMn, show totB [] = 0 from rfl, show blksB [] = [] from rfl, show sumN [] = 0 from rfl, show allR [] = [] from rfl, show joined [] [] = [] from rfl]
          · have hc := v1.chkB (by omega) hW
            have hfull := v0.room (by omega) hW
            have hFl := gflush false false false lq [] W (fun _ => rfl) hW hc v1.jo v1.dr ht hg (by simp [blksB]) 0 100000 (by omega) false
            simp only [Bool.false_eq_true, if_false, hfull] at hFl
            rw [flH_1 _ W v1.jo] at hFl
            have vM0 := v0.flush (by omega) hW
            obtain ⟨M, hM0⟩ : ∃ M : List Bk, M = [] ++ [(totB [], W)] := ⟨_, rfl⟩
            rw [← hM0] at hFl vM0
            have vM : RInv (i + 1) M [] := ⟨A, vM0⟩
            have hMn : ¬ M = [] := by rw [hM0]; simp
            obtain ⟨A2, w0⟩ := vM
            have w1 := w0.fi
            have hgM := acc_facts w1.good (by have := w1.bs; omega)
            have htM := w1.tot
            have hbM := w1.bs
            have hlM := good_len M 0 w1.good
            obtain ⟨g1, g2, g3, g4⟩ := hgM hMn
            have hbn : blksB M ≠ [] := by
              intro q
              rw [q] at hlM
              have := List.length_pos_iff.2 hMn
              simp at *; omega
            have hie : (blksB M).isEmpty = false := by simpa using hbn
            have hfoM : true = false → M = [] := fun h => nomatch h
            have hfbM : true = false → blksB M = [] := fun h => nomatch h
            have hR := gruns true false false lq M [] hfoM (by by_cases q : M = []; rw [q]; simp [allR, joined]; have := (hgM q).2.1; omega) (fun q => (hgM q).2.2.1) (blksB M).length 100000 false
            have hT := gticks true false true lq M [] hfoM (by omega) (by simp) rfl htM (blksB M).length 100000 false
            have hT1 := gticks true false true true M [] hfoM (by omega) (by simp) rfl htM (blksB M).length 100000 false
            have hLn := flen true false (blksB M) hfbM (blksB M).length 100000 false
            have hO := fopen1 false (blksB M) (by omega) (blksB M).length 100000
            have hA := gappend true false true true M [] la hfoM (by omega) (by simp) rfl htM (by omega) hlok (blksB M).length 100000 false nm fm
            simp only [Bool.false_eq_true, if_false, List.nil_append, if_true] at hA
            by_cases hcl : chk la = 0
            · obtain ⟨ha, hcB, ⟨A3, y0⟩, f1, hJn, hJl, hroom⟩ := app_facts ⟨A2, w0⟩ (by omega) hl0 hla12 hlan hla hcl
              rw [ha] at hA
              simp only [hcl, ne_eq, not_true_eq_false, if_false] at hA
              generalize hW2 : joined [] la = W2 at *
              clear hW2
              have hm16 := few_bytes (x := (totB M, W2)) hcB hJl
              have hhl := headN_le (x := (totB M, W2)) hcB hm16
              obtain ⟨c, rest, hPc, hhd⟩ := first_byte (x := (totB M, W2)) hm16
              have hFl2 := gflush true false true false M W2 hfoM hJn hcB f1.jo f1.dr htM hgM (by omega) (blksB M).length 100000 (by omega) false
              simp only [Bool.false_eq_true, if_false, hroom] at hFl2
              rw [flH_2 _ M hMn] at hFl2
              generalize (joined [] (allR M) ++ W2).map encRun = G3 at hFl2
              have hG4 : True := trivial
              have e1 : blksB (M ++ [(totB M, W2)]) = blksB M ++ putBk (totB M, W2) := by rw [blksB_append]; simp [blksB]
              have hsh := fun (w : List Nat) => short_get (x := (totB M, W2)) hcB hm16 (w := w)
              have hPb : ∀ c ∈ putBk (totB M, W2), c < 256 := fun c hc => good_byte _ 0 y0.fi.good c (by rw [e1]; simp [hc])
              have htu := fun (w : List Nat) fr t ht hI hle => turned_get (P := putBk (totB M, W2)) (w := w) rfl hcB hPb (fr := fr) (t := t) ht hI hle
              rw [show (putN (bytesN (numsN (totB M) W2)).length).length = headN (totB M, W2) from rfl] at htu
              have hkp := fun left h g hg => kept_eq M (putBk (totB M, W2)) left h g hg
              have hst := fun (w : List Nat) hw => scanB_tail w1.good (w := w) hw
              obtain ⟨M2, hM2⟩ : ∃ M2, M2 = M ++ [(totB M, W2)] := ⟨_, rfl⟩
              rw [← hM2] at e1 y0 hFl2
              have hM2n : ¬ M2 = [] := by rw [hM2]; simp
              have hspt := scanB_put y0.fi.good
              have hgM2 := acc_facts y0.fi.good (by have := y0.fi.bs; omega)
              have hbM2 := y0.fi.bs
              have hlM2 := good_len M2 0 y0.fi.good
              have htM2 := y0.fi.tot
              obtain ⟨k1, k2, k3, k4⟩ := hgM2 hM2n
              have hb2 := good_byte M2 0 y0.fi.good
              have hbb := good_byte M 0 w1.good
              generalize headN (totB M, W2) = head at *
              generalize hPP : putBk (totB M, W2) = P at *
              clear hPP hroom hcB
              have hbn2 : blksB M2 ≠ [] := by rw [e1, hPc]; simp
              have hie2 : (blksB M2).isEmpty = false := by simpa using hbn2
              have hPl : 0 < P.length := by rw [hPc]; simp
              have hPne : P ≠ [] := by rw [hPc]; simp
              have hbl : (blksB M2).length = (blksB M).length + P.length := by rw [e1]; simp
              have hR2 := gruns true false false false M2 [] (fun h => nomatch h) (by omega) (fun _ => k3) (blksB M2).length 100000 false
              have hT2 := gticks true false true false M2 [] (fun h => nomatch h) (by omega) (by simp) rfl htM2 (blksB M2).length 100000 false
              have hB := fbytes true false (blksB M2) (by omega) (blksB M2).length 100000 false
              have hOB := fbytes true false (blksB M) (by omega) (blksB M).length 100000 false
              have S13 := same13_spec (blksB M) (blksB M) (by omega) false false false false
              rw [decide_eq_true rfl] at S13
              have hOA := fappend true false (blksB M) hfbM (blksB M).length 100000 (by omega) false P hPne (by omega) false
              rw [if_neg (by simp), if_neg (by omega), ← e1] at hOA
              have htk : List.take (blksB M).length ((blksB M2).map encB) = (blksB M).map encB := by rw [e1, List.map_append, ← List.length_map (f := encB), List.take_left]
              have hdk : List.drop (blksB M).length ((blksB M2).map encB) = P.map encB := by rw [e1, List.map_append, ← List.length_map (f := encB), List.drop_left]
              have hct : cutE ((blksB M2).map encB) 0 (blksB M).length = (blksB M).map encB := by unfold cutE; simp only [Nat.zero_add, List.drop_zero]; exact htk
              have hcd : cutE ((blksB M2).map encB) (blksB M).length ((blksB M2).length - (blksB M).length) = P.map encB := by unfold cutE; rw [Nat.add_sub_cancel' (by omega), List.take_of_length_le (by simp)]; exact hdk
              have hb0 : (blksB M2)[(blksB M).length]? = some c := by rw [e1, hPc, List.getElem?_append_right (by omega)]; simp
              have w1' : IntKind.wrap .i64 (((blksB M2).length : Int) - ((blksB M).length : Int)) = (P.length : Int) := by rw [wrap64 (by omega) (by omega)]; omega
              have hle : ¬ (blksB M2).length ≤ (blksB M).length := by omega
              have hle2 : (blksB M).length ≤ (blksB M2).length := by omega
              have hle3 : (blksB M).length < (blksB M2).length := by omega
              have hr2 := rowsB (blksB M2)
              have hcat : ¬ ((totB M : Int) = totB M → False) := by simp
              have hcr := fun left h => crash_range false (blksB M2) (by omega) (blksB M).length (by omega) 100000 left h true true
              have hcs := fun g hg hgl left h1 h2 => crash_spec false (blksB M2) hb2 (by omega) (blksB M).length 100000 g hg hgl left h1 h2 false false
              have hpl10 : P.length ≤ 100000 := by omega
              have hz1 : ¬ (70368744177664 < P.length) := by omega
              have hz2 : (P.length : Int) ≤ 70368744177664 := by omega
              have hz : List.replicate P.length [AVal.lit (.int .u8 0)] = (List.replicate P.length 0).map encB := by simp [encB]
              have hbg : ∀ h : (blksB M).length < (blksB M2).length, (blksB M2)[(blksB M).length]'h = c := fun h => Option.some.inj ((List.getElem?_eq_getElem h).symm.trans hb0)
              rw [← e1] at hkp
              by_cases hrg : xl < 0 ∨ (P.length : Int) < xl
              · have hcr := hcr xl (by omega)
                clear hsh htu hkp hst hspt hcs
                simp only [lG, lS, fH1, fH2, fF, fB, hMn, hM2n, hJn, hW, if_true, if_false, Bool.true_eq_false, reduceIte, reduceCtorEq] at hFl hR hT hT1 hLn hO hA hR2 hT2 hB hOB S13 hOA hFl2 hcr ⊢
                generalize joined [] (allR M2) = J2 at *
                generalize blksB M2 = b2 at *
                generalize totB M2 = T2 at *
                generalize endsGo 0 0 M2 = es2 at *
                generalize M2.length = nM2 at *
                generalize joined [] (allR M) = J at *
                generalize blksB M = bs at *
                generalize totB M = T at *
                generalize endsGo 0 0 M = es at *
                generalize M.length = nM at *
                simp [lG, lS, fH1, fH2, fF, fB, fileB, nilS, endE, encEnd, hW, hMn, hie, show totB [] = 0 from rfl, show blksB [] = [] from rfl, show sumN [] = 0 from rfl, show allR [] = [] from rfl, show joined [] [] = [] from rfl, hM2n, hie2, hJn, hbn2] at hFl hR hT hT1 hLn hO hA hR2 hT2 hB hOB S13 hOA hFl2 hcr hct hcd ⊢
                by_cases hx0 : xl < 0
                · simp [go_sem, t1, t5, t7, t8, purse_eq, List.range_succ, hFl, hR, hT, hT1, hLn, hO, hA, hR2, hT2, hB, hOB, S13, hOA, hFl2, hcr, hct, hcd, hle, hle2, hle3, w1', hr2, hx0, awake17, lG, lS, fH1, fH2, fF, fB, fileB, nilS, endE, encEnd, hW, hMn, hie, show totB [] = 0 from rfl, show blksB [] = [] from rfl, show sumN [] = 0 from rfl, show allR [] = [] from rfl, show joined [] [] = [] from rfl, hM2n, hie2, hJn, hbn2]
                · have hx1 : (P.length : Int) < xl := by omega
                  simp [go_sem, t1, t5, t7, t8, purse_eq, List.range_succ, hFl, hR, hT, hT1, hLn, hO, hA, hR2, hT2, hB, hOB, S13, hOA, hFl2, hcr, hct, hcd, hle, hle2, hle3, w1', hr2, hx0, hx1, awake17, lG, lS, fH1, fH2, fF, fB, fileB, nilS, endE, encEnd, hW, hMn, hie, show totB [] = 0 from rfl, show blksB [] = [] from rfl, show sumN [] = 0 from rfl, show allR [] = [] from rfl, show joined [] [] = [] from rfl, hM2n, hie2, hJn, hbn2]
              · have hx0 : ¬ xl < 0 := by omega
                have hx1 : ¬ (P.length : Int) < xl := by omega
                obtain ⟨left, rfl⟩ := Int.eq_ofNat_of_zero_le (show 0 ≤ xl by omega)
                have hlp : left ≤ P.length := by omega
                have hx1n : ¬ P.length < left := by omega
                clear hcr hrg
                have hcase : (127 < c ∧ head = 2) ∨ (¬ 127 < c ∧ head = 1) := by by_cases h : 127 < c <;> simp [h] at hhd ⊢ <;> exact hhd
                clear hhd
                by_cases hlh : left ≤ head
                · have hzb : ∀ c ∈ List.replicate P.length 0, c < 256 := fun c hc => by have := List.eq_of_mem_replicate hc; omega
                  have hcs := hcs (List.replicate P.length 0) hzb (by simp; omega) left (by simp; omega) (by omega)
                  rw [hkp left hlp (List.replicate P.length 0) (by simp), zip_zero _ _ (by simp; omega)] at hcs
                  have hwl : (P.take left).length = left := by simp; omega
                  have hbad := hsh (P.take left) (by omega) (by rw [hwl])
                  have hsc := hst (P.take left) hbad
                  have hKb : ∀ c ∈ blksB M ++ P.take left, c < 256 := fun c hc => by rcases List.mem_append.1 hc with h | h; exact hbb c h; exact hPb c (List.mem_of_mem_take h)
                  have hKt : (blksB M ++ P.take left).take (blksB M).length = blksB M := List.take_left
                  obtain ⟨K, hK⟩ : ∃ K, K = blksB M ++ P.take left := ⟨_, rfl⟩
                  rw [← hK] at hcs hsc hKb hKt
                  have hKl : K.length = (blksB M).length + left := by rw [hK]; simp; omega
                  have hgC := gopenC true K hKb (by omega) (blksB M).length 100000
                  have hoC := fopenC true K (by omega) (blksB M).length 100000
                  have hgo := gopen K.isEmpty K hKb (by omega) K.length 100000
                  rw [hsc] at hgo
                  simp only [] at hgo
                  rw [show min K.length (blksB M).length = (blksB M).length from by omega, hKt] at hgo
                  have hKi : ¬ K = [] ∨ K.isEmpty = true := by cases K <;> simp
                  have hqR := gruns true true false false M [] (fun h => nomatch h) (by by_cases q : M = []; rw [q]; simp [allR, joined]; omega) (fun q => g3) (blksB M).length 100000 false
                  have hqT := gticks true true true false M [] (fun h => nomatch h) (by omega) (by simp) rfl htM (blksB M).length 100000 false
                  have hqS := sureG true true true true M [] (fun h => nomatch h) (by omega) (blksB M).length 100000 false
                  rw [sureOf_all] at hqS
                  have hqL := flen true true (blksB M) (fun h => nomatch h) (blksB M).length 100000 false
                  have Sm := same_spec (joined [] (allR M)) (joined [] (allR M)) (by omega) false false false false
                  rw [decide_eq_true rfl] at Sm
                  rw [show ((K.length : Int) - ((blksB M).length : Int)) = left from by omega] at hgo
                  have hKe : ∀ b, ([Entry.arr true false b 1 (K.map encB)] : Heap) = [.arr true false b 1 (K.map encB)] := fun _ => rfl
                  have hlw : ¬ left = P.length := by omega
                  have hlwi : ¬ (left : Int) = (P.length : Int) := by omega
                  clear hsh htu hkp hst hspt hbad hwl hK hKt hsc hKb hKe hKi
                  simp only [← hKl] at hcs
                  simp only [lG, lS, fH1, fH2, fF, fB, hMn, hM2n, hJn, hW, if_true, if_false, Bool.true_eq_false, reduceIte, reduceCtorEq] at hFl hR hT hT1 hLn hO hA hR2 hT2 hB hOB S13 hOA hFl2 hcs hgC hoC hgo hqR hqT hqS hqL Sm ⊢
                  generalize joined [] (allR M2) = J2 at *
                  generalize blksB M2 = b2 at *
                  generalize totB M2 = T2 at *
                  generalize endsGo 0 0 M2 = es2 at *
                  generalize M2.length = nM2 at *
                  generalize joined [] (allR M) = J at *
                  generalize blksB M = bs at *
                  generalize totB M = T at *
                  generalize endsGo 0 0 M = es at *
                  generalize M.length = nM at *
                  simp [lG, lS, fH1, fH2, fF, fB, fileB, nilS, endE, encEnd, hW, hMn, hie, show totB [] = 0 from rfl, show blksB [] = [] from rfl, show sumN [] = 0 from rfl, show allR [] = [] from rfl, show joined [] [] = [] from rfl, hM2n, hie2, hJn, hbn2] at hFl hR hT hT1 hLn hO hA hR2 hT2 hB hOB S13 hOA hFl2 hcs hgC hoC hgo hqR hqT hqS hqL Sm hct hcd ⊢
                  simp [encB] at hcs
                  rcases hcase with ⟨h127, rfl⟩ | ⟨h127, rfl⟩
                  · have h127i : (127 : Int) < (c : Int) := by omega
                    have hlh1 : ¬ 2 < left := by omega
                    have hlh2 : ¬ ((2 : Int) < left) := by omega
                    simp [go_sem, t1, t5, t7, t8, purse_eq, List.range_succ, hFl, hR, hT, hT1, hLn, hO, hA, hR2, hT2, hB, hOB, S13, hOA, hFl2, hcs, hgC, hoC, hgo, hqR, hqT, hqS, hqL, Sm, hct, hcd, hle, hle2, hle3, w1', hr2, hx0, hx1, hx1n, hbg, encB, h127, hlh1, hlh2, hz1, hz2, h127i, hlw, hlwi, awake17, lG, lS, fH1, fH2, fF, fB, fileB, nilS, endE, encEnd, hW, hMn, hie, show totB [] = 0 from rfl, show blksB [] = [] from rfl, show sumN [] = 0 from rfl, show allR [] = [] from rfl, show joined [] [] = [] from rfl, hM2n, hie2, hJn, hbn2]
                  · have h127i : ¬ (127 : Int) < (c : Int) := by omega
                    have hlh1 : ¬ 1 < left := by omega
                    have hlh2 : ¬ ((1 : Int) < left) := by omega
                    simp [go_sem, t1, t5, t7, t8, purse_eq, List.range_succ, hFl, hR, hT, hT1, hLn, hO, hA, hR2, hT2, hB, hOB, S13, hOA, hFl2, hcs, hgC, hoC, hgo, hqR, hqT, hqS, hqL, Sm, hct, hcd, hle, hle2, hle3, w1', hr2, hx0, hx1, hx1n, hbg, encB, h127, hlh1, hlh2, hz1, hz2, h127i, hlw, hlwi, awake17, lG, lS, fH1, fH2, fF, fB, fileB, nilS, endE, encEnd, hW, hMn, hie, show totB [] = 0 from rfl, show blksB [] = [] from rfl, show sumN [] = 0 from rfl, show allR [] = [] from rfl, show joined [] [] = [] from rfl, hM2n, hie2, hJn, hbn2]
                · have hlh1 : head < left := by omega
                  obtain ⟨many, hmany⟩ : ∃ many : Nat, many = 8 * (left - head) := ⟨_, rfl⟩
                  have hm0 : ¬ many = 0 := by omega
                  have hm0' : ¬ (many : Int) = 0 := by omega
                  have wA : IntKind.wrap .i64 ((left : Int) - (head : Int)) = (left : Int) - head := wrap64 (by omega) (by omega)
                  have wB : IntKind.wrap .i64 (8 * ((left : Int) - (head : Int))) = (many : Int) := by rw [wrap64 (by omega) (by omega)]; omega
                  have t1' : -(many : Int) < xf.tmod many ∧ xf.tmod many < many := ⟨by have := Int.lt_tmod_of_pos xf (show (0 : Int) < many by omega); omega, Int.tmod_lt_of_pos xf (by omega)⟩
                  have wC : IntKind.wrap .i64 (xf.tmod many + many) = xf.tmod many + many := wrap64 (by omega) (by omega)
                  have t2' : 0 ≤ (xf.tmod many + many).tmod many ∧ (xf.tmod many + many).tmod many < many := ⟨Int.tmod_nonneg _ (by omega), Int.tmod_lt_of_pos _ (by omega)⟩
                  obtain ⟨fr, hfr⟩ := Int.eq_ofNat_of_zero_le t2'.1
                  have hfrm : fr < many := by omega
                  clear t1' t2'
                  have hwl : (P.take left).length = left := by simp; omega
                  have hgoal : ∀ g turned τ, Inv (P.take left) head fr (min 32 (many - fr)) (min 32 (many - fr)) (List.zipWith (· ^^^ ·) (P.take left) g) turned → g.length = P.length → (∀ c ∈ g, c < 256) → lk 5 τ = .ptr 0 0 → lk 7 τ = .ptr 1 0 → lk 10 τ = .own 6 (joined [] (allR M)).length 3 0 (joined [] (allR M)).length → lk 12 τ = .lit (.int .i64 (totB M)) → lk 13 τ = .lit (.int .i64 (blksB M).length) → lk 14 τ = .ptr 7 0 → lk 17 τ = .own 9 (joined [] (allR M2)).length 3 0 (joined [] (allR M2)).length → lk 19 τ = .own 10 (blksB M2).length 1 0 (blksB M2).length → lk 21 τ = .own 11 g.length 1 0 g.length → lk 22 τ = .lit (.bool turned) →
                      finK 0 [.tmp 6] (run E 0 recK τ [.box [.lit (.int .i64 left), .lit (.int .i64 xf), .lit (.int .u32 xb)], .box [.ptr 2 0, .own 4 (joined [] (allR M2)).length 3 0 (joined [] (allR M2)).length, .own 5 M2.length 2 0 M2.length, nilS], fileB (.own 3 (blksB M2).length 1 0 (blksB M2).length) (blksB M2).length 100000 false, .arr true false false 1 ((blksB M2).map encB), .arr true true false 3 ((joined [] (allR M2)).map encRun), .arr true false false 2 ((endsGo 0 0 M2).map encEnd), .arr true false false 3 ((joined [] (allR M)).map encRun), fileB (.own 8 (blksB M2).length 1 0 (blksB M2).length) (blksB M).length 100000 false, .arr true false false 1 ((blksB M2).map encB), .arr true false false 3 ((joined [] (allR M2)).map encRun), .arr true true false 1 ((blksB M2).map encB), .arr true false false 1 (g.map encB)]) = some (.lit (.bool true), []) := by
                    intro g turned τ hI hgl hgb u5 u7 u10 u12 u13 u14 u17 u19 u21 u22
                    have hcs := hcs g hgb (by omega) left (by omega) (by omega)
                    rw [hkp left hlp g (by omega)] at hcs
                    have hzl := hI.len
                    rw [hwl] at hzl
                    by_cases hwh : left = P.length ∧ turned = false
                    · obtain ⟨hw1, rfl⟩ := hwh
                      have hsame := hI.same rfl
                      rw [hw1, List.take_length] at hsame
                      rw [hw1, List.take_length, hsame, ← e1] at hcs
                      have hbb2 : (blksB M).length + P.length = (blksB M2).length := by omega
                      rw [hbb2] at hcs
                      have hsc := hspt
                      have hKb := hb2
                      have hKt : (blksB M2).take (blksB M2).length = blksB M2 := List.take_length
                      obtain ⟨K, hK⟩ : ∃ K, K = blksB M2 := ⟨_, rfl⟩
                      have hsc' : scanB K = (M2, (blksB M2).length, totB M2) := by rw [hK]; exact hspt
                      clear hsc
                      have hsc := hsc'
                      have hKt' : K.take (blksB M2).length = blksB M2 := by rw [hK]; exact hKt
                      clear hKt
                      have hKt := hKt'
                      have hKb : ∀ c ∈ K, c < 256 := by rw [hK]; exact hb2
                      have hKl : K.length = (blksB M).length + left := by rw [hK]; omega
                      have hgC := gopenC true K hKb (by omega) (blksB M).length 100000
                      have hoC := fopenC true K (by omega) (blksB M).length 100000
                      have hgo := gopen K.isEmpty K hKb (by omega) K.length 100000
                      rw [hsc] at hgo
                      simp only [] at hgo
                      rw [show min K.length (blksB M2).length = (blksB M2).length from by omega, hKt] at hgo
                      have hKi : ¬ K = [] ∨ K.isEmpty = true := by cases K <;> simp
                      have hqR := gruns true true false false M2 [] (fun h => nomatch h) (by by_cases q : M2 = []; rw [q]; simp [allR, joined]; omega) (fun q => k3) (blksB M2).length 100000 false
                      have hqT := gticks true true true false M2 [] (fun h => nomatch h) (by omega) (by simp) rfl htM2 (blksB M2).length 100000 false
                      have hqS := sureG true true true true M2 [] (fun h => nomatch h) (by omega) (blksB M2).length 100000 false
                      rw [sureOf_all] at hqS
                      have hqL := flen true true (blksB M2) (fun h => nomatch h) (blksB M2).length 100000 false
                      have Sm := same_spec (joined [] (allR M2)) (joined [] (allR M2)) (by omega) false false false false
                      rw [decide_eq_true rfl] at Sm
                      rw [show ((K.length : Int) - ((blksB M2).length : Int)) = 0 from by rw [hK]; omega] at hgo
                      rw [hK] at hgC hoC hgo
                      clear hsh htu hkp hst hspt hsc hKb hKt hKt' hsc' hKi hwl hI hsame hzl hfr wA wB wC
                      simp only [lG, lS, fH1, fH2, fF, fB, hMn, hM2n, hJn, hW, if_true, if_false, Bool.true_eq_false, reduceIte, reduceCtorEq] at hFl hR hT hT1 hLn hO hA hR2 hT2 hB hOB S13 hOA hFl2 hcs hgC hoC hgo hqR hqT hqS hqL Sm ⊢
                      generalize joined [] (allR M2) = J2 at *
                      generalize blksB M2 = b2 at *
                      generalize totB M2 = T2 at *
                      generalize endsGo 0 0 M2 = es2 at *
                      generalize M2.length = nM2 at *
                      generalize joined [] (allR M) = J at *
                      generalize blksB M = bs at *
                      generalize totB M = T at *
                      generalize endsGo 0 0 M = es at *
                      generalize M.length = nM at *
                      simp [lG, lS, fH1, fH2, fF, fB, fileB, nilS, endE, encEnd, hW, hMn, hie, show totB [] = 0 from rfl, show blksB [] = [] from rfl, show sumN [] = 0 from rfl, show allR [] = [] from rfl, show joined [] [] = [] from rfl, hM2n, hie2, hJn, hbn2, hgl] at hFl hR hT hT1 hLn hO hA hR2 hT2 hB hOB S13 hOA hFl2 hcs hgC hoC hgo hqR hqT hqS hqL Sm hct hcd u10 u17 u19 u21 ⊢
                      simp [go_sem, u5, u7, u10, u12, u13, u14, u17, u19, u21, u22, purse_eq, List.range_succ, hT2, hcs, hgC, hoC, hgo, hqR, hqT, hqS, hqL, Sm, w1', hw1, hgl, awake17, lG, lS, fH1, fH2, fF, fB, fileB, nilS, endE, encEnd, hW, hMn, hie, show totB [] = 0 from rfl, show blksB [] = [] from rfl, show sumN [] = 0 from rfl, show allR [] = [] from rfl, show joined [] [] = [] from rfl, hM2n, hie2, hJn, hbn2, recK]
                    · have hbad : (getB (List.zipWith (· ^^^ ·) (P.take left) g)).2.2 ≠ 0 := by
                        by_cases hlt : left < P.length
                        · exact hsh _ (by omega) (by rw [hzl]; exact hI.front)
                        · have hle4 : left = P.length := by omega
                          have htt : turned = true := by cases turned with | true => rfl | false => exact absurd ⟨hle4, rfl⟩ hwh
                          have hPP : P.take left = P := by rw [hle4, List.take_length]
                          rw [htt] at hI
                          rw [hPP] at hI ⊢
                          rw [htu _ fr _ (by omega) hI (by omega)]
                          simp
                      have hsc := hst _ hbad
                      have hKb : ∀ c ∈ blksB M ++ List.zipWith (· ^^^ ·) (P.take left) g, c < 256 := fun c hc => by rcases List.mem_append.1 hc with h | h; exact hbb c h; exact hI.byte c h
                      have hKt : (blksB M ++ List.zipWith (· ^^^ ·) (P.take left) g).take (blksB M).length = blksB M := List.take_left
                      obtain ⟨K, hK⟩ : ∃ K, K = blksB M ++ List.zipWith (· ^^^ ·) (P.take left) g := ⟨_, rfl⟩
                      rw [← hK] at hcs hsc hKb hKt
                      have hKl : K.length = (blksB M).length + left := by rw [hK, List.length_append, hzl]
                      have hgC := gopenC true K hKb (by omega) (blksB M).length 100000
                      have hoC := fopenC true K (by omega) (blksB M).length 100000
                      have hgo := gopen K.isEmpty K hKb (by omega) K.length 100000
                      rw [hsc] at hgo
                      simp only [] at hgo
                      rw [show min K.length (blksB M).length = (blksB M).length from by omega, hKt] at hgo
                      have hKi : ¬ K = [] ∨ K.isEmpty = true := by cases K <;> simp
                      have hqR := gruns true true false false M [] (fun h => nomatch h) (by by_cases q : M = []; rw [q]; simp [allR, joined]; omega) (fun q => g3) (blksB M).length 100000 false
                      have hqT := gticks true true true false M [] (fun h => nomatch h) (by omega) (by simp) rfl htM (blksB M).length 100000 false
                      have hqS := sureG true true true true M [] (fun h => nomatch h) (by omega) (blksB M).length 100000 false
                      rw [sureOf_all] at hqS
                      have hqL := flen true true (blksB M) (fun h => nomatch h) (blksB M).length 100000 false
                      have Sm := same_spec (joined [] (allR M)) (joined [] (allR M)) (by omega) false false false false
                      rw [decide_eq_true rfl] at Sm
                      rw [show ((K.length : Int) - ((blksB M).length : Int)) = left from by omega] at hgo
                      have hlw : ¬ (left = P.length ∧ turned = false) := hwh
                      have hlw2 : left = P.length → turned = true := fun h => by cases turned with | true => rfl | false => exact absurd ⟨h, rfl⟩ hwh
                      simp only [← hKl] at hcs
                      clear hsh htu hkp hst hspt hbad hwl hKt hsc hKb hKi hI hzl hfr wA wB wC
                      simp only [lG, lS, fH1, fH2, fF, fB, hMn, hM2n, hJn, hW, if_true, if_false, Bool.true_eq_false, reduceIte, reduceCtorEq] at hFl hR hT hT1 hLn hO hA hR2 hT2 hB hOB S13 hOA hFl2 hcs hgC hoC hgo hqR hqT hqS hqL Sm ⊢
                      generalize joined [] (allR M2) = J2 at *
                      generalize blksB M2 = b2 at *
                      generalize totB M2 = T2 at *
                      generalize endsGo 0 0 M2 = es2 at *
                      generalize M2.length = nM2 at *
                      generalize joined [] (allR M) = J at *
                      generalize blksB M = bs at *
                      generalize totB M = T at *
                      generalize endsGo 0 0 M = es at *
                      generalize M.length = nM at *
                      simp [lG, lS, fH1, fH2, fF, fB, fileB, nilS, endE, encEnd, hW, hMn, hie, show totB [] = 0 from rfl, show blksB [] = [] from rfl, show sumN [] = 0 from rfl, show allR [] = [] from rfl, show joined [] [] = [] from rfl, hM2n, hie2, hJn, hbn2, hgl] at hFl hR hT hT1 hLn hO hA hR2 hT2 hB hOB S13 hOA hFl2 hcs hgC hoC hgo hqR hqT hqS hqL Sm hct hcd u10 u17 u19 u21 ⊢
                      by_cases hlq : left = P.length
                      · subst hlq
                        have htt := hlw2 rfl
                        subst htt
                        simp [go_sem, u5, u7, u10, u12, u13, u14, u17, u19, u21, u22, purse_eq, List.range_succ, hT2, hcs, hgC, hoC, hgo, hqR, hqT, hqS, hqL, Sm, w1', hgl, awake17, lG, lS, fH1, fH2, fF, fB, fileB, nilS, endE, encEnd, hW, hMn, hie, show totB [] = 0 from rfl, show blksB [] = [] from rfl, show sumN [] = 0 from rfl, show allR [] = [] from rfl, show joined [] [] = [] from rfl, hM2n, hie2, hJn, hbn2, recK]
                      · have hlqi : ¬ (left : Int) = (P.length : Int) := by omega
                        simp [go_sem, u5, u7, u10, u12, u13, u14, u17, u19, u21, u22, purse_eq, List.range_succ, hT2, hcs, hgC, hoC, hgo, hqR, hqT, hqS, hqL, Sm, w1', hlqi, hgl, awake17, lG, lS, fH1, fH2, fF, fB, fileB, nilS, endE, encEnd, hW, hMn, hie, show totB [] = 0 from rfl, show blksB [] = [] from rfl, show sumN [] = 0 from rfl, show allR [] = [] from rfl, show joined [] [] = [] from rfl, hM2n, hie2, hJn, hbn2, recK]
                  clear hcs hsh htu hkp hst hspt
                  simp only [lG, lS, fH1, fH2, fF, fB, hMn, hM2n, hJn, hW, if_true, if_false, Bool.true_eq_false, reduceIte, reduceCtorEq] at hFl hR hT hT1 hLn hO hA hR2 hT2 hB hOB S13 hOA hFl2 hgoal ⊢
                  generalize joined [] (allR M2) = J2 at *
                  generalize blksB M2 = b2 at *
                  generalize totB M2 = T2 at *
                  generalize endsGo 0 0 M2 = es2 at *
                  generalize M2.length = nM2 at *
                  generalize joined [] (allR M) = J at *
                  generalize blksB M = bs at *
                  generalize totB M = T at *
                  generalize endsGo 0 0 M = es at *
                  generalize M.length = nM at *
                  simp [lG, lS, fH1, fH2, fF, fB, fileB, nilS, endE, encEnd, hW, hMn, hie, show totB [] = 0 from rfl, show blksB [] = [] from rfl, show sumN [] = 0 from rfl, show allR [] = [] from rfl, show joined [] [] = [] from rfl, hM2n, hie2, hJn, hbn2] at hFl hR hT hT1 hLn hO hA hR2 hT2 hB hOB S13 hOA hFl2 hct hcd ⊢
                  rcases hcase with ⟨h127, rfl⟩ | ⟨h127, rfl⟩
                  · have h127i : (127 : Int) < (c : Int) := by omega
                    have hlh2 : ((2 : Int) < left) := by omega
                    simp at wA wB
                    simp [go_sem, t1, t5, t7, t8, purse_eq, List.range_succ, hFl, hR, hT, hT1, hLn, hO, hA, hR2, hT2, hB, hOB, S13, hOA, hFl2, hct, hcd, hle, hle2, hle3, w1', hr2, hx0, hx1, hx1n, hbg, encB, h127, hlh1, hlh2, hz1, hz2, h127i, wA, wB, wC, hm0, hm0', hfr, lG, lS, fH1, fH2, fF, fB, fileB, nilS, endE, encEnd, hW, hMn, hie, show totB [] = 0 from rfl, show blksB [] = [] from rfl, show sumN [] = 0 from rfl, show allR [] = [] from rfl, show joined [] [] = [] from rfl, hM2n, hie2, hJn, hbn2]
                    rw [run_inLoop']
                    simp [go_sem, t5, t7, purse_eq, List.range_succ]
                    (try rw [hfr])
                    exact rec_loopB0 (P.take left) (by omega) _ _ xb hxb _ _ _ _ _ _ _ _ _ _ _ _ _ _ _ _ _ _ _ _ _ _ _ _ _ _ _ _ _ _ _ _ P.length 2 many fr (by omega) (fun c hc => hPb c (List.mem_of_mem_take hc)) (by omega) hfrm (by omega) _ _ hgoal
                  · have h127i : ¬ (127 : Int) < (c : Int) := by omega
                    have hlh2 : ((1 : Int) < left) := by omega
                    simp at wA wB
                    simp [go_sem, t1, t5, t7, t8, purse_eq, List.range_succ, hFl, hR, hT, hT1, hLn, hO, hA, hR2, hT2, hB, hOB, S13, hOA, hFl2, hct, hcd, hle, hle2, hle3, w1', hr2, hx0, hx1, hx1n, hbg, encB, h127, hlh1, hlh2, hz1, hz2, h127i, wA, wB, wC, hm0, hm0', hfr, lG, lS, fH1, fH2, fF, fB, fileB, nilS, endE, encEnd, hW, hMn, hie, show totB [] = 0 from rfl, show blksB [] = [] from rfl, show sumN [] = 0 from rfl, show allR [] = [] from rfl, show joined [] [] = [] from rfl, hM2n, hie2, hJn, hbn2]
                    rw [run_inLoop']
                    simp [go_sem, t5, t7, purse_eq, List.range_succ]
                    (try rw [hfr])
                    exact rec_loopB0 (P.take left) (by omega) _ _ xb hxb _ _ _ _ _ _ _ _ _ _ _ _ _ _ _ _ _ _ _ _ _ _ _ _ _ _ _ _ _ _ _ _ P.length 1 many fr (by omega) (fun c hc => hPb c (List.mem_of_mem_take hc)) (by omega) hfrm (by omega) _ _ hgoal
            · have ha : appE M [] la = chk la := by unfold appE; rw [if_pos hcl]
              rw [if_neg hcl] at hCk
              rw [ha] at hA
              simp only [hcl, ne_eq, not_false_eq_true, if_true] at hA hCk
              simp only [lG, lS, fH1, fH2, fF, fB, hMn, hW, if_true, if_false, Bool.true_eq_false, reduceIte, reduceCtorEq] at hFl hR hT hT1 hLn hO hA ⊢
              generalize joined [] (allR M) = J at *
              generalize blksB M = bs at *
              generalize totB M = T at *
              generalize endsGo 0 0 M = es at *
              generalize M.length = nM at *
              simp [lG, lS, fH1, fH2, fF, fB, fileB, nilS, endE, encEnd, hW, hMn, hie, show totB [] = 0 from rfl, show blksB [] = [] from rfl, show sumN [] = 0 from rfl, show allR [] = [] from rfl, show joined [] [] = [] from rfl] at hFl hR hT hT1 hLn hO hA hCk ⊢
              simp [go_sem, t1, t5, t7, t8, purse_eq, List.range_succ, hFl, hR, hT, hT1, hLn, hO, hA, hCk, hcl, awake17, lG, lS, fH1, fH2, fF, fB, fileB, nilS, endE, encEnd, hW, hMn, hie, show totB [] = 0 from rfl, show blksB [] = [] from rfl, show sumN [] = 0 from rfl, show allR [] = [] from rfl, show joined [] [] = [] from rfl]
        · by_cases hW : W = []
          · subst hW
            have hFl := gflush0 true ff lw lq L (fun h => nomatch h) (blksB L).length 100000 false
            simp only [Bool.false_eq_true, if_false] at hFl
            obtain ⟨M, hM0⟩ : ∃ M : List Bk, M = L := ⟨_, rfl⟩
            have vM : RInv (i + 1) M [] := hM0 ▸ ⟨A, v0.succ⟩
            have hMn : ¬ M = [] := hM0 ▸ hL
            obtain ⟨A2, w0⟩ := vM
            have w1 := w0.fi
            have hgM := acc_facts w1.good (by have := w1.bs; omega)
            have htM := w1.tot
            have hbM := w1.bs
            have hlM := good_len M 0 w1.good
            obtain ⟨g1, g2, g3, g4⟩ := hgM hMn
            have hbn : blksB M ≠ [] := by
              intro q
              rw [q] at hlM
              have := List.length_pos_iff.2 hMn
              simp at *; omega
            have hie : (blksB M).isEmpty = false := by simpa using hbn
            have hfoM : true = false → M = [] := fun h => nomatch h
            have hfbM : true = false → blksB M = [] := fun h => nomatch h
            have hR := gruns true ff lw lq M [] hfoM (by by_cases q : M = []; rw [q]; simp [allR, joined]; have := (hgM q).2.1; omega) (fun q => (hgM q).2.2.1) (blksB M).length 100000 false
            have hT := gticks true ff true lq M [] hfoM (by omega) (by simp) rfl htM (blksB M).length 100000 false
            have hT1 := gticks true ff true true M [] hfoM (by omega) (by simp) rfl htM (blksB M).length 100000 false
            have hLn := flen true ff (blksB M) hfbM (blksB M).length 100000 false
            have hO := fopen1 ff (blksB M) (by omega) (blksB M).length 100000
            have hA := gappend true ff true true M [] la hfoM (by omega) (by simp) rfl htM (by omega) hlok (blksB M).length 100000 false nm fm
            simp only [Bool.false_eq_true, if_false, List.nil_append, if_true] at hA
            by_cases hcl : chk la = 0
            · subst hM0
              obtain ⟨ha, hcB, ⟨A3, y0⟩, f1, hJn, hJl, hroom⟩ := app_facts ⟨A2, w0⟩ (by omega) hl0 hla12 hlan hla hcl
              rw [ha] at hA
              simp only [hcl, ne_eq, not_true_eq_false, if_false] at hA
              generalize hW2 : joined [] la = W2 at *
              clear hW2
              have hm16 := few_bytes (x := (totB M, W2)) hcB hJl
              have hhl := headN_le (x := (totB M, W2)) hcB hm16
              obtain ⟨c, rest, hPc, hhd⟩ := first_byte (x := (totB M, W2)) hm16
              have hFl2 := gflush true ff true false M W2 hfoM hJn hcB f1.jo f1.dr htM hgM (by omega) (blksB M).length 100000 (by omega) false
              simp only [Bool.false_eq_true, if_false, hroom] at hFl2
              rw [flH_2 _ M hMn] at hFl2
              generalize (joined [] (allR M) ++ W2).map encRun = G3 at hFl2
              have hG4 : True := trivial
              have e1 : blksB (M ++ [(totB M, W2)]) = blksB M ++ putBk (totB M, W2) := by rw [blksB_append]; simp [blksB]
              have hsh := fun (w : List Nat) => short_get (x := (totB M, W2)) hcB hm16 (w := w)
              have hPb : ∀ c ∈ putBk (totB M, W2), c < 256 := fun c hc => good_byte _ 0 y0.fi.good c (by rw [e1]; simp [hc])
              have htu := fun (w : List Nat) fr t ht hI hle => turned_get (P := putBk (totB M, W2)) (w := w) rfl hcB hPb (fr := fr) (t := t) ht hI hle
              rw [show (putN (bytesN (numsN (totB M) W2)).length).length = headN (totB M, W2) from rfl] at htu
              have hkp := fun left h g hg => kept_eq M (putBk (totB M, W2)) left h g hg
              have hst := fun (w : List Nat) hw => scanB_tail w1.good (w := w) hw
              obtain ⟨M2, hM2⟩ : ∃ M2, M2 = M ++ [(totB M, W2)] := ⟨_, rfl⟩
              rw [← hM2] at e1 y0 hFl2
              have hM2n : ¬ M2 = [] := by rw [hM2]; simp
              have hspt := scanB_put y0.fi.good
              have hgM2 := acc_facts y0.fi.good (by have := y0.fi.bs; omega)
              have hbM2 := y0.fi.bs
              have hlM2 := good_len M2 0 y0.fi.good
              have htM2 := y0.fi.tot
              obtain ⟨k1, k2, k3, k4⟩ := hgM2 hM2n
              have hb2 := good_byte M2 0 y0.fi.good
              have hbb := good_byte M 0 w1.good
              generalize headN (totB M, W2) = head at *
              generalize hPP : putBk (totB M, W2) = P at *
              clear hPP hroom hcB
              have hbn2 : blksB M2 ≠ [] := by rw [e1, hPc]; simp
              have hie2 : (blksB M2).isEmpty = false := by simpa using hbn2
              have hPl : 0 < P.length := by rw [hPc]; simp
              have hPne : P ≠ [] := by rw [hPc]; simp
              have hbl : (blksB M2).length = (blksB M).length + P.length := by rw [e1]; simp
              have hR2 := gruns true false false false M2 [] (fun h => nomatch h) (by omega) (fun _ => k3) (blksB M2).length 100000 false
              have hT2 := gticks true false true false M2 [] (fun h => nomatch h) (by omega) (by simp) rfl htM2 (blksB M2).length 100000 false
              have hB := fbytes true false (blksB M2) (by omega) (blksB M2).length 100000 false
              have hOB := fbytes true false (blksB M) (by omega) (blksB M).length 100000 false
              have S13 := same13_spec (blksB M) (blksB M) (by omega) false false false false
              rw [decide_eq_true rfl] at S13
              have hOA := fappend true false (blksB M) hfbM (blksB M).length 100000 (by omega) false P hPne (by omega) false
              rw [if_neg (by simp), if_neg (by omega), ← e1] at hOA
              have htk : List.take (blksB M).length ((blksB M2).map encB) = (blksB M).map encB := by rw [e1, List.map_append, ← List.length_map (f := encB), List.take_left]
              have hdk : List.drop (blksB M).length ((blksB M2).map encB) = P.map encB := by rw [e1, List.map_append, ← List.length_map (f := encB), List.drop_left]
              have hct : cutE ((blksB M2).map encB) 0 (blksB M).length = (blksB M).map encB := by unfold cutE; simp only [Nat.zero_add, List.drop_zero]; exact htk
              have hcd : cutE ((blksB M2).map encB) (blksB M).length ((blksB M2).length - (blksB M).length) = P.map encB := by unfold cutE; rw [Nat.add_sub_cancel' (by omega), List.take_of_length_le (by simp)]; exact hdk
              have hb0 : (blksB M2)[(blksB M).length]? = some c := by rw [e1, hPc, List.getElem?_append_right (by omega)]; simp
              have w1' : IntKind.wrap .i64 (((blksB M2).length : Int) - ((blksB M).length : Int)) = (P.length : Int) := by rw [wrap64 (by omega) (by omega)]; omega
              have hle : ¬ (blksB M2).length ≤ (blksB M).length := by omega
              have hle2 : (blksB M).length ≤ (blksB M2).length := by omega
              have hle3 : (blksB M).length < (blksB M2).length := by omega
              have hr2 := rowsB (blksB M2)
              have hcat : ¬ ((totB M : Int) = totB M → False) := by simp
              have hcr := fun left h => crash_range false (blksB M2) (by omega) (blksB M).length (by omega) 100000 left h true true
              have hcs := fun g hg hgl left h1 h2 => crash_spec false (blksB M2) hb2 (by omega) (blksB M).length 100000 g hg hgl left h1 h2 false false
              have hpl10 : P.length ≤ 100000 := by omega
              have hz1 : ¬ (70368744177664 < P.length) := by omega
              have hz2 : (P.length : Int) ≤ 70368744177664 := by omega
              have hz : List.replicate P.length [AVal.lit (.int .u8 0)] = (List.replicate P.length 0).map encB := by simp [encB]
              have hbg : ∀ h : (blksB M).length < (blksB M2).length, (blksB M2)[(blksB M).length]'h = c := fun h => Option.some.inj ((List.getElem?_eq_getElem h).symm.trans hb0)
              rw [← e1] at hkp
              by_cases hrg : xl < 0 ∨ (P.length : Int) < xl
              · have hcr := hcr xl (by omega)
                clear hsh htu hkp hst hspt hcs
                simp only [lG, lS, fH1, fH2, fF, fB, hMn, hM2n, hJn, hL, if_true, if_false, Bool.true_eq_false, reduceIte, reduceCtorEq] at hFl hR hT hT1 hLn hO hA hR2 hT2 hB hOB S13 hOA hFl2 hcr ⊢
                generalize joined [] (allR M2) = J2 at *
                generalize blksB M2 = b2 at *
                generalize totB M2 = T2 at *
                generalize endsGo 0 0 M2 = es2 at *
                generalize M2.length = nM2 at *
                generalize joined [] (allR M) = J at *
                generalize blksB M = bs at *
                generalize totB M = T at *
                generalize endsGo 0 0 M = es at *
                generalize M.length = nM at *
                simp [lG, lS, fH1, fH2, fF, fB, fileB, nilS, endE, encEnd, hL, hMn, hie, show totB [] = 0 from rfl, show blksB [] = [] from rfl, show sumN [] = 0 from rfl, show allR [] = [] from rfl, show joined [] [] = [] from rfl, hM2n, hie2, hJn, hbn2] at hFl hR hT hT1 hLn hO hA hR2 hT2 hB hOB S13 hOA hFl2 hcr hct hcd ⊢
                by_cases hx0 : xl < 0
                · simp [go_sem, t1, t5, t7, t8, purse_eq, List.range_succ, hFl, hR, hT, hT1, hLn, hO, hA, hR2, hT2, hB, hOB, S13, hOA, hFl2, hcr, hct, hcd, hle, hle2, hle3, w1', hr2, hx0, awake17, lG, lS, fH1, fH2, fF, fB, fileB, nilS, endE, encEnd, hL, hMn, hie, show totB [] = 0 from rfl, show blksB [] = [] from rfl, show sumN [] = 0 from rfl, show allR [] = [] from rfl, show joined [] [] = [] from rfl, hM2n, hie2, hJn, hbn2]
                · have hx1 : (P.length : Int) < xl := by omega
                  simp [go_sem, t1, t5, t7, t8, purse_eq, List.range_succ, hFl, hR, hT, hT1, hLn, hO, hA, hR2, hT2, hB, hOB, S13, hOA, hFl2, hcr, hct, hcd, hle, hle2, hle3, w1', hr2, hx0, hx1, awake17, lG, lS, fH1, fH2, fF, fB, fileB, nilS, endE, encEnd, hL, hMn, hie, show totB [] = 0 from rfl, show blksB [] = [] from rfl, show sumN [] = 0 from rfl, show allR [] = [] from rfl, show joined [] [] = [] from rfl, hM2n, hie2, hJn, hbn2]
              · have hx0 : ¬ xl < 0 := by omega
                have hx1 : ¬ (P.length : Int) < xl := by omega
                obtain ⟨left, rfl⟩ := Int.eq_ofNat_of_zero_le (show 0 ≤ xl by omega)
                have hlp : left ≤ P.length := by omega
                have hx1n : ¬ P.length < left := by omega
                clear hcr hrg
                have hcase : (127 < c ∧ head = 2) ∨ (¬ 127 < c ∧ head = 1) := by by_cases h : 127 < c <;> simp [h] at hhd ⊢ <;> exact hhd
                clear hhd
                by_cases hlh : left ≤ head
                · have hzb : ∀ c ∈ List.replicate P.length 0, c < 256 := fun c hc => by have := List.eq_of_mem_replicate hc; omega
                  have hcs := hcs (List.replicate P.length 0) hzb (by simp; omega) left (by simp; omega) (by omega)
                  rw [hkp left hlp (List.replicate P.length 0) (by simp), zip_zero _ _ (by simp; omega)] at hcs
                  have hwl : (P.take left).length = left := by simp; omega
                  have hbad := hsh (P.take left) (by omega) (by rw [hwl])
                  have hsc := hst (P.take left) hbad
                  have hKb : ∀ c ∈ blksB M ++ P.take left, c < 256 := fun c hc => by rcases List.mem_append.1 hc with h | h; exact hbb c h; exact hPb c (List.mem_of_mem_take h)
                  have hKt : (blksB M ++ P.take left).take (blksB M).length = blksB M := List.take_left
                  obtain ⟨K, hK⟩ : ∃ K, K = blksB M ++ P.take left := ⟨_, rfl⟩
                  rw [← hK] at hcs hsc hKb hKt
                  have hKl : K.length = (blksB M).length + left := by rw [hK]; simp; omega
                  have hgC := gopenC true K hKb (by omega) (blksB M).length 100000
                  have hoC := fopenC true K (by omega) (blksB M).length 100000
                  have hgo := gopen K.isEmpty K hKb (by omega) K.length 100000
                  rw [hsc] at hgo
                  simp only [] at hgo
                  rw [show min K.length (blksB M).length = (blksB M).length from by omega, hKt] at hgo
                  have hKi : ¬ K = [] ∨ K.isEmpty = true := by cases K <;> simp
                  have hqR := gruns true true false false M [] (fun h => nomatch h) (by by_cases q : M = []; rw [q]; simp [allR, joined]; omega) (fun q => g3) (blksB M).length 100000 false
                  have hqT := gticks true true true false M [] (fun h => nomatch h) (by omega) (by simp) rfl htM (blksB M).length 100000 false
                  have hqS := sureG true true true true M [] (fun h => nomatch h) (by omega) (blksB M).length 100000 false
                  rw [sureOf_all] at hqS
                  have hqL := flen true true (blksB M) (fun h => nomatch h) (blksB M).length 100000 false
                  have Sm := same_spec (joined [] (allR M)) (joined [] (allR M)) (by omega) false false false false
                  rw [decide_eq_true rfl] at Sm
                  rw [show ((K.length : Int) - ((blksB M).length : Int)) = left from by omega] at hgo
                  have hKe : ∀ b, ([Entry.arr true false b 1 (K.map encB)] : Heap) = [.arr true false b 1 (K.map encB)] := fun _ => rfl
                  have hlw : ¬ left = P.length := by omega
                  have hlwi : ¬ (left : Int) = (P.length : Int) := by omega
                  clear hsh htu hkp hst hspt hbad hwl hK hKt hsc hKb hKe hKi
                  simp only [← hKl] at hcs
                  simp only [lG, lS, fH1, fH2, fF, fB, hMn, hM2n, hJn, hL, if_true, if_false, Bool.true_eq_false, reduceIte, reduceCtorEq] at hFl hR hT hT1 hLn hO hA hR2 hT2 hB hOB S13 hOA hFl2 hcs hgC hoC hgo hqR hqT hqS hqL Sm ⊢
                  generalize joined [] (allR M2) = J2 at *
                  generalize blksB M2 = b2 at *
                  generalize totB M2 = T2 at *
                  generalize endsGo 0 0 M2 = es2 at *
                  generalize M2.length = nM2 at *
                  generalize joined [] (allR M) = J at *
                  generalize blksB M = bs at *
                  generalize totB M = T at *
                  generalize endsGo 0 0 M = es at *
                  generalize M.length = nM at *
                  simp [lG, lS, fH1, fH2, fF, fB, fileB, nilS, endE, encEnd, hL, hMn, hie, show totB [] = 0 from rfl, show blksB [] = [] from rfl, show sumN [] = 0 from rfl, show allR [] = [] from rfl, show joined [] [] = [] from rfl, hM2n, hie2, hJn, hbn2] at hFl hR hT hT1 hLn hO hA hR2 hT2 hB hOB S13 hOA hFl2 hcs hgC hoC hgo hqR hqT hqS hqL Sm hct hcd ⊢
                  simp [encB] at hcs
                  rcases hcase with ⟨h127, rfl⟩ | ⟨h127, rfl⟩
                  · have h127i : (127 : Int) < (c : Int) := by omega
                    have hlh1 : ¬ 2 < left := by omega
                    have hlh2 : ¬ ((2 : Int) < left) := by omega
                    simp [go_sem, t1, t5, t7, t8, purse_eq, List.range_succ, hFl, hR, hT, hT1, hLn, hO, hA, hR2, hT2, hB, hOB, S13, hOA, hFl2, hcs, hgC, hoC, hgo, hqR, hqT, hqS, hqL, Sm, hct, hcd, hle, hle2, hle3, w1', hr2, hx0, hx1, hx1n, hbg, encB, h127, hlh1, hlh2, hz1, hz2, h127i, hlw, hlwi, awake17, lG, lS, fH1, fH2, fF, fB, fileB, nilS, endE, encEnd, hL, hMn, hie, show totB [] = 0 from rfl, show blksB [] = [] from rfl, show sumN [] = 0 from rfl, show allR [] = [] from rfl, show joined [] [] = [] from rfl, hM2n, hie2, hJn, hbn2]
                  · have h127i : ¬ (127 : Int) < (c : Int) := by omega
                    have hlh1 : ¬ 1 < left := by omega
                    have hlh2 : ¬ ((1 : Int) < left) := by omega
                    simp [go_sem, t1, t5, t7, t8, purse_eq, List.range_succ, hFl, hR, hT, hT1, hLn, hO, hA, hR2, hT2, hB, hOB, S13, hOA, hFl2, hcs, hgC, hoC, hgo, hqR, hqT, hqS, hqL, Sm, hct, hcd, hle, hle2, hle3, w1', hr2, hx0, hx1, hx1n, hbg, encB, h127, hlh1, hlh2, hz1, hz2, h127i, hlw, hlwi, awake17, lG, lS, fH1, fH2, fF, fB, fileB, nilS, endE, encEnd, hL, hMn, hie, show totB [] = 0 from rfl, show blksB [] = [] from rfl, show sumN [] = 0 from rfl, show allR [] = [] from rfl, show joined [] [] = [] from rfl, hM2n, hie2, hJn, hbn2]
                · have hlh1 : head < left := by omega
                  obtain ⟨many, hmany⟩ : ∃ many : Nat, many = 8 * (left - head) := ⟨_, rfl⟩
                  have hm0 : ¬ many = 0 := by omega
                  have hm0' : ¬ (many : Int) = 0 := by omega
                  have wA : IntKind.wrap .i64 ((left : Int) - (head : Int)) = (left : Int) - head := wrap64 (by omega) (by omega)
                  have wB : IntKind.wrap .i64 (8 * ((left : Int) - (head : Int))) = (many : Int) := by rw [wrap64 (by omega) (by omega)]; omega
                  have t1' : -(many : Int) < xf.tmod many ∧ xf.tmod many < many := ⟨by have := Int.lt_tmod_of_pos xf (show (0 : Int) < many by omega); omega, Int.tmod_lt_of_pos xf (by omega)⟩
                  have wC : IntKind.wrap .i64 (xf.tmod many + many) = xf.tmod many + many := wrap64 (by omega) (by omega)
                  have t2' : 0 ≤ (xf.tmod many + many).tmod many ∧ (xf.tmod many + many).tmod many < many := ⟨Int.tmod_nonneg _ (by omega), Int.tmod_lt_of_pos _ (by omega)⟩
                  obtain ⟨fr, hfr⟩ := Int.eq_ofNat_of_zero_le t2'.1
                  have hfrm : fr < many := by omega
                  clear t1' t2'
                  have hwl : (P.take left).length = left := by simp; omega
                  have hgoal : ∀ g turned τ, Inv (P.take left) head fr (min 32 (many - fr)) (min 32 (many - fr)) (List.zipWith (· ^^^ ·) (P.take left) g) turned → g.length = P.length → (∀ c ∈ g, c < 256) → lk 5 τ = .ptr 0 0 → lk 7 τ = .ptr 1 0 → lk 10 τ = .own 6 (joined [] (allR M)).length 3 0 (joined [] (allR M)).length → lk 12 τ = .lit (.int .i64 (totB M)) → lk 13 τ = .lit (.int .i64 (blksB M).length) → lk 14 τ = .ptr 7 0 → lk 17 τ = .own 9 (joined [] (allR M2)).length 3 0 (joined [] (allR M2)).length → lk 19 τ = .own 10 (blksB M2).length 1 0 (blksB M2).length → lk 21 τ = .own 11 g.length 1 0 g.length → lk 22 τ = .lit (.bool turned) →
                      finK 0 [.tmp 6] (run E 0 recK τ [.box [.lit (.int .i64 left), .lit (.int .i64 xf), .lit (.int .u32 xb)], .box [.ptr 2 0, .own 4 (joined [] (allR M2)).length 3 0 (joined [] (allR M2)).length, .own 5 M2.length 2 0 M2.length, nilS], fileB (.own 3 (blksB M2).length 1 0 (blksB M2).length) (blksB M2).length 100000 false, .arr true false false 1 ((blksB M2).map encB), .arr true true false 3 ((joined [] (allR M2)).map encRun), .arr true false false 2 ((endsGo 0 0 M2).map encEnd), .arr true false false 3 ((joined [] (allR M)).map encRun), fileB (.own 8 (blksB M2).length 1 0 (blksB M2).length) (blksB M).length 100000 false, .arr true false false 1 ((blksB M2).map encB), .arr true false false 3 ((joined [] (allR M2)).map encRun), .arr true true false 1 ((blksB M2).map encB), .arr true false false 1 (g.map encB)]) = some (.lit (.bool true), []) := by
                    intro g turned τ hI hgl hgb u5 u7 u10 u12 u13 u14 u17 u19 u21 u22
                    have hcs := hcs g hgb (by omega) left (by omega) (by omega)
                    rw [hkp left hlp g (by omega)] at hcs
                    have hzl := hI.len
                    rw [hwl] at hzl
                    by_cases hwh : left = P.length ∧ turned = false
                    · obtain ⟨hw1, rfl⟩ := hwh
                      have hsame := hI.same rfl
                      rw [hw1, List.take_length] at hsame
                      rw [hw1, List.take_length, hsame, ← e1] at hcs
                      have hbb2 : (blksB M).length + P.length = (blksB M2).length := by omega
                      rw [hbb2] at hcs
                      have hsc := hspt
                      have hKb := hb2
                      have hKt : (blksB M2).take (blksB M2).length = blksB M2 := List.take_length
                      obtain ⟨K, hK⟩ : ∃ K, K = blksB M2 := ⟨_, rfl⟩
                      have hsc' : scanB K = (M2, (blksB M2).length, totB M2) := by rw [hK]; exact hspt
                      clear hsc
                      have hsc := hsc'
                      have hKt' : K.take (blksB M2).length = blksB M2 := by rw [hK]; exact hKt
                      clear hKt
                      have hKt := hKt'
                      have hKb : ∀ c ∈ K, c < 256 := by rw [hK]; exact hb2
                      have hKl : K.length = (blksB M).length + left := by rw [hK]; omega
                      have hgC := gopenC true K hKb (by omega) (blksB M).length 100000
                      have hoC := fopenC true K (by omega) (blksB M).length 100000
                      have hgo := gopen K.isEmpty K hKb (by omega) K.length 100000
                      rw [hsc] at hgo
                      simp only [] at hgo
                      rw [show min K.length (blksB M2).length = (blksB M2).length from by omega, hKt] at hgo
                      have hKi : ¬ K = [] ∨ K.isEmpty = true := by cases K <;> simp
                      have hqR := gruns true true false false M2 [] (fun h => nomatch h) (by by_cases q : M2 = []; rw [q]; simp [allR, joined]; omega) (fun q => k3) (blksB M2).length 100000 false
                      have hqT := gticks true true true false M2 [] (fun h => nomatch h) (by omega) (by simp) rfl htM2 (blksB M2).length 100000 false
                      have hqS := sureG true true true true M2 [] (fun h => nomatch h) (by omega) (blksB M2).length 100000 false
                      rw [sureOf_all] at hqS
                      have hqL := flen true true (blksB M2) (fun h => nomatch h) (blksB M2).length 100000 false
                      have Sm := same_spec (joined [] (allR M2)) (joined [] (allR M2)) (by omega) false false false false
                      rw [decide_eq_true rfl] at Sm
                      rw [show ((K.length : Int) - ((blksB M2).length : Int)) = 0 from by rw [hK]; omega] at hgo
                      rw [hK] at hgC hoC hgo
                      clear hsh htu hkp hst hspt hsc hKb hKt hKt' hsc' hKi hwl hI hsame hzl hfr wA wB wC
                      simp only [lG, lS, fH1, fH2, fF, fB, hMn, hM2n, hJn, hL, if_true, if_false, Bool.true_eq_false, reduceIte, reduceCtorEq] at hFl hR hT hT1 hLn hO hA hR2 hT2 hB hOB S13 hOA hFl2 hcs hgC hoC hgo hqR hqT hqS hqL Sm ⊢
                      generalize joined [] (allR M2) = J2 at *
                      generalize blksB M2 = b2 at *
                      generalize totB M2 = T2 at *
                      generalize endsGo 0 0 M2 = es2 at *
                      generalize M2.length = nM2 at *
                      generalize joined [] (allR M) = J at *
                      generalize blksB M = bs at *
                      generalize totB M = T at *
                      generalize endsGo 0 0 M = es at *
                      generalize M.length = nM at *
                      simp [lG, lS, fH1, fH2, fF, fB, fileB, nilS, endE, encEnd, hL, hMn, hie, show totB [] = 0 from rfl, show blksB [] = [] from rfl, show sumN [] = 0 from rfl, show allR [] = [] from rfl, show joined [] [] = [] from rfl, hM2n, hie2, hJn, hbn2, hgl] at hFl hR hT hT1 hLn hO hA hR2 hT2 hB hOB S13 hOA hFl2 hcs hgC hoC hgo hqR hqT hqS hqL Sm hct hcd u10 u17 u19 u21 ⊢
                      simp [go_sem, u5, u7, u10, u12, u13, u14, u17, u19, u21, u22, purse_eq, List.range_succ, hT2, hcs, hgC, hoC, hgo, hqR, hqT, hqS, hqL, Sm, w1', hw1, hgl, awake17, lG, lS, fH1, fH2, fF, fB, fileB, nilS, endE, encEnd, hL, hMn, hie, show totB [] = 0 from rfl, show blksB [] = [] from rfl, show sumN [] = 0 from rfl, show allR [] = [] from rfl, show joined [] [] = [] from rfl, hM2n, hie2, hJn, hbn2, recK]
                    · have hbad : (getB (List.zipWith (· ^^^ ·) (P.take left) g)).2.2 ≠ 0 := by
                        by_cases hlt : left < P.length
                        · exact hsh _ (by omega) (by rw [hzl]; exact hI.front)
                        · have hle4 : left = P.length := by omega
                          have htt : turned = true := by cases turned with | true => rfl | false => exact absurd ⟨hle4, rfl⟩ hwh
                          have hPP : P.take left = P := by rw [hle4, List.take_length]
                          rw [htt] at hI
                          rw [hPP] at hI ⊢
                          rw [htu _ fr _ (by omega) hI (by omega)]
                          simp
                      have hsc := hst _ hbad
                      have hKb : ∀ c ∈ blksB M ++ List.zipWith (· ^^^ ·) (P.take left) g, c < 256 := fun c hc => by rcases List.mem_append.1 hc with h | h; exact hbb c h; exact hI.byte c h
                      have hKt : (blksB M ++ List.zipWith (· ^^^ ·) (P.take left) g).take (blksB M).length = blksB M := List.take_left
                      obtain ⟨K, hK⟩ : ∃ K, K = blksB M ++ List.zipWith (· ^^^ ·) (P.take left) g := ⟨_, rfl⟩
                      rw [← hK] at hcs hsc hKb hKt
                      have hKl : K.length = (blksB M).length + left := by rw [hK, List.length_append, hzl]
                      have hgC := gopenC true K hKb (by omega) (blksB M).length 100000
                      have hoC := fopenC true K (by omega) (blksB M).length 100000
                      have hgo := gopen K.isEmpty K hKb (by omega) K.length 100000
                      rw [hsc] at hgo
                      simp only [] at hgo
                      rw [show min K.length (blksB M).length = (blksB M).length from by omega, hKt] at hgo
                      have hKi : ¬ K = [] ∨ K.isEmpty = true := by cases K <;> simp
                      have hqR := gruns true true false false M [] (fun h => nomatch h) (by by_cases q : M = []; rw [q]; simp [allR, joined]; omega) (fun q => g3) (blksB M).length 100000 false
                      have hqT := gticks true true true false M [] (fun h => nomatch h) (by omega) (by simp) rfl htM (blksB M).length 100000 false
                      have hqS := sureG true true true true M [] (fun h => nomatch h) (by omega) (blksB M).length 100000 false
                      rw [sureOf_all] at hqS
                      have hqL := flen true true (blksB M) (fun h => nomatch h) (blksB M).length 100000 false
                      have Sm := same_spec (joined [] (allR M)) (joined [] (allR M)) (by omega) false false false false
                      rw [decide_eq_true rfl] at Sm
                      rw [show ((K.length : Int) - ((blksB M).length : Int)) = left from by omega] at hgo
                      have hlw : ¬ (left = P.length ∧ turned = false) := hwh
                      have hlw2 : left = P.length → turned = true := fun h => by cases turned with | true => rfl | false => exact absurd ⟨h, rfl⟩ hwh
                      simp only [← hKl] at hcs
                      clear hsh htu hkp hst hspt hbad hwl hKt hsc hKb hKi hI hzl hfr wA wB wC
                      simp only [lG, lS, fH1, fH2, fF, fB, hMn, hM2n, hJn, hL, if_true, if_false, Bool.true_eq_false, reduceIte, reduceCtorEq] at hFl hR hT hT1 hLn hO hA hR2 hT2 hB hOB S13 hOA hFl2 hcs hgC hoC hgo hqR hqT hqS hqL Sm ⊢
                      generalize joined [] (allR M2) = J2 at *
                      generalize blksB M2 = b2 at *
                      generalize totB M2 = T2 at *
                      generalize endsGo 0 0 M2 = es2 at *
                      generalize M2.length = nM2 at *
                      generalize joined [] (allR M) = J at *
                      generalize blksB M = bs at *
                      generalize totB M = T at *
                      generalize endsGo 0 0 M = es at *
                      generalize M.length = nM at *
                      simp [lG, lS, fH1, fH2, fF, fB, fileB, nilS, endE, encEnd, hL, hMn, hie, show totB [] = 0 from rfl, show blksB [] = [] from rfl, show sumN [] = 0 from rfl, show allR [] = [] from rfl, show joined [] [] = [] from rfl, hM2n, hie2, hJn, hbn2, hgl] at hFl hR hT hT1 hLn hO hA hR2 hT2 hB hOB S13 hOA hFl2 hcs hgC hoC hgo hqR hqT hqS hqL Sm hct hcd u10 u17 u19 u21 ⊢
                      by_cases hlq : left = P.length
                      · subst hlq
                        have htt := hlw2 rfl
                        subst htt
                        simp [go_sem, u5, u7, u10, u12, u13, u14, u17, u19, u21, u22, purse_eq, List.range_succ, hT2, hcs, hgC, hoC, hgo, hqR, hqT, hqS, hqL, Sm, w1', hgl, awake17, lG, lS, fH1, fH2, fF, fB, fileB, nilS, endE, encEnd, hL, hMn, hie, show totB [] = 0 from rfl, show blksB [] = [] from rfl, show sumN [] = 0 from rfl, show allR [] = [] from rfl, show joined [] [] = [] from rfl, hM2n, hie2, hJn, hbn2, recK]
                      · have hlqi : ¬ (left : Int) = (P.length : Int) := by omega
                        simp [go_sem, u5, u7, u10, u12, u13, u14, u17, u19, u21, u22, purse_eq, List.range_succ, hT2, hcs, hgC, hoC, hgo, hqR, hqT, hqS, hqL, Sm, w1', hlqi, hgl, awake17, lG, lS, fH1, fH2, fF, fB, fileB, nilS, endE, encEnd, hL, hMn, hie, show totB [] = 0 from rfl, show blksB [] = [] from rfl, show sumN [] = 0 from rfl, show allR [] = [] from rfl, show joined [] [] = [] from rfl, hM2n, hie2, hJn, hbn2, recK]
                  clear hcs hsh htu hkp hst hspt
                  simp only [lG, lS, fH1, fH2, fF, fB, hMn, hM2n, hJn, hL, if_true, if_false, Bool.true_eq_false, reduceIte, reduceCtorEq] at hFl hR hT hT1 hLn hO hA hR2 hT2 hB hOB S13 hOA hFl2 hgoal ⊢
                  generalize joined [] (allR M2) = J2 at *
                  generalize blksB M2 = b2 at *
                  generalize totB M2 = T2 at *
                  generalize endsGo 0 0 M2 = es2 at *
                  generalize M2.length = nM2 at *
                  generalize joined [] (allR M) = J at *
                  generalize blksB M = bs at *
                  generalize totB M = T at *
                  generalize endsGo 0 0 M = es at *
                  generalize M.length = nM at *
                  simp [lG, lS, fH1, fH2, fF, fB, fileB, nilS, endE, encEnd, hL, hMn, hie, show totB [] = 0 from rfl, show blksB [] = [] from rfl, show sumN [] = 0 from rfl, show allR [] = [] from rfl, show joined [] [] = [] from rfl, hM2n, hie2, hJn, hbn2] at hFl hR hT hT1 hLn hO hA hR2 hT2 hB hOB S13 hOA hFl2 hct hcd ⊢
                  rcases hcase with ⟨h127, rfl⟩ | ⟨h127, rfl⟩
                  · have h127i : (127 : Int) < (c : Int) := by omega
                    have hlh2 : ((2 : Int) < left) := by omega
                    simp at wA wB
                    simp [go_sem, t1, t5, t7, t8, purse_eq, List.range_succ, hFl, hR, hT, hT1, hLn, hO, hA, hR2, hT2, hB, hOB, S13, hOA, hFl2, hct, hcd, hle, hle2, hle3, w1', hr2, hx0, hx1, hx1n, hbg, encB, h127, hlh1, hlh2, hz1, hz2, h127i, wA, wB, wC, hm0, hm0', hfr, lG, lS, fH1, fH2, fF, fB, fileB, nilS, endE, encEnd, hL, hMn, hie, show totB [] = 0 from rfl, show blksB [] = [] from rfl, show sumN [] = 0 from rfl, show allR [] = [] from rfl, show joined [] [] = [] from rfl, hM2n, hie2, hJn, hbn2]
                    rw [run_inLoop']
                    simp [go_sem, t5, t7, purse_eq, List.range_succ]
                    (try rw [hfr])
                    exact rec_loopB0 (P.take left) (by omega) _ _ xb hxb _ _ _ _ _ _ _ _ _ _ _ _ _ _ _ _ _ _ _ _ _ _ _ _ _ _ _ _ _ _ _ _ P.length 2 many fr (by omega) (fun c hc => hPb c (List.mem_of_mem_take hc)) (by omega) hfrm (by omega) _ _ hgoal
                  · have h127i : ¬ (127 : Int) < (c : Int) := by omega
                    have hlh2 : ((1 : Int) < left) := by omega
                    simp at wA wB
                    simp [go_sem, t1, t5, t7, t8, purse_eq, List.range_succ, hFl, hR, hT, hT1, hLn, hO, hA, hR2, hT2, hB, hOB, S13, hOA, hFl2, hct, hcd, hle, hle2, hle3, w1', hr2, hx0, hx1, hx1n, hbg, encB, h127, hlh1, hlh2, hz1, hz2, h127i, wA, wB, wC, hm0, hm0', hfr, lG, lS, fH1, fH2, fF, fB, fileB, nilS, endE, encEnd, hL, hMn, hie, show totB [] = 0 from rfl, show blksB [] = [] from rfl, show sumN [] = 0 from rfl, show allR [] = [] from rfl, show joined [] [] = [] from rfl, hM2n, hie2, hJn, hbn2]
                    rw [run_inLoop']
                    simp [go_sem, t5, t7, purse_eq, List.range_succ]
                    (try rw [hfr])
                    exact rec_loopB0 (P.take left) (by omega) _ _ xb hxb _ _ _ _ _ _ _ _ _ _ _ _ _ _ _ _ _ _ _ _ _ _ _ _ _ _ _ _ _ _ _ _ P.length 1 many fr (by omega) (fun c hc => hPb c (List.mem_of_mem_take hc)) (by omega) hfrm (by omega) _ _ hgoal
            · subst hM0
              have ha : appE M [] la = chk la := by unfold appE; rw [if_pos hcl]
              rw [if_neg hcl] at hCk
              rw [ha] at hA
              simp only [hcl, ne_eq, not_false_eq_true, if_true] at hA hCk
              simp only [lG, lS, fH1, fH2, fF, fB, hMn, hL, if_true, if_false, Bool.true_eq_false, reduceIte, reduceCtorEq] at hFl hR hT hT1 hLn hO hA ⊢
              generalize joined [] (allR M) = J at *
              generalize blksB M = bs at *
              generalize totB M = T at *
              generalize endsGo 0 0 M = es at *
              generalize M.length = nM at *
              simp [lG, lS, fH1, fH2, fF, fB, fileB, nilS, endE, encEnd, hL, hMn, hie, show totB [] = 0 from rfl, show blksB [] = [] from rfl, show sumN [] = 0 from rfl, show allR [] = [] from rfl, show joined [] [] = [] from rfl] at hFl hR hT hT1 hLn hO hA hCk ⊢
              simp [go_sem, t1, t5, t7, t8, purse_eq, List.range_succ, hFl, hR, hT, hT1, hLn, hO, hA, hCk, hcl, awake17, lG, lS, fH1, fH2, fF, fB, fileB, nilS, endE, encEnd, hL, hMn, hie, show totB [] = 0 from rfl, show blksB [] = [] from rfl, show sumN [] = 0 from rfl, show allR [] = [] from rfl, show joined [] [] = [] from rfl]
          · have hc := v1.chkB (by omega) hW
            have hfull := v0.room (by omega) hW
            have hFl := gflush true ff lw lq L W (fun h => nomatch h) hW hc v1.jo v1.dr ht hg (by have := v1.bs; omega) (blksB L).length 100000 (by omega) false
            simp only [Bool.false_eq_true, if_false, hfull] at hFl
            rw [flH_2 _ L hL] at hFl
            have vM0 := v0.flush (by omega) hW
            obtain ⟨M, hM0⟩ : ∃ M : List Bk, M = L ++ [(totB L, W)] := ⟨_, rfl⟩
            rw [← hM0] at hFl vM0
            have vM : RInv (i + 1) M [] := ⟨A, vM0⟩
            have hMn : ¬ M = [] := by rw [hM0]; simp
            generalize (joined [] (allR L) ++ W).map encRun = G1 at hFl
            generalize hG2 : W.map encRun = G2 at hFl
            obtain ⟨A2, w0⟩ := vM
            have w1 := w0.fi
            have hgM := acc_facts w1.good (by have := w1.bs; omega)
            have htM := w1.tot
            have hbM := w1.bs
            have hlM := good_len M 0 w1.good
            obtain ⟨g1, g2, g3, g4⟩ := hgM hMn
            have hbn : blksB M ≠ [] := by
              intro q
              rw [q] at hlM
              have := List.length_pos_iff.2 hMn
              simp at *; omega
            have hie : (blksB M).isEmpty = false := by simpa using hbn
            have hfoM : true = false → M = [] := fun h => nomatch h
            have hfbM : true = false → blksB M = [] := fun h => nomatch h
            have hR := gruns true false false lq M [] hfoM (by by_cases q : M = []; rw [q]; simp [allR, joined]; have := (hgM q).2.1; omega) (fun q => (hgM q).2.2.1) (blksB M).length 100000 false
            have hT := gticks true false true lq M [] hfoM (by omega) (by simp) rfl htM (blksB M).length 100000 false
            have hT1 := gticks true false true true M [] hfoM (by omega) (by simp) rfl htM (blksB M).length 100000 false
            have hLn := flen true false (blksB M) hfbM (blksB M).length 100000 false
            have hO := fopen1 false (blksB M) (by omega) (blksB M).length 100000
            have hA := gappend true false true true M [] la hfoM (by omega) (by simp) rfl htM (by omega) hlok (blksB M).length 100000 false nm fm
            simp only [Bool.false_eq_true, if_false, List.nil_append, if_true] at hA
            by_cases hcl : chk la = 0
            · obtain ⟨ha, hcB, ⟨A3, y0⟩, f1, hJn, hJl, hroom⟩ := app_facts ⟨A2, w0⟩ (by omega) hl0 hla12 hlan hla hcl
              rw [ha] at hA
              simp only [hcl, ne_eq, not_true_eq_false, if_false] at hA
              generalize hW2 : joined [] la = W2 at *
              clear hW2
              have hm16 := few_bytes (x := (totB M, W2)) hcB hJl
              have hhl := headN_le (x := (totB M, W2)) hcB hm16
              obtain ⟨c, rest, hPc, hhd⟩ := first_byte (x := (totB M, W2)) hm16
              have hFl2 := gflush true false true false M W2 hfoM hJn hcB f1.jo f1.dr htM hgM (by omega) (blksB M).length 100000 (by omega) false
              simp only [Bool.false_eq_true, if_false, hroom] at hFl2
              rw [flH_2 _ M hMn] at hFl2
              generalize (joined [] (allR M) ++ W2).map encRun = G3 at hFl2
              have hG4 : True := trivial
              have e1 : blksB (M ++ [(totB M, W2)]) = blksB M ++ putBk (totB M, W2) := by rw [blksB_append]; simp [blksB]
              have hsh := fun (w : List Nat) => short_get (x := (totB M, W2)) hcB hm16 (w := w)
              have hPb : ∀ c ∈ putBk (totB M, W2), c < 256 := fun c hc => good_byte _ 0 y0.fi.good c (by rw [e1]; simp [hc])
              have htu := fun (w : List Nat) fr t ht hI hle => turned_get (P := putBk (totB M, W2)) (w := w) rfl hcB hPb (fr := fr) (t := t) ht hI hle
              rw [show (putN (bytesN (numsN (totB M) W2)).length).length = headN (totB M, W2) from rfl] at htu
              have hkp := fun left h g hg => kept_eq M (putBk (totB M, W2)) left h g hg
              have hst := fun (w : List Nat) hw => scanB_tail w1.good (w := w) hw
              obtain ⟨M2, hM2⟩ : ∃ M2, M2 = M ++ [(totB M, W2)] := ⟨_, rfl⟩
              rw [← hM2] at e1 y0 hFl2
              have hM2n : ¬ M2 = [] := by rw [hM2]; simp
              have hspt := scanB_put y0.fi.good
              have hgM2 := acc_facts y0.fi.good (by have := y0.fi.bs; omega)
              have hbM2 := y0.fi.bs
              have hlM2 := good_len M2 0 y0.fi.good
              have htM2 := y0.fi.tot
              obtain ⟨k1, k2, k3, k4⟩ := hgM2 hM2n
              have hb2 := good_byte M2 0 y0.fi.good
              have hbb := good_byte M 0 w1.good
              generalize headN (totB M, W2) = head at *
              generalize hPP : putBk (totB M, W2) = P at *
              clear hPP hroom hcB
              have hbn2 : blksB M2 ≠ [] := by rw [e1, hPc]; simp
              have hie2 : (blksB M2).isEmpty = false := by simpa using hbn2
              have hPl : 0 < P.length := by rw [hPc]; simp
              have hPne : P ≠ [] := by rw [hPc]; simp
              have hbl : (blksB M2).length = (blksB M).length + P.length := by rw [e1]; simp
              have hR2 := gruns true false false false M2 [] (fun h => nomatch h) (by omega) (fun _ => k3) (blksB M2).length 100000 false
              have hT2 := gticks true false true false M2 [] (fun h => nomatch h) (by omega) (by simp) rfl htM2 (blksB M2).length 100000 false
              have hB := fbytes true false (blksB M2) (by omega) (blksB M2).length 100000 false
              have hOB := fbytes true false (blksB M) (by omega) (blksB M).length 100000 false
              have S13 := same13_spec (blksB M) (blksB M) (by omega) false false false false
              rw [decide_eq_true rfl] at S13
              have hOA := fappend true false (blksB M) hfbM (blksB M).length 100000 (by omega) false P hPne (by omega) false
              rw [if_neg (by simp), if_neg (by omega), ← e1] at hOA
              have htk : List.take (blksB M).length ((blksB M2).map encB) = (blksB M).map encB := by rw [e1, List.map_append, ← List.length_map (f := encB), List.take_left]
              have hdk : List.drop (blksB M).length ((blksB M2).map encB) = P.map encB := by rw [e1, List.map_append, ← List.length_map (f := encB), List.drop_left]
              have hct : cutE ((blksB M2).map encB) 0 (blksB M).length = (blksB M).map encB := by unfold cutE; simp only [Nat.zero_add, List.drop_zero]; exact htk
              have hcd : cutE ((blksB M2).map encB) (blksB M).length ((blksB M2).length - (blksB M).length) = P.map encB := by unfold cutE; rw [Nat.add_sub_cancel' (by omega), List.take_of_length_le (by simp)]; exact hdk
              have hb0 : (blksB M2)[(blksB M).length]? = some c := by rw [e1, hPc, List.getElem?_append_right (by omega)]; simp
              have w1' : IntKind.wrap .i64 (((blksB M2).length : Int) - ((blksB M).length : Int)) = (P.length : Int) := by rw [wrap64 (by omega) (by omega)]; omega
              have hle : ¬ (blksB M2).length ≤ (blksB M).length := by omega
              have hle2 : (blksB M).length ≤ (blksB M2).length := by omega
              have hle3 : (blksB M).length < (blksB M2).length := by omega
              have hr2 := rowsB (blksB M2)
              have hcat : ¬ ((totB M : Int) = totB M → False) := by simp
              have hcr := fun left h => crash_range false (blksB M2) (by omega) (blksB M).length (by omega) 100000 left h true true
              have hcs := fun g hg hgl left h1 h2 => crash_spec false (blksB M2) hb2 (by omega) (blksB M).length 100000 g hg hgl left h1 h2 false false
              have hpl10 : P.length ≤ 100000 := by omega
              have hz1 : ¬ (70368744177664 < P.length) := by omega
              have hz2 : (P.length : Int) ≤ 70368744177664 := by omega
              have hz : List.replicate P.length [AVal.lit (.int .u8 0)] = (List.replicate P.length 0).map encB := by simp [encB]
              have hbg : ∀ h : (blksB M).length < (blksB M2).length, (blksB M2)[(blksB M).length]'h = c := fun h => Option.some.inj ((List.getElem?_eq_getElem h).symm.trans hb0)
              rw [← e1] at hkp
              by_cases hrg : xl < 0 ∨ (P.length : Int) < xl
              · have hcr := hcr xl (by omega)
                clear hsh htu hkp hst hspt hcs
                simp only [lG, lS, fH1, fH2, fF, fB, hMn, hM2n, hJn, hL, hW, if_true, if_false, Bool.true_eq_false, reduceIte, reduceCtorEq] at hFl hR hT hT1 hLn hO hA hR2 hT2 hB hOB S13 hOA hFl2 hcr ⊢
                generalize joined [] (allR M2) = J2 at *
                generalize blksB M2 = b2 at *
                generalize totB M2 = T2 at *
                generalize endsGo 0 0 M2 = es2 at *
                generalize M2.length = nM2 at *
                generalize joined [] (allR M) = J at *
                generalize blksB M = bs at *
                generalize totB M = T at *
                generalize endsGo 0 0 M = es at *
                generalize M.length = nM at *
                generalize joined [] (allR L) = J0 at *
                generalize blksB L = bs0 at *
                generalize endsGo 0 0 L = es0 at *
                generalize L.length = nL at *
                simp [lG, lS, fH1, fH2, fF, fB, fileB, nilS, endE, encEnd, hL, hW, hMn, hie, show totB [] = 0 from rfl, show blksB [] = [] from rfl, show sumN [] = 0 from rfl, show allR [] = [] from rfl, show joined [] [] = [] from rfl, hM2n, hie2, hJn, hbn2] at hFl hR hT hT1 hLn hO hA hR2 hT2 hB hOB S13 hOA hFl2 hcr hct hcd ⊢
                by_cases hx0 : xl < 0
                · simp [go_sem, t1, t5, t7, t8, purse_eq, List.range_succ, hFl, hR, hT, hT1, hLn, hO, hA, hR2, hT2, hB, hOB, S13, hOA, hFl2, hcr, hct, hcd, hle, hle2, hle3, w1', hr2, hx0, awake17, lG, lS, fH1, fH2, fF, fB, fileB, nilS, endE, encEnd, hL, hW, hMn, hie, show totB [] = 0 from rfl, show blksB [] = [] from rfl, show sumN [] = 0 from rfl, show allR [] = [] from rfl, show joined [] [] = [] from rfl, hM2n, hie2, hJn, hbn2]
                · have hx1 : (P.length : Int) < xl := by omega
                  simp [go_sem, t1, t5, t7, t8, purse_eq, List.range_succ, hFl, hR, hT, hT1, hLn, hO, hA, hR2, hT2, hB, hOB, S13, hOA, hFl2, hcr, hct, hcd, hle, hle2, hle3, w1', hr2, hx0, hx1, awake17, lG, lS, fH1, fH2, fF, fB, fileB, nilS, endE, encEnd, hL, hW, hMn, hie, show totB [] = 0 from rfl, show blksB [] = [] from rfl, show sumN [] = 0 from rfl, show allR [] = [] from rfl, show joined [] [] = [] from rfl, hM2n, hie2, hJn, hbn2]
              · have hx0 : ¬ xl < 0 := by omega
                have hx1 : ¬ (P.length : Int) < xl := by omega
                obtain ⟨left, rfl⟩ := Int.eq_ofNat_of_zero_le (show 0 ≤ xl by omega)
                have hlp : left ≤ P.length := by omega
                have hx1n : ¬ P.length < left := by omega
                clear hcr hrg
                have hcase : (127 < c ∧ head = 2) ∨ (¬ 127 < c ∧ head = 1) := by by_cases h : 127 < c <;> simp [h] at hhd ⊢ <;> exact hhd
                clear hhd
                by_cases hlh : left ≤ head
                · have hzb : ∀ c ∈ List.replicate P.length 0, c < 256 := fun c hc => by have := List.eq_of_mem_replicate hc; omega
                  have hcs := hcs (List.replicate P.length 0) hzb (by simp; omega) left (by simp; omega) (by omega)
                  rw [hkp left hlp (List.replicate P.length 0) (by simp), zip_zero _ _ (by simp; omega)] at hcs
                  have hwl : (P.take left).length = left := by simp; omega
                  have hbad := hsh (P.take left) (by omega) (by rw [hwl])
                  have hsc := hst (P.take left) hbad
                  have hKb : ∀ c ∈ blksB M ++ P.take left, c < 256 := fun c hc => by rcases List.mem_append.1 hc with h | h; exact hbb c h; exact hPb c (List.mem_of_mem_take h)
                  have hKt : (blksB M ++ P.take left).take (blksB M).length = blksB M := List.take_left
                  obtain ⟨K, hK⟩ : ∃ K, K = blksB M ++ P.take left := ⟨_, rfl⟩
                  rw [← hK] at hcs hsc hKb hKt
                  have hKl : K.length = (blksB M).length + left := by rw [hK]; simp; omega
                  have hgC := gopenC true K hKb (by omega) (blksB M).length 100000
                  have hoC := fopenC true K (by omega) (blksB M).length 100000
                  have hgo := gopen K.isEmpty K hKb (by omega) K.length 100000
                  rw [hsc] at hgo
                  simp only [] at hgo
                  rw [show min K.length (blksB M).length = (blksB M).length from by omega, hKt] at hgo
                  have hKi : ¬ K = [] ∨ K.isEmpty = true := by cases K <;> simp
                  have hqR := gruns true true false false M [] (fun h => nomatch h) (by by_cases q : M = []; rw [q]; simp [allR, joined]; omega) (fun q => g3) (blksB M).length 100000 false
                  have hqT := gticks true true true false M [] (fun h => nomatch h) (by omega) (by simp) rfl htM (blksB M).length 100000 false
                  have hqS := sureG true true true true M [] (fun h => nomatch h) (by omega) (blksB M).length 100000 false
                  rw [sureOf_all] at hqS
                  have hqL := flen true true (blksB M) (fun h => nomatch h) (blksB M).length 100000 false
                  have Sm := same_spec (joined [] (allR M)) (joined [] (allR M)) (by omega) false false false false
                  rw [decide_eq_true rfl] at Sm
                  rw [show ((K.length : Int) - ((blksB M).length : Int)) = left from by omega] at hgo
                  have hKe : ∀ b, ([Entry.arr true false b 1 (K.map encB)] : Heap) = [.arr true false b 1 (K.map encB)] := fun _ => rfl
                  have hlw : ¬ left = P.length := by omega
                  have hlwi : ¬ (left : Int) = (P.length : Int) := by omega
                  clear hsh htu hkp hst hspt hbad hwl hK hKt hsc hKb hKe hKi
                  simp only [← hKl] at hcs
                  simp only [lG, lS, fH1, fH2, fF, fB, hMn, hM2n, hJn, hL, hW, if_true, if_false, Bool.true_eq_false, reduceIte, reduceCtorEq] at hFl hR hT hT1 hLn hO hA hR2 hT2 hB hOB S13 hOA hFl2 hcs hgC hoC hgo hqR hqT hqS hqL Sm ⊢
                  generalize joined [] (allR M2) = J2 at *
                  generalize blksB M2 = b2 at *
                  generalize totB M2 = T2 at *
                  generalize endsGo 0 0 M2 = es2 at *
                  generalize M2.length = nM2 at *
                  generalize joined [] (allR M) = J at *
                  generalize blksB M = bs at *
                  generalize totB M = T at *
                  generalize endsGo 0 0 M = es at *
                  generalize M.length = nM at *
                  generalize joined [] (allR L) = J0 at *
                  generalize blksB L = bs0 at *
                  generalize endsGo 0 0 L = es0 at *
                  generalize L.length = nL at *
                  simp [lG, lS, fH1, fH2, fF, fB, fileB, nilS, endE, encEnd, hL, hW, hMn, hie, show totB [] = 0 from rfl, show blksB [] = [] from rfl, show sumN [] = 0 from rfl, show allR [] = [] from rfl, show joined [] [] = [] from rfl, hM2n, hie2, hJn, hbn2] at hFl hR hT hT1 hLn hO hA hR2 hT2 hB hOB S13 hOA hFl2 hcs hgC hoC hgo hqR hqT hqS hqL Sm hct hcd ⊢
                  simp [encB] at hcs
                  rcases hcase with ⟨h127, rfl⟩ | ⟨h127, rfl⟩
                  · have h127i : (127 : Int) < (c : Int) := by omega
                    have hlh1 : ¬ 2 < left := by omega
                    have hlh2 : ¬ ((2 : Int) < left) := by omega
                    simp [go_sem, t1, t5, t7, t8, purse_eq, List.range_succ, hFl, hR, hT, hT1, hLn, hO, hA, hR2, hT2, hB, hOB, S13, hOA, hFl2, hcs, hgC, hoC, hgo, hqR, hqT, hqS, hqL, Sm, hct, hcd, hle, hle2, hle3, w1', hr2, hx0, hx1, hx1n, hbg, encB, h127, hlh1, hlh2, hz1, hz2, h127i, hlw, hlwi, awake17, lG, lS, fH1, fH2, fF, fB, fileB, nilS, endE, encEnd, hL, hW, hMn, hie, show totB [] = 0 from rfl, show blksB [] = [] from rfl, show sumN [] = 0 from rfl, show allR [] = [] from rfl, show joined [] [] = [] from rfl, hM2n, hie2, hJn, hbn2]
                  · have h127i : ¬ (127 : Int) < (c : Int) := by omega
                    have hlh1 : ¬ 1 < left := by omega
                    have hlh2 : ¬ ((1 : Int) < left) := by omega
                    simp [go_sem, t1, t5, t7, t8, purse_eq, List.range_succ, hFl, hR, hT, hT1, hLn, hO, hA, hR2, hT2, hB, hOB, S13, hOA, hFl2, hcs, hgC, hoC, hgo, hqR, hqT, hqS, hqL, Sm, hct, hcd, hle, hle2, hle3, w1', hr2, hx0, hx1, hx1n, hbg, encB, h127, hlh1, hlh2, hz1, hz2, h127i, hlw, hlwi, awake17, lG, lS, fH1, fH2, fF, fB, fileB, nilS, endE, encEnd, hL, hW, hMn, hie, show totB [] = 0 from rfl, show blksB [] = [] from rfl, show sumN [] = 0 from rfl, show allR [] = [] from rfl, show joined [] [] = [] from rfl, hM2n, hie2, hJn, hbn2]
                · have hlh1 : head < left := by omega
                  obtain ⟨many, hmany⟩ : ∃ many : Nat, many = 8 * (left - head) := ⟨_, rfl⟩
                  have hm0 : ¬ many = 0 := by omega
                  have hm0' : ¬ (many : Int) = 0 := by omega
                  have wA : IntKind.wrap .i64 ((left : Int) - (head : Int)) = (left : Int) - head := wrap64 (by omega) (by omega)
                  have wB : IntKind.wrap .i64 (8 * ((left : Int) - (head : Int))) = (many : Int) := by rw [wrap64 (by omega) (by omega)]; omega
                  have t1' : -(many : Int) < xf.tmod many ∧ xf.tmod many < many := ⟨by have := Int.lt_tmod_of_pos xf (show (0 : Int) < many by omega); omega, Int.tmod_lt_of_pos xf (by omega)⟩
                  have wC : IntKind.wrap .i64 (xf.tmod many + many) = xf.tmod many + many := wrap64 (by omega) (by omega)
                  have t2' : 0 ≤ (xf.tmod many + many).tmod many ∧ (xf.tmod many + many).tmod many < many := ⟨Int.tmod_nonneg _ (by omega), Int.tmod_lt_of_pos _ (by omega)⟩
                  obtain ⟨fr, hfr⟩ := Int.eq_ofNat_of_zero_le t2'.1
                  have hfrm : fr < many := by omega
                  clear t1' t2'
                  have hwl : (P.take left).length = left := by simp; omega
                  have hgoal : ∀ g turned τ, Inv (P.take left) head fr (min 32 (many - fr)) (min 32 (many - fr)) (List.zipWith (· ^^^ ·) (P.take left) g) turned → g.length = P.length → (∀ c ∈ g, c < 256) → lk 5 τ = .ptr 0 0 → lk 7 τ = .ptr 1 0 → lk 10 τ = .own 6 (joined [] (allR M)).length 3 0 (joined [] (allR M)).length → lk 12 τ = .lit (.int .i64 (totB M)) → lk 13 τ = .lit (.int .i64 (blksB M).length) → lk 14 τ = .ptr 7 0 → lk 17 τ = .own 9 (joined [] (allR M2)).length 3 0 (joined [] (allR M2)).length → lk 19 τ = .own 10 (blksB M2).length 1 0 (blksB M2).length → lk 21 τ = .own 11 g.length 1 0 g.length → lk 22 τ = .lit (.bool turned) →
                      finK 0 [.tmp 6] (run E 0 recK τ [.box [.lit (.int .i64 left), .lit (.int .i64 xf), .lit (.int .u32 xb)], .box [.ptr 2 0, .own 4 (joined [] (allR M2)).length 3 0 (joined [] (allR M2)).length, .own 5 M2.length 2 0 M2.length, nilS], fileB (.own 3 (blksB M2).length 1 0 (blksB M2).length) (blksB M2).length 100000 false, .arr true false false 1 ((blksB M2).map encB), .arr true true false 3 ((joined [] (allR M2)).map encRun), .arr true false false 2 ((endsGo 0 0 M2).map encEnd), .arr true false false 3 ((joined [] (allR M)).map encRun), fileB (.own 8 (blksB M2).length 1 0 (blksB M2).length) (blksB M).length 100000 false, .arr true false false 1 ((blksB M2).map encB), .arr true false false 3 ((joined [] (allR M2)).map encRun), .arr true true false 1 ((blksB M2).map encB), .arr true false false 1 (g.map encB)]) = some (.lit (.bool true), []) := by
                    intro g turned τ hI hgl hgb u5 u7 u10 u12 u13 u14 u17 u19 u21 u22
                    have hcs := hcs g hgb (by omega) left (by omega) (by omega)
                    rw [hkp left hlp g (by omega)] at hcs
                    have hzl := hI.len
                    rw [hwl] at hzl
                    by_cases hwh : left = P.length ∧ turned = false
                    · obtain ⟨hw1, rfl⟩ := hwh
                      have hsame := hI.same rfl
                      rw [hw1, List.take_length] at hsame
                      rw [hw1, List.take_length, hsame, ← e1] at hcs
                      have hbb2 : (blksB M).length + P.length = (blksB M2).length := by omega
                      rw [hbb2] at hcs
                      have hsc := hspt
                      have hKb := hb2
                      have hKt : (blksB M2).take (blksB M2).length = blksB M2 := List.take_length
                      obtain ⟨K, hK⟩ : ∃ K, K = blksB M2 := ⟨_, rfl⟩
                      have hsc' : scanB K = (M2, (blksB M2).length, totB M2) := by rw [hK]; exact hspt
                      clear hsc
                      have hsc := hsc'
                      have hKt' : K.take (blksB M2).length = blksB M2 := by rw [hK]; exact hKt
                      clear hKt
                      have hKt := hKt'
                      have hKb : ∀ c ∈ K, c < 256 := by rw [hK]; exact hb2
                      have hKl : K.length = (blksB M).length + left := by rw [hK]; omega
                      have hgC := gopenC true K hKb (by omega) (blksB M).length 100000
                      have hoC := fopenC true K (by omega) (blksB M).length 100000
                      have hgo := gopen K.isEmpty K hKb (by omega) K.length 100000
                      rw [hsc] at hgo
                      simp only [] at hgo
                      rw [show min K.length (blksB M2).length = (blksB M2).length from by omega, hKt] at hgo
                      have hKi : ¬ K = [] ∨ K.isEmpty = true := by cases K <;> simp
                      have hqR := gruns true true false false M2 [] (fun h => nomatch h) (by by_cases q : M2 = []; rw [q]; simp [allR, joined]; omega) (fun q => k3) (blksB M2).length 100000 false
                      have hqT := gticks true true true false M2 [] (fun h => nomatch h) (by omega) (by simp) rfl htM2 (blksB M2).length 100000 false
                      have hqS := sureG true true true true M2 [] (fun h => nomatch h) (by omega) (blksB M2).length 100000 false
                      rw [sureOf_all] at hqS
                      have hqL := flen true true (blksB M2) (fun h => nomatch h) (blksB M2).length 100000 false
                      have Sm := same_spec (joined [] (allR M2)) (joined [] (allR M2)) (by omega) false false false false
                      rw [decide_eq_true rfl] at Sm
                      rw [show ((K.length : Int) - ((blksB M2).length : Int)) = 0 from by rw [hK]; omega] at hgo
                      rw [hK] at hgC hoC hgo
                      clear hsh htu hkp hst hspt hsc hKb hKt hKt' hsc' hKi hwl hI hsame hzl hfr wA wB wC
                      simp only [lG, lS, fH1, fH2, fF, fB, hMn, hM2n, hJn, hL, hW, if_true, if_false, Bool.true_eq_false, reduceIte, reduceCtorEq] at hFl hR hT hT1 hLn hO hA hR2 hT2 hB hOB S13 hOA hFl2 hcs hgC hoC hgo hqR hqT hqS hqL Sm ⊢
                      generalize joined [] (allR M2) = J2 at *
                      generalize blksB M2 = b2 at *
                      generalize totB M2 = T2 at *
                      generalize endsGo 0 0 M2 = es2 at *
                      generalize M2.length = nM2 at *
                      generalize joined [] (allR M) = J at *
                      generalize blksB M = bs at *
                      generalize totB M = T at *
                      generalize endsGo 0 0 M = es at *
                      generalize M.length = nM at *
                      generalize joined [] (allR L) = J0 at *
                      generalize blksB L = bs0 at *
                      generalize endsGo 0 0 L = es0 at *
                      generalize L.length = nL at *
                      simp [lG, lS, fH1, fH2, fF, fB, fileB, nilS, endE, encEnd, hL, hW, hMn, hie, show totB [] = 0 from rfl, show blksB [] = [] from rfl, show sumN [] = 0 from rfl, show allR [] = [] from rfl, show joined [] [] = [] from rfl, hM2n, hie2, hJn, hbn2, hgl] at hFl hR hT hT1 hLn hO hA hR2 hT2 hB hOB S13 hOA hFl2 hcs hgC hoC hgo hqR hqT hqS hqL Sm hct hcd u10 u17 u19 u21 ⊢
                      simp [go_sem, u5, u7, u10, u12, u13, u14, u17, u19, u21, u22, purse_eq, List.range_succ, hT2, hcs, hgC, hoC, hgo, hqR, hqT, hqS, hqL, Sm, w1', hw1, hgl, awake17, lG, lS, fH1, fH2, fF, fB, fileB, nilS, endE, encEnd, hL, hW, hMn, hie, show totB [] = 0 from rfl, show blksB [] = [] from rfl, show sumN [] = 0 from rfl, show allR [] = [] from rfl, show joined [] [] = [] from rfl, hM2n, hie2, hJn, hbn2, recK]
                    · have hbad : (getB (List.zipWith (· ^^^ ·) (P.take left) g)).2.2 ≠ 0 := by
                        by_cases hlt : left < P.length
                        · exact hsh _ (by omega) (by rw [hzl]; exact hI.front)
                        · have hle4 : left = P.length := by omega
                          have htt : turned = true := by cases turned with | true => rfl | false => exact absurd ⟨hle4, rfl⟩ hwh
                          have hPP : P.take left = P := by rw [hle4, List.take_length]
                          rw [htt] at hI
                          rw [hPP] at hI ⊢
                          rw [htu _ fr _ (by omega) hI (by omega)]
                          simp
                      have hsc := hst _ hbad
                      have hKb : ∀ c ∈ blksB M ++ List.zipWith (· ^^^ ·) (P.take left) g, c < 256 := fun c hc => by rcases List.mem_append.1 hc with h | h; exact hbb c h; exact hI.byte c h
                      have hKt : (blksB M ++ List.zipWith (· ^^^ ·) (P.take left) g).take (blksB M).length = blksB M := List.take_left
                      obtain ⟨K, hK⟩ : ∃ K, K = blksB M ++ List.zipWith (· ^^^ ·) (P.take left) g := ⟨_, rfl⟩
                      rw [← hK] at hcs hsc hKb hKt
                      have hKl : K.length = (blksB M).length + left := by rw [hK, List.length_append, hzl]
                      have hgC := gopenC true K hKb (by omega) (blksB M).length 100000
                      have hoC := fopenC true K (by omega) (blksB M).length 100000
                      have hgo := gopen K.isEmpty K hKb (by omega) K.length 100000
                      rw [hsc] at hgo
                      simp only [] at hgo
                      rw [show min K.length (blksB M).length = (blksB M).length from by omega, hKt] at hgo
                      have hKi : ¬ K = [] ∨ K.isEmpty = true := by cases K <;> simp
                      have hqR := gruns true true false false M [] (fun h => nomatch h) (by by_cases q : M = []; rw [q]; simp [allR, joined]; omega) (fun q => g3) (blksB M).length 100000 false
                      have hqT := gticks true true true false M [] (fun h => nomatch h) (by omega) (by simp) rfl htM (blksB M).length 100000 false
                      have hqS := sureG true true true true M [] (fun h => nomatch h) (by omega) (blksB M).length 100000 false
                      rw [sureOf_all] at hqS
                      have hqL := flen true true (blksB M) (fun h => nomatch h) (blksB M).length 100000 false
                      have Sm := same_spec (joined [] (allR M)) (joined [] (allR M)) (by omega) false false false false
                      rw [decide_eq_true rfl] at Sm
                      rw [show ((K.length : Int) - ((blksB M).length : Int)) = left from by omega] at hgo
                      have hlw : ¬ (left = P.length ∧ turned = false) := hwh
                      have hlw2 : left = P.length → turned = true := fun h => by cases turned with | true => rfl | false => exact absurd ⟨h, rfl⟩ hwh
                      simp only [← hKl] at hcs
                      clear hsh htu hkp hst hspt hbad hwl hKt hsc hKb hKi hI hzl hfr wA wB wC
                      simp only [lG, lS, fH1, fH2, fF, fB, hMn, hM2n, hJn, hL, hW, if_true, if_false, Bool.true_eq_false, reduceIte, reduceCtorEq] at hFl hR hT hT1 hLn hO hA hR2 hT2 hB hOB S13 hOA hFl2 hcs hgC hoC hgo hqR hqT hqS hqL Sm ⊢
                      generalize joined [] (allR M2) = J2 at *
                      generalize blksB M2 = b2 at *
                      generalize totB M2 = T2 at *
                      generalize endsGo 0 0 M2 = es2 at *
                      generalize M2.length = nM2 at *
                      generalize joined [] (allR M) = J at *
                      generalize blksB M = bs at *
                      generalize totB M = T at *
                      generalize endsGo 0 0 M = es at *
                      generalize M.length = nM at *
                      generalize joined [] (allR L) = J0 at *
                      generalize blksB L = bs0 at *
                      generalize endsGo 0 0 L = es0 at *
                      generalize L.length = nL at *
                      simp [lG, lS, fH1, fH2, fF, fB, fileB, nilS, endE, encEnd, hL, hW, hMn, hie, show totB [] = 0 from rfl, show blksB [] = [] from rfl, show sumN [] = 0 from rfl, show allR [] = [] from rfl, show joined [] [] = [] from rfl, hM2n, hie2, hJn, hbn2, hgl] at hFl hR hT hT1 hLn hO hA hR2 hT2 hB hOB S13 hOA hFl2 hcs hgC hoC hgo hqR hqT hqS hqL Sm hct hcd u10 u17 u19 u21 ⊢
                      by_cases hlq : left = P.length
                      · subst hlq
                        have htt := hlw2 rfl
                        subst htt
                        simp [go_sem, u5, u7, u10, u12, u13, u14, u17, u19, u21, u22, purse_eq, List.range_succ, hT2, hcs, hgC, hoC, hgo, hqR, hqT, hqS, hqL, Sm, w1', hgl, awake17, lG, lS, fH1, fH2, fF, fB, fileB, nilS, endE, encEnd, hL, hW, hMn, hie, show totB [] = 0 from rfl, show blksB [] = [] from rfl, show sumN [] = 0 from rfl, show allR [] = [] from rfl, show joined [] [] = [] from rfl, hM2n, hie2, hJn, hbn2, recK]
                      · have hlqi : ¬ (left : Int) = (P.length : Int) := by omega
                        simp [go_sem, u5, u7, u10, u12, u13, u14, u17, u19, u21, u22, purse_eq, List.range_succ, hT2, hcs, hgC, hoC, hgo, hqR, hqT, hqS, hqL, Sm, w1', hlqi, hgl, awake17, lG, lS, fH1, fH2, fF, fB, fileB, nilS, endE, encEnd, hL, hW, hMn, hie, show totB [] = 0 from rfl, show blksB [] = [] from rfl, show sumN [] = 0 from rfl, show allR [] = [] from rfl, show joined [] [] = [] from rfl, hM2n, hie2, hJn, hbn2, recK]
                  clear hcs hsh htu hkp hst hspt
                  simp only [lG, lS, fH1, fH2, fF, fB, hMn, hM2n, hJn, hL, hW, if_true, if_false, Bool.true_eq_false, reduceIte, reduceCtorEq] at hFl hR hT hT1 hLn hO hA hR2 hT2 hB hOB S13 hOA hFl2 hgoal ⊢
                  generalize joined [] (allR M2) = J2 at *
                  generalize blksB M2 = b2 at *
                  generalize totB M2 = T2 at *
                  generalize endsGo 0 0 M2 = es2 at *
                  generalize M2.length = nM2 at *
                  generalize joined [] (allR M) = J at *
                  generalize blksB M = bs at *
                  generalize totB M = T at *
                  generalize endsGo 0 0 M = es at *
                  generalize M.length = nM at *
                  generalize joined [] (allR L) = J0 at *
                  generalize blksB L = bs0 at *
                  generalize endsGo 0 0 L = es0 at *
                  generalize L.length = nL at *
                  simp [lG, lS, fH1, fH2, fF, fB, fileB, nilS, endE, encEnd, hL, hW, hMn, hie, show totB [] = 0 from rfl, show blksB [] = [] from rfl, show sumN [] = 0 from rfl, show allR [] = [] from rfl, show joined [] [] = [] from rfl, hM2n, hie2, hJn, hbn2] at hFl hR hT hT1 hLn hO hA hR2 hT2 hB hOB S13 hOA hFl2 hct hcd ⊢
                  rcases hcase with ⟨h127, rfl⟩ | ⟨h127, rfl⟩
                  · have h127i : (127 : Int) < (c : Int) := by omega
                    have hlh2 : ((2 : Int) < left) := by omega
                    simp at wA wB
                    simp [go_sem, t1, t5, t7, t8, purse_eq, List.range_succ, hFl, hR, hT, hT1, hLn, hO, hA, hR2, hT2, hB, hOB, S13, hOA, hFl2, hct, hcd, hle, hle2, hle3, w1', hr2, hx0, hx1, hx1n, hbg, encB, h127, hlh1, hlh2, hz1, hz2, h127i, wA, wB, wC, hm0, hm0', hfr, lG, lS, fH1, fH2, fF, fB, fileB, nilS, endE, encEnd, hL, hW, hMn, hie, show totB [] = 0 from rfl, show blksB [] = [] from rfl, show sumN [] = 0 from rfl, show allR [] = [] from rfl, show joined [] [] = [] from rfl, hM2n, hie2, hJn, hbn2]
                    rw [run_inLoop']
                    simp [go_sem, t5, t7, purse_eq, List.range_succ]
                    (try rw [hfr])
                    exact rec_loopB0 (P.take left) (by omega) _ _ xb hxb _ _ _ _ _ _ _ _ _ _ _ _ _ _ _ _ _ _ _ _ _ _ _ _ _ _ _ _ _ _ _ _ P.length 2 many fr (by omega) (fun c hc => hPb c (List.mem_of_mem_take hc)) (by omega) hfrm (by omega) _ _ hgoal
                  · have h127i : ¬ (127 : Int) < (c : Int) := by omega
                    have hlh2 : ((1 : Int) < left) := by omega
                    simp at wA wB
                    simp [go_sem, t1, t5, t7, t8, purse_eq, List.range_succ, hFl, hR, hT, hT1, hLn, hO, hA, hR2, hT2, hB, hOB, S13, hOA, hFl2, hct, hcd, hle, hle2, hle3, w1', hr2, hx0, hx1, hx1n, hbg, encB, h127, hlh1, hlh2, hz1, hz2, h127i, wA, wB, wC, hm0, hm0', hfr, lG, lS, fH1, fH2, fF, fB, fileB, nilS, endE, encEnd, hL, hW, hMn, hie, show totB [] = 0 from rfl, show blksB [] = [] from rfl, show sumN [] = 0 from rfl, show allR [] = [] from rfl, show joined [] [] = [] from rfl, hM2n, hie2, hJn, hbn2]
                    rw [run_inLoop']
                    simp [go_sem, t5, t7, purse_eq, List.range_succ]
                    (try rw [hfr])
                    exact rec_loopB0 (P.take left) (by omega) _ _ xb hxb _ _ _ _ _ _ _ _ _ _ _ _ _ _ _ _ _ _ _ _ _ _ _ _ _ _ _ _ _ _ _ _ P.length 1 many fr (by omega) (fun c hc => hPb c (List.mem_of_mem_take hc)) (by omega) hfrm (by omega) _ _ hgoal
            · have ha : appE M [] la = chk la := by unfold appE; rw [if_pos hcl]
              rw [if_neg hcl] at hCk
              rw [ha] at hA
              simp only [hcl, ne_eq, not_false_eq_true, if_true] at hA hCk
              simp only [lG, lS, fH1, fH2, fF, fB, hMn, hL, hW, if_true, if_false, Bool.true_eq_false, reduceIte, reduceCtorEq] at hFl hR hT hT1 hLn hO hA ⊢
              generalize joined [] (allR M) = J at *
              generalize blksB M = bs at *
              generalize totB M = T at *
              generalize endsGo 0 0 M = es at *
              generalize M.length = nM at *
              generalize joined [] (allR L) = J0 at *
              generalize blksB L = bs0 at *
              generalize endsGo 0 0 L = es0 at *
              generalize L.length = nL at *
              simp [lG, lS, fH1, fH2, fF, fB, fileB, nilS, endE, encEnd, hL, hW, hMn, hie, show totB [] = 0 from rfl, show blksB [] = [] from rfl, show sumN [] = 0 from rfl, show allR [] = [] from rfl, show joined [] [] = [] from rfl] at hFl hR hT hT1 hLn hO hA hCk ⊢
              simp [go_sem, t1, t5, t7, t8, purse_eq, List.range_succ, hFl, hR, hT, hT1, hLn, hO, hA, hCk, hcl, awake17, lG, lS, fH1, fH2, fF, fB, fileB, nilS, endE, encEnd, hL, hW, hMn, hie, show totB [] = 0 from rfl, show blksB [] = [] from rfl, show sumN [] = 0 from rfl, show allR [] = [] from rfl, show joined [] [] = [] from rfl]
    · have hf2' : fewR la = false := by simpa using hf2
      rw [hf2'] at hF2
      simp [go_sem, ir5, hF, hF2, awake17, purse_eq, List.range_succ]
  · have hf' : fewA l = false := by simpa using hf
    rw [hf'] at hF
    simp [go_sem, ir5, hF, awake17, purse_eq, List.range_succ]
end Go.AM.R1
open Go Go.AM Go.Proofs
namespace Go.AM.R1
section
variable {H : Type} {P : Program}
/-- A struct of three numbers. -/
theorem decV_i3 {n : Nat} {t : TypeId} {f1 f2 f3 : Field} {k1 k2 k3 : IntKind} (hu : P.underlying t = some (.struct #[f1, f2, f3])) (h1 : P.underlying f1.type = some (.int k1)) (h2 : P.underlying f2.type = some (.int k2)) (h3 : P.underlying f3.type = some (.int k3))
    {d : DataW H} {a : AVal} (h : DecV P (n + 2) t d a) : ∃ (x y z : Int), a = .agg [.lit (.int k1 x), .lit (.int k2 y), .lit (.int k3 z)] ∧ (Lit.int k1 x).wf = true ∧ (Lit.int k2 y).wf = true ∧ (Lit.int k3 z).wf = true := by
  unfold DecV at h
  rw [if_pos (by simp [isAggT, hu])] at h
  obtain ⟨cs, rfl, h⟩ := h
  rw [Dec, hu] at h
  obtain ⟨parts, ass, -, rfl, hf⟩ := h
  obtain ⟨p1, ps1, a1, as1, rfl, rfl, r1, hf⟩ := fieldsR_cons hf
  obtain ⟨p2, ps2, a2, as2, rfl, rfl, r2, hf⟩ := fieldsR_cons hf
  obtain ⟨p3, ps3, a3, as3, rfl, rfl, r3, hf⟩ := fieldsR_cons hf
  obtain ⟨rfl, rfl⟩ := fieldsR_nil hf
  simp only [Dec, h1] at r1
  simp only [Dec, h2] at r2
  simp only [Dec, h3] at r3
  obtain ⟨v1, -, w1, rfl⟩ := r1
  obtain ⟨v2, -, w2, rfl⟩ := r2
  obtain ⟨v3, -, w3, rfl⟩ := r3
  exact ⟨v1, v2, v3, rfl, w1, w2, w3⟩
end
end Go.AM.R1
open Go Go.AM Go.AM.R1 Go.Proofs
namespace Go.Proofs.Ytgolbdijmmeebaa
open Go.ChangeShapes Go.WideShapes Go.ChangeAt Go.RowKit
namespace logRecovers
theorem own : ownKnob Try.prog.godebug = none := by kernel_rfl
theorem laidOut : laidOutB Try.prog = true := by kernel_rfl
theorem mixed : Try.prog.follows .mixedOrders = true := by kernel_rfl
set_option maxRecDepth 100000 in
theorem contract (H : Type) (enc : TypeId × Value → H) (W : World) (base : Nat) (args : Array Value) (ds gs : List (DataW H)) (before : List MemPlace)
    (hval : ∀ (j : Nat) t v, Try.f5.params[j]? = some t → args[j]? = some v → Value.okWide Try.prog W .any base t v)
    (hW : DataW.Whole enc Try.prog Try.f5.params.toList Rows.logRecoversSpec.vars false W args.toList ds gs before) :
    Calls Try.prog 5 args W fun e W' => ∃ v, e = .returned v ∧ Rows.logRecoversSpec.post enc Try.prog Try.f5 false true false false W args v W' := by
  refine law_contract (id := 5) (f := Try.f5) (s := Rows.logRecoversSpec) (k := 7) (nargs := 3) (base := base) (ds := ds) (gs := gs) (before := before) mixed R1.hE laidOut ?e1 ?e2 (tb := 4) ?e3 Try.underlying4 ?e4 ?e5 ?e7 ?e8 ?e6
  case e7 => exact hval
  case e8 => exact hW
  case e1 => rfl
  case e3 => kernel_rfl
  case e4 => rw [Try.params5]; rfl
  · rw [Try.params5]; decide +kernel
  · intro ds h
    match ds, h with
    | [d1, d2, d3], _ => rfl
  · intro cs hA
    rw [Try.params5] at hA
    obtain ⟨d1, r1, a1, s1, rfl, rfl, h1, hA⟩ := decArgs_cons hA
    obtain ⟨d2, r2, a2, s2, rfl, rfl, h2, hA⟩ := decArgs_cons hA
    obtain ⟨d3, r3, a3, s3, rfl, rfl, h3, hA⟩ := decArgs_cons hA
    obtain ⟨rfl, rfl⟩ := decArgs_nil hA
    obtain ⟨nl, fu, l, rfl, hl, -⟩ := decV_acts (n := 2) Try.underlying44 Try.underlying59 Try.underlying25 ⟨_, _, _, Try.underlying42, Try.underlying3, Try.underlying3, Try.underlying40⟩ h1
    obtain ⟨nm, fm, la, rfl, hla⟩ := dec_runs (n := 4) Try.underlying25 ⟨_, _, _, Try.underlying42, Try.underlying3, Try.underlying3, Try.underlying40⟩ h2
    obtain ⟨xl, xf, xb, rfl, w1, w2, w3⟩ := decV_i3 (n := 5) Try.underlying72 Try.underlying3 Try.underlying3 Try.underlying40 h3
    obtain ⟨n, hn⟩ := (call_iff R1.E).1 (logRecovers_spec l hl nl fu la hla nm fm xl xf xb (wf64 w1) (wf64 w2) (wfu32 w3))
    exact ⟨n, _, hn⟩

set_option maxRecDepth 100000 in
theorem lifted (os : Os) (started : os.Started) (H : Type) (enc : TypeId × Value → H) :
    ReturnsInHanded {} Try.checked os 5 .any (Rows.logRecoversSpec.pre6 enc Try.prog Try.f5 Rows.logRecoversRow.domain false) (Rows.logRecoversSpec.post enc Try.prog Try.f5 false true false false) := by
  refine returnsInHanded_of_change (C := Try.checked) own started (by kernel_rfl) Try.func5
    (ChangeSpec.witness6 (enc := enc) (C := Try.checked) false ⟨#[], #[.slice none 0 0, .slice none 0 0, .agg #[.int .i64 0, .int .i64 0, .int .u32 0]], []⟩ 8 (by kernel_rfl) (by kernel_rfl) (by kernel_rfl) (by kernel_rfl)) ?_
  intro W base args ds gs before hval hW _ _
  exact contract H enc W base args ds gs before hval hW

theorem proved : Rows.LogRecoversSaid :=
  OpenClaim.holds_of_wide 5 Try.f5 rfl rfl rfl rfl rfl rfl rfl ⟨rfl, rfl, rfl, rfl, rfl⟩ rfl rfl rfl rfl rfl (by kernel_rfl) Try.func5 (by kernel_rfl)
    (of_decide_eq_true (by kernel_rfl)) (by unfold Func.isWrapper; first | (rw [if_pos (by decide +kernel)]; kernel_rfl) | (rw [if_neg (by decide +kernel)]; exact ⟨rfl, rfl⟩))
    (fun os started H enc _ => lifted os started H enc)
end logRecovers
theorem logRecoversProved : Rows.LogRecoversSaid := logRecovers.proved
end Go.Proofs.Ytgolbdijmmeebaa
