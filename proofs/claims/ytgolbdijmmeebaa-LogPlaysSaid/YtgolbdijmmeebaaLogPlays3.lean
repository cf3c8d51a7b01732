/- The law LogPlays of package magnetolaw17 returns true for every input, and its arguments read as before. -/
import Derived.Test.YtgolbdijmmeebaaLogPlays2
import Derived.ProofKit
set_option linter.unusedVariables false
set_option linter.unusedSimpArgs false
open Go Go.AM
namespace Go.AM.R1

/-! ### What an act does -/
theorem gdoes0 (fo ff lw lq : Bool) (L) (hfo : fo = false → L = []) (sure most) (nl fu : Bool) : call E (.func (.func 22) [] []) [.ptr 0 0, .agg [.imm nl fu true []]] (lS fo ff lw lq L [] sure most false)
    = some (.lit (.int .i64 0), lS fo ff lw lq L [] (blksB L).length most false) := by
  rw [call_func E E22]
  have h := gflush0 fo ff lw lq L hfo sure most false
  simp only [Bool.false_eq_true, if_false] at h
  by_cases hL : L = []
  · cases fo <;> simp [lS, hL, fileB, nilS] at h <;> simp [go_sem, ir22, lS, hL, h, fileB, nilS, purse_eq, List.range_succ]
  · have := foT hfo hL
    subst this
    simp [lS, hL, fileB, nilS] at h
    simp [go_sem, ir22, lS, hL, h, fileB, nilS, purse_eq, List.range_succ]
theorem gdoesF (fo ff lw lq : Bool) (L W) (hfo : fo = false → L = []) (hW : W ≠ []) (hc : chkB (totB L) W = 0) (hj : joined [] W = W) (hd : ∀ r ∈ W, 0 ≤ r.Drive ∧ r.Drive ≤ 4294967295) (ht : 0 ≤ totB L ∧ totB L ≤ 1073741824)
    (hg : L ≠ [] → chk (allR L) = 0 ∧ (joined [] (allR L)).length ≤ 500000 ∧ joined [] (allR L) ≠ [] ∧ L.length ≤ 500000) (hb : (blksB L).length ≤ 900000) (sure : Nat) (most : Int) (hm : 0 ≤ most ∧ most ≤ 67108864) (nl fu : Bool) :
    call E (.func (.func 22) [] []) [.ptr 0 0, .agg [.imm nl fu true []]] (lS fo ff lw lq L W sure most false)
      = some (if most < ((blksB L).length : Int) + (putBk (totB L, W)).length then (.lit (.int .i64 15), lS fo ff lw true L W sure most false) else (.lit (.int .i64 0), flH fo lw L W most)) := by
  rw [call_func E E22]
  have h := gflush fo ff lw lq L W hfo hW hc hj hd ht hg hb sure most hm false
  simp only [Bool.false_eq_true, if_false] at h
  by_cases h4 : most < ((blksB L).length : Int) + (putBk (totB L, W)).length
  · simp only [h4, if_true] at h ⊢
    by_cases hL : L = []
    · cases fo <;> simp [lS, hL, hW, fileB, nilS] at h <;> simp [go_sem, ir22, lS, hL, hW, h, fileB, nilS, purse_eq, List.range_succ]
    · have := foT hfo hL
      subst this
      simp [lS, hL, hW, fileB, nilS] at h
      simp [go_sem, ir22, lS, hL, hW, h, fileB, nilS, purse_eq, List.range_succ]
  · simp only [h4, if_false] at h ⊢
    by_cases hL : L = []
    · subst hL
      cases fo <;> simp [lS, flH, hW, fileB, nilS] at h <;> simp [go_sem, ir22, lS, flH, hW, h, fileB, nilS, purse_eq, List.range_succ]
    · have := foT hfo hL
      subst this
      simp [lS, flH, hL, hW, fileB, nilS] at h
      simp [go_sem, ir22, lS, flH, hL, hW, h, fileB, nilS, purse_eq, List.range_succ]
theorem gdoesA (fo ff lw lq : Bool) (L) (W r : List Run) (hr : r ≠ []) (hfo : fo = false → L = []) (hlL : L.length ≤ 1000000) (hlW : W.length ≤ 4096) (hcW : chk W = 0) (ht : 0 ≤ totB L ∧ totB L ≤ 1073741824) (hlr : r.length ≤ 900000) (hok : ∀ x ∈ r, x.Ok) (sure most) (nl fu : Bool) :
    call E (.func (.func 22) [] []) [.ptr 0 0, .agg [.imm nl fu true (r.map encRun)]] (lS fo ff lw lq L W sure most false)
      = some (.lit (.int .i64 (appE L W r)), if chk r ≠ 0 then lS fo ff lw lq L W sure most false else if appE L W r ≠ 0 then lS fo ff lw true L W sure most false else if W = [] then lS fo ff lw false L (joined [] (W ++ r)) sure most false else lSJ fo ff lw L W (joined [] (W ++ r)) sure most false) := by
  rw [call_func E E22]
  have h := gappend fo ff lw lq L W r hfo hlL hlW hcW ht hlr hok sure most false nl fu
  have hJ : chk r = 0 → joined [] (W ++ r) ≠ [] := fun hc => joined_ne (fun x hx => ((sum_joined hcW hc).2 x hx).1) (by simp [hr])
  have hp : r.length ≠ 0 := fun q => hr (List.length_eq_zero_iff.1 q)
  by_cases hc : chk r = 0
  · have hJ := hJ hc
    by_cases ha : appE L W r = 0
    · generalize appE L W r = a at h ha ⊢
      subst ha
      by_cases hW : W = []
      · simp only [hc, hW, ne_eq, not_true_eq_false, if_false, if_true] at h hJ ⊢
        generalize joined [] ([] ++ r) = Q at *
        by_cases hL : L = []
        · cases fo <;> simp [lS, hL, hJ, fileB, nilS] at h <;> simp [go_sem, ir22, lS, hL, hJ, hr, hp, h, fileB, nilS, purse_eq, List.range_succ]
        · have := foT hfo hL
          subst this
          simp [lS, hL, hJ, fileB, nilS] at h
          simp [go_sem, ir22, lS, hL, hJ, hr, hp, h, fileB, nilS, purse_eq, List.range_succ]
      · simp only [hc, hW, ne_eq, not_true_eq_false, if_false, if_true] at h hJ ⊢
        generalize joined [] (W ++ r) = Q at *
        by_cases hL : L = []
        · cases fo <;> simp [lS, lSJ, hL, hW, hJ, fileB, nilS] at h <;> simp [go_sem, ir22, lS, lSJ, hL, hW, hJ, hr, hp, h, fileB, nilS, purse_eq, List.range_succ]
        · have := foT hfo hL
          subst this
          simp [lS, lSJ, hL, hW, hJ, fileB, nilS] at h
          simp [go_sem, ir22, lS, lSJ, hL, hW, hJ, hr, hp, h, fileB, nilS, purse_eq, List.range_succ]
    · generalize appE L W r = a at *
      simp only [hc, ha, ne_eq, not_true_eq_false, not_false_eq_true, if_false, if_true] at h ⊢
      by_cases hL : L = []
      · by_cases hW : W = []
        · cases fo <;> simp [lS, hL, hW, fileB, nilS] at h <;> simp [go_sem, ir22, lS, hL, hW, hr, hp, h, fileB, nilS, purse_eq, List.range_succ]
        · cases fo <;> simp [lS, hL, hW, fileB, nilS] at h <;> simp [go_sem, ir22, lS, hL, hW, hr, hp, h, fileB, nilS, purse_eq, List.range_succ]
      · have := foT hfo hL
        subst this
        by_cases hW : W = []
        · simp [lS, hL, hW, fileB, nilS] at h
          simp [go_sem, ir22, lS, hL, hW, hr, hp, h, fileB, nilS, purse_eq, List.range_succ]
        · simp [lS, hL, hW, fileB, nilS] at h
          simp [go_sem, ir22, lS, hL, hW, hr, hp, h, fileB, nilS, purse_eq, List.range_succ]
  · generalize appE L W r = a at *
    simp only [hc, ne_eq, not_true_eq_false, not_false_eq_true, if_false, if_true] at h ⊢
    by_cases hL : L = []
    · by_cases hW : W = []
      · cases fo <;> simp [lS, hL, hW, fileB, nilS] at h <;> simp [go_sem, ir22, lS, hL, hW, hr, hp, h, fileB, nilS, purse_eq, List.range_succ]
      · cases fo <;> simp [lS, hL, hW, fileB, nilS] at h <;> simp [go_sem, ir22, lS, hL, hW, hr, hp, h, fileB, nilS, purse_eq, List.range_succ]
    · have := foT hfo hL
      subst this
      by_cases hW : W = []
      · simp [lS, hL, hW, fileB, nilS] at h
        simp [go_sem, ir22, lS, hL, hW, hr, hp, h, fileB, nilS, purse_eq, List.range_succ]
      · simp [lS, hL, hW, fileB, nilS] at h
        simp [go_sem, ir22, lS, hL, hW, hr, hp, h, fileB, nilS, purse_eq, List.range_succ]
end Go.AM.R1
open Go Go.AM
namespace Go.AM.R1

/-! ### What holds at each act -/
structure FInv (most : Int) (i : Nat) (L : List Bk) (W : List Run) : Prop where
  good : Good 0 L
  ck : chk W = 0
  jo : joined [] W = W
  dr : ∀ r ∈ W, 0 ≤ r.Drive ∧ r.Drive ≤ 4294967295
  ln : W.length ≤ 12 * i
  su : totB L + sumN W ≤ 12000000 * i
  bs : ((blksB L).length : Int) ≤ most
theorem FInv.tot {most i L W} (h : FInv most i L W) : 0 ≤ totB L ∧ totB L ≤ 1073741824 := by
  have := good_tot L 0 (by omega) (by omega) h.good
  omega
theorem FInv.sum {most i L W} (h : FInv most i L W) : 0 ≤ sumN W ∧ sumN W ≤ 1073741824 := (chk_right h.ck).2
theorem FInv.pos {most i L W} (h : FInv most i L W) (hW : W ≠ []) : 0 < sumN W := by
  cases W with
  | nil => exact absurd rfl hW
  | cons x xs =>
    have h1 := (chk_right h.ck).1 x (by simp)
    have h4 := expand_length xs (fun y hy => by have := (chk_right h.ck).1 y (by simp [hy]); omega)
    rw [show sumN (x :: xs) = x.N + sumN xs from rfl]
    omega
theorem FInv.chkB {most i L W} (h : FInv most i L W) (hi : i ≤ 85) (hW : W ≠ []) : chkB (totB L) W = 0 := by
  have h1 := h.tot
  have h2 := h.sum
  have h3 := h.ln
  have h4 := h.su
  have hdup : dup W = false := tidy_dup17 (chk_all h.ck) (by have := tidy_joined W [] ⟨by simp, by simp⟩; rwa [h.jo] at this)
  unfold R1.chkB
  rw [if_neg (by omega), if_neg hW, if_neg (by omega), if_neg (by simp [h.ck]), if_neg (by simp [hdup]), if_neg (by omega)]
theorem FInv.succ {most i L W} (h : FInv most i L W) : FInv most (i + 1) L W := by
  have h3 := h.ln
  have h4 := h.su
  exact ⟨h.good, h.ck, h.jo, h.dr, by omega, by omega, h.bs⟩
theorem FInv.flush {most i L W} (h : FInv most i L W) (hi : i ≤ 85) (hW : W ≠ []) (hm : ¬ most < ((blksB L).length : Int) + (putBk (totB L, W)).length) : FInv most (i + 1) (L ++ [(totB L, W)]) [] := by
  have h4 := h.su
  have hc := h.chkB hi hW
  refine ⟨(good_append L _ 0).2 ⟨h.good, ?_⟩, rfl, rfl, by simp, by simp, ?_, ?_⟩
  · simp only [Int.zero_add]
    exact ⟨rfl, hc, h.dr, trivial⟩
  · rw [totB_append]
    simp [totB, sumN]
    omega
  · rw [blksB_append, List.length_append]
    rw [show blksB [(totB L, W)] = putBk (totB L, W) from by simp [blksB]]
    omega
theorem FInv.app {most i L W} (h : FInv most i L W) (hi : i < 85) {r : List Run} (hr : chk r = 0) (hl : r.length ≤ 12) (hn : ∀ x ∈ r, x.N ≤ 1000000) (hf : ∀ x ∈ r, x.Fit) : FInv most (i + 1) L (joined [] (W ++ r)) ∧ appE L W r = 0 := by
  have h3 := h.ln
  have h4 := h.su
  obtain ⟨h5, h6⟩ := sum_joined h.ck hr
  have hps := posSum_le r 1000000 (by omega) hn
  have hpr := posSum_of_right r (fun x hx => by have := h6 x (by simp [hx]); omega)
  have hjl := joined_length (W ++ r) []
  simp at hjl
  have hsr := (chk_right hr).2
  have hsw := h.sum
  have ht := h.tot
  have hc : chk (W ++ r) = 0 := by
    unfold chk
    rw [if_pos (by rw [List.all_append, chk_all_right h.ck, chk_all_right hr]; rfl), if_neg (by rw [sumN_append]; omega)]
  refine ⟨⟨h.good, (joined_chk hc).1, joined_self _, joined_drive ?_, by omega, by omega, h.bs⟩, ?_⟩
  · intro x hx
    rcases List.mem_append.1 hx with q | q
    · exact h.dr x q
    · exact (hf x q).2.2
  · unfold appE
    rw [if_neg (by simp [hr]), if_neg (by omega)]
theorem good_byte : ∀ (l : List Bk) (t : Int), Good t l → ∀ c ∈ blksB l, c < 256
  | [], _, _ => by simp [blksB]
  | x :: l, t, g => by
    intro c hc
    rw [blksB_cons] at hc
    rcases List.mem_append.1 hc with h | h
    · obtain ⟨h1, h2, h3, h4, h5, h6⟩ := chkB_ok g.2.1
      have hn := nums_bytes g.2.1
      exact wholeB_byte (numsN x.1 x.2) (fun n hn => by have := nums_lt h1 h3 (chk_right h4).1 n hn; omega) (by omega) c h
    · exact good_byte l _ g.2.2.2 c h
theorem chk_not15 (r : List Run) : chk r ≠ 15 := by
  unfold chk
  split
  · split <;> omega
  · omega
end Go.AM.R1
open Go Go.AM
namespace Go.AM.R1
/-! ### What was appended, and what there is -/
theorem joined_of_expand {l m : List Run} (h : expand l = expand m) : joined [] l = joined [] m := by
  rw [← joined_expand l, ← joined_expand m, h]
structure BInv (i : Nat) (L : List Bk) (W A : List Run) : Prop where
  fi : FInv 100000 i L W
  nb : (blksB L).length ≤ 20 * L.length + 10 * (allR L).length
  nl : L.length ≤ i
  nr : (allR L).length + W.length ≤ 12 * i
  ca : chk A = 0
  la : A.length ≤ 12 * i
  ex : expand A = expand (allR L ++ W)
  su : sumN A = totB L + sumN W
theorem BInv.succ {i L W A} (h : BInv i L W A) : BInv (i + 1) L W A := by
  obtain ⟨h1, h2, h3, h4, h5, h6, h7, h8⟩ := h
  exact ⟨h1.succ, h2, by omega, by omega, h5, by omega, h7, h8⟩
theorem putBk_len10 {x : Bk} (h : chkB x.1 x.2 = 0) : (putBk x).length ≤ 20 + 10 * x.2.length := by
  obtain ⟨h1, h2, h3, h4, h5, h6⟩ := chkB_ok h
  have := bytes_len5 (numsN x.1 x.2) (nums_lt h1 h3 (chk_right h4).1)
  have e : (numsN x.1 x.2).length = 2 * x.2.length + 2 := by simp only [numsN, List.length_cons, runN_length]
  have h7 := whole_len (numsN x.1 x.2)
  have h8 := putN_len64 (n := (bytesN (numsN x.1 x.2)).length) (by omega)
  have hp : (putN (bytesN (numsN x.1 x.2)).length).length ≤ 6 := by
    have := putN_length 4 (bytesN (numsN x.1 x.2)).length (by omega)
    omega
  rw [show putBk x = wholeB (numsN x.1 x.2) from rfl]
  omega
theorem BInv.room {i L W A} (h : BInv i L W A) (hi : i ≤ 85) (hW : W ≠ []) : ¬ (100000 : Int) < ((blksB L).length : Int) + (putBk (totB L, W)).length := by
  have h1 := putBk_len10 (x := (totB L, W)) (h.fi.chkB hi hW)
  have h2 := h.nb
  have h3 := h.nl
  have h4 := h.nr
  simp only [] at h1
  omega
theorem BInv.flush {i L W A} (h : BInv i L W A) (hi : i ≤ 85) (hW : W ≠ []) : BInv (i + 1) (L ++ [(totB L, W)]) [] A := by
  have h1 := putBk_len10 (x := (totB L, W)) (h.fi.chkB hi hW)
  have h2 := h.nb
  have h3 := h.nl
  have h4 := h.nr
  have h6 := h.la
  have e : allR (L ++ [(totB L, W)]) = allR L ++ W := by simp [allR]
  refine ⟨h.fi.flush hi hW (h.room hi hW), ?_, by simp; omega, ?_, h.ca, by omega, ?_, ?_⟩
  · rw [e, blksB_append, List.length_append, List.length_append, List.length_append, show blksB [(totB L, W)] = putBk (totB L, W) from by simp [blksB]]
    simp only [List.length_cons, List.length_nil] at *
    omega
  · rw [e]; simp; omega
  · rw [e, List.append_nil]; exact h.ex
  · rw [totB_append, h.su]; simp [totB, sumN]
theorem BInv.app {i L W A} (h : BInv i L W A) (hi : i < 85) {r : List Run} (hr : chk r = 0) (hl : r.length ≤ 12) (hn : ∀ x ∈ r, x.N ≤ 1000000) (hf : ∀ x ∈ r, x.Fit) : BInv (i + 1) L (joined [] (W ++ r)) (A ++ r) ∧ appE L W r = 0 := by
  obtain ⟨f1, f2⟩ := h.fi.app hi hr hl hn hf
  have h3 := h.nl
  have h4 := h.nr
  have h6 := h.la
  have hsu := h.su
  have hfs := f1.su
  obtain ⟨h5, h5'⟩ := sum_joined h.fi.ck hr
  have hjl := joined_length (W ++ r) []
  simp at hjl
  have ht := h.fi.tot
  have hc : chk (W ++ r) = 0 := by
    unfold chk
    rw [if_pos (by rw [List.all_append, chk_all_right h.fi.ck, chk_all_right hr]; rfl), if_neg (by rw [sumN_append]; omega)]
  refine ⟨⟨f1, h.nb, by omega, by omega, ?_, by simp; omega, ?_, ?_⟩, f2⟩
  · unfold chk
    rw [if_pos (by rw [List.all_append, chk_all_right h.ca, chk_all_right hr]; rfl), if_neg (by rw [sumN_append]; omega)]
  · rw [expand_append, h.ex, expand_append, expand_append, (joined_chk hc).2.2, expand_append, List.append_assoc]
  · rw [sumN_append]; omega
end Go.AM.R1
open Go Go.AM
namespace Go.AM.R1
def lG (ff lw lq : Bool) (L : List Bk) (W : List Run) (most : Int) : Heap := if L = [] then lS false false false lq [] W 0 most false else lS true ff lw lq L W (blksB L).length most false
def ixP (L : List Bk) (W : List Run) : Nat := if L = [] then (if W = [] then 2 else 3) else (if W = [] then 5 else 6)
/-- The document's log from a place of the heap on. -/
def rSn (n : Nat) (so fa fz lq : Bool) (L : List Bk) (W : List Run) (most : Int) : Heap :=
  if L = [] then
    (if so = false then (if W = [] then [.box [.ptr (n + 1) 0, nilS, nilS], .box [.lit (.int .i64 most), nilS, nilS, .lit (.bool false)]] else [.box [.ptr (n + 1) 0, nilS, .own (n + 2) W.length 3 0 W.length], .box [.lit (.int .i64 most), nilS, nilS, .lit (.bool false)], .arr true lq false 3 (W.map encRun)])
     else (if W = [] then [.box [.ptr (n + 1) 0, nilS, nilS], .box [.lit (.int .i64 most), .own (n + 2) 0 1 0 0, nilS, .lit (.bool false)], .arr true false fa 1 []] else [.box [.ptr (n + 1) 0, nilS, .own (n + 3) W.length 3 0 W.length], .box [.lit (.int .i64 most), .own (n + 2) 0 1 0 0, nilS, .lit (.bool false)], .arr true false fa 1 [], .arr true lq false 3 (W.map encRun)]))
  else (if W = [] then [.box [.ptr (n + 1) 0, .own (n + 3) L.length 2 0 L.length, nilS], .box [.lit (.int .i64 most), .own (n + 2) (blksB L).length 1 0 (blksB L).length, nilS, .lit (.bool false)], .arr true false fa 1 ((blksB L).map encB), .arr true fz false 2 (L.map encBk)]
    else [.box [.ptr (n + 1) 0, .own (n + 3) L.length 2 0 L.length, .own (n + 4) W.length 3 0 W.length], .box [.lit (.int .i64 most), .own (n + 2) (blksB L).length 1 0 (blksB L).length, nilS, .lit (.bool false)], .arr true false fa 1 ((blksB L).map encB), .arr true fz false 2 (L.map encBk), .arr true lq false 3 (W.map encRun)])
set_option maxHeartbeats 8000000 in
theorem plays_A0f (ff lw lq fa fz lr : Bool) (most : Int) (hm : 1 ≤ most ∧ most ≤ 1000) (l : List RowV) (nl fu : Bool) (hl4 : l.length ≤ 40) (hfew : ∀ r ∈ l, fewR r.l = true) (hfit : ∀ r ∈ l, r.Fit) (i : Nat) (hi : i < l.length) (v : FInv most i ([] : List Bk) ([] : List Run)) (k : List Item) (Q : Option (AVal × Heap))
    (ih : ∀ L' W' ff lw lq so fa fz lr, (L' ≠ [] → so = true) → FInv most (i + 1) L' W' → finK 0 [.tmp 4] (run E 0 (.code L4_0 :: .inLoop [1000000, 1, 5, 6, 7, 8] L4_0 :: .inBlock 0 :: k) [(1, .imm nl fu true (l.map encRow)), (5, .ptr 0 0), (6, .ptr 1 0), (7, .ptr (ixP L' W') 0), (8, .lit (.int .i64 ((i + 1 : Nat) : Int)))] (lG ff lw lq L' W' most ++ rSn (ixP L' W') so fa fz lr L' W' most)) = Q) :
    finK 0 [.tmp 4] (run E 0 (.code L4_0 :: .inLoop [1000000, 1, 5, 6, 7, 8] L4_0 :: .inBlock 0 :: k) [(1, .imm nl fu true (l.map encRow)), (5, .ptr 0 0), (6, .ptr 1 0), (7, .ptr (ixP ([] : List Bk) ([] : List Run)) 0), (8, .lit (.int .i64 i))] (lG ff lw lq ([] : List Bk) ([] : List Run) most ++ rSn (ixP ([] : List Bk) ([] : List Run)) false fa fz lr ([] : List Bk) ([] : List Run) most)) = Q := by
  have hfo : false = false → ([] : List Bk) = [] := (fun _ => rfl)
  have hso : ([] : List Bk) ≠ [] → false = true := (fun h => absurd rfl h)
  have hb := v.bs
  have hln := v.ln
  have ht := v.tot
  have hsW := v.sum
  have wi := wrapIdx (i := i) (by omega)
  have hg := acc_facts v.good (by omega)
  have hgd := v.good
  have hlL : ([] : List Bk).length ≤ 1000000 := by simp
  have hbl : (blksB []).length ≤ 900000 := by simp [blksB]
  have hlW : ([] : List Run).length ≤ 4096 := by simp
  have hgi : (l.map encRow)[i]? = some (encRow l[i]) := by simp [List.getElem?_eq_getElem hi]
  have hmem := List.getElem_mem hi
  have hw := hfew _ hmem
  have hf0 := hfit _ hmem
  have hr : encRow l[i] = [.imm l[i].nl l[i].fu true (l[i].l.map encRun)] := rfl
  generalize l[i].nl = rn at *
  generalize l[i].fu = rf at *
  by_cases he : l[i].l = []
  · rw [he] at hr
    have D := gdoes0 false false false lq ([] : List Bk) hfo 0 most rn rf
    have R := pflush0 false fa fz lr ([] : List Bk) hso hgd (by omega) most
    have ih := ih ([] : List Bk) [] false false true true true fz true (fun _ => rfl) v.succ
    have hlL1 : ([] : List Bk).length ≤ 1000000 := hlL
    have hbl1 : (blksB ([] : List Bk)).length ≤ 900000 := hbl
    have pT := gticks false false false lq ([] : List Bk) ([] : List Run) (fun _ => rfl) hlL1 (by simp) rfl ht 0 most false
    have pS := gsure0 true ([] : List Run) most false
    have pN := gblocks false false false true ([] : List Bk) ([] : List Run) (fun _ => rfl) hlL1 0 most false
    have pB := fbytes false false (blksB ([] : List Bk)) (by omega) 0 most false
    have rA := rfall true true (blksB ([] : List Bk)) (fun h => nomatch h) (by omega) most
    have rW := pwritten true true fz lr ([] : List Bk) ([] : List Run) (fun _ => rfl) hgd hlL1 most
    have rS1 := psure true true fz true ([] : List Bk) ([] : List Run) (fun _ => rfl) hgd (by omega) most
    have rS2 := psure true true fz lr ([] : List Bk) ([] : List Run) (fun _ => rfl) hgd (by omega) most
    have rC := count_spec [] (by simp) (fun x hx => by have := (chk_right rfl).1 x hx; omega) true true
    have Sm := same13_spec (blksB ([] : List Bk)) (blksB ([] : List Bk)) (by omega) true true false true
    rw [decide_eq_true rfl] at Sm
    have wT : IntKind.wrap .i64 (totB ([] : List Bk) + sumN []) = totB ([] : List Bk) + sumN [] := wrap64 (by simp [sumN, totB]) (by simp [sumN, totB])
    simp [lG, lS, rSn, ixP, rS, rSA, rSB, rF, fF, fB, fileB, nilS, endE, encEnd, show totB [] = 0 from rfl, show blksB [] = [] from rfl, show sumN [] = 0 from rfl, pf0] at D R ih wT pT pS pN pB rA rW rS1 rS2 rC Sm
    simp [go_sem, run_codeL E L4_0.eq_1, hi, hgi, hr, wi, purse_eq, List.range_succ, D, R, wT, pT, pS, pN, pB, rA, rW, rS1, rS2, rC, Sm, lG, lS, rSn, ixP, rS, rSA, rSB, rF, fF, fB, fileB, nilS, endE, encEnd, show totB [] = 0 from rfl, show blksB [] = [] from rfl, show sumN [] = 0 from rfl]
    rw [run_inLoop']
    simp [go_sem, purse_eq, List.range_succ]
    exact ih
  · have hl12 : l[i].l.length ≤ 12 := by simp [fewR] at hw; exact hw.1
    have hn : ∀ x ∈ l[i].l, x.N ≤ 1000000 := by simp [fewR] at hw; exact hw.2
    have hok : ∀ x ∈ l[i].l, x.Ok := fun x hx => (hf0.1 x hx).ok
    have D := gdoesA false false false lq ([] : List Bk) ([] : List Run) l[i].l he hfo hlL hlW v.ck ht (by omega) hok 0 most rn rf
    have R := pappend false fa fz lr ([] : List Bk) ([] : List Run) l[i].l he hso hgd hlL hlW v.ck ht (by omega) hok (fun hc => (v.app (by omega) hc hl12 hn hf0.1).2) most rn rf
    by_cases hc : chk l[i].l = 0
    · obtain ⟨v2, ha⟩ := v.app (by omega) hc hl12 hn hf0.1
      have hln2 := v2.ln
      have hs2 := v2.sum
      have hck2 := v2.ck
      have hJn : joined [] (([] : List Run) ++ l[i].l) ≠ [] := joined_ne (fun x hx => ((sum_joined v.ck hc).2 x hx).1) (by simp [he])
      have ih := ih ([] : List Bk) (joined [] (([] : List Run) ++ l[i].l)) false false true false fa fz true hso v2
      simp only [ha, hc, ne_eq, not_true_eq_false, if_false, if_true] at D R
      have hlL1 : ([] : List Bk).length ≤ 1000000 := hlL
      have hbl1 : (blksB ([] : List Bk)).length ≤ 900000 := hbl
      have pT := gticks false false false false ([] : List Bk) (joined [] (([] : List Run) ++ l[i].l)) (fun _ => rfl) hlL1 (by omega) hck2 ht 0 most false
      have pS := gsure0 true (joined [] (([] : List Run) ++ l[i].l)) most false
      have pN := gblocks false false false true ([] : List Bk) (joined [] (([] : List Run) ++ l[i].l)) (fun _ => rfl) hlL1 0 most false
      have pB := fbytes false false (blksB ([] : List Bk)) (by omega) 0 most false
      have rA := rfall false fa (blksB ([] : List Bk)) (fun _ => rfl) (by omega) most
      have rW := pwritten false fa fz true ([] : List Bk) (joined [] (([] : List Run) ++ l[i].l)) (fun h => absurd rfl h) hgd hlL1 most
      have rS1 := psure false fa fz true ([] : List Bk) (joined [] (([] : List Run) ++ l[i].l)) (fun h => absurd rfl h) hgd (by omega) most
      have rS2 := psure false fa fz true ([] : List Bk) (joined [] (([] : List Run) ++ l[i].l)) (fun h => absurd rfl h) hgd (by omega) most
      have rC := count_spec (joined [] (([] : List Run) ++ l[i].l)) (by omega) (fun x hx => by have := (chk_right hck2).1 x hx; omega) false false
      have Sm := same13_spec (blksB ([] : List Bk)) (blksB ([] : List Bk)) (by omega) true true false true
      rw [decide_eq_true rfl] at Sm
      have wT : IntKind.wrap .i64 (totB ([] : List Bk) + sumN (joined [] (([] : List Run) ++ l[i].l))) = totB ([] : List Bk) + sumN (joined [] (([] : List Run) ++ l[i].l)) := wrap64 (by omega) (by omega)
      generalize joined [] (([] : List Run) ++ l[i].l) = Z at *
      generalize sumN Z = sz at *
      simp only [lG, lS, lSJ, rS, rSJ, hJn, if_true, if_false, Bool.true_eq_false, reduceIte, reduceCtorEq] at D R pT pS pN rW rS1 rS2 ih ⊢
      generalize l[i].l = r at *
      simp [lG, lS, rSn, ixP, rS, rSA, rSB, rF, fF, fB, fileB, nilS, endE, encEnd, show totB [] = 0 from rfl, show blksB [] = [] from rfl, show sumN [] = 0 from rfl, lSJ, rSJ, hJn] at D R ih wT pT pS pN pB rA rW rS1 rS2 rC Sm
      simp [go_sem, run_codeL E L4_0.eq_1, hi, hgi, hr, wi, purse_eq, List.range_succ, D, R, he, wT, pT, pS, pN, pB, rA, rW, rS1, rS2, rC, Sm, lG, lS, rSn, ixP, rS, rSA, rSB, rF, fF, fB, fileB, nilS, endE, encEnd, show totB [] = 0 from rfl, show blksB [] = [] from rfl, show sumN [] = 0 from rfl, hJn]
      rw [run_inLoop']
      simp [go_sem, purse_eq, List.range_succ]
      exact ih
    · have ha : appE ([] : List Bk) ([] : List Run) l[i].l = chk l[i].l := by unfold appE; rw [if_pos hc]
      have ih := ih ([] : List Bk) ([] : List Run) false false true false fa fz true hso v.succ
      simp only [ha, hc, ne_eq, not_false_eq_true, if_true] at D R
      clear ha
      have hlL1 : ([] : List Bk).length ≤ 1000000 := hlL
      have hbl1 : (blksB ([] : List Bk)).length ≤ 900000 := hbl
      have pT := gticks false false false lq ([] : List Bk) ([] : List Run) (fun _ => rfl) hlL1 hlW v.ck ht 0 most false
      have pS := gsure0 true ([] : List Run) most false
      have pN := gblocks false false false true ([] : List Bk) ([] : List Run) (fun _ => rfl) hlL1 0 most false
      have pB := fbytes false false (blksB ([] : List Bk)) (by omega) 0 most false
      have rA := rfall false fa (blksB ([] : List Bk)) (fun _ => rfl) (by omega) most
      have rW := pwritten false fa fz lr ([] : List Bk) ([] : List Run) (fun h => absurd rfl h) hgd hlL1 most
      have rS1 := psure false fa fz true ([] : List Bk) ([] : List Run) (fun h => absurd rfl h) hgd (by omega) most
      have rS2 := psure false fa fz lr ([] : List Bk) ([] : List Run) (fun h => absurd rfl h) hgd (by omega) most
      have rC := count_spec ([] : List Run) (by omega) (fun x hx => by have := (chk_right v.ck).1 x hx; omega) true true
      have Sm := same13_spec (blksB ([] : List Bk)) (blksB ([] : List Bk)) (by omega) true true false true
      rw [decide_eq_true rfl] at Sm
      have wT : IntKind.wrap .i64 (totB ([] : List Bk) + sumN ([] : List Run)) = totB ([] : List Bk) + sumN ([] : List Run) := wrap64 (by simp only [show sumN ([] : List Run) = 0 from rfl] at *; omega) (by simp only [show sumN ([] : List Run) = 0 from rfl] at *; omega)
      generalize chk l[i].l = c at *
      generalize l[i].l = r at *
      simp [lG, lS, rSn, ixP, rS, rSA, rSB, rF, fF, fB, fileB, nilS, endE, encEnd, show totB [] = 0 from rfl, show blksB [] = [] from rfl, show sumN [] = 0 from rfl] at D R ih wT pT pS pN pB rA rW rS1 rS2 rC Sm
      simp [go_sem, run_codeL E L4_0.eq_1, hi, hgi, hr, wi, purse_eq, List.range_succ, D, R, he, wT, pT, pS, pN, pB, rA, rW, rS1, rS2, rC, Sm, hc, lG, lS, rSn, ixP, rS, rSA, rSB, rF, fF, fB, fileB, nilS, endE, encEnd, show totB [] = 0 from rfl, show blksB [] = [] from rfl, show sumN [] = 0 from rfl]
      rw [run_inLoop']
      simp [go_sem, purse_eq, List.range_succ]
      exact ih
set_option maxHeartbeats 8000000 in
theorem plays_A0t (ff lw lq fa fz lr : Bool) (most : Int) (hm : 1 ≤ most ∧ most ≤ 1000) (l : List RowV) (nl fu : Bool) (hl4 : l.length ≤ 40) (hfew : ∀ r ∈ l, fewR r.l = true) (hfit : ∀ r ∈ l, r.Fit) (i : Nat) (hi : i < l.length) (v : FInv most i ([] : List Bk) ([] : List Run)) (k : List Item) (Q : Option (AVal × Heap))
    (ih : ∀ L' W' ff lw lq so fa fz lr, (L' ≠ [] → so = true) → FInv most (i + 1) L' W' → finK 0 [.tmp 4] (run E 0 (.code L4_0 :: .inLoop [1000000, 1, 5, 6, 7, 8] L4_0 :: .inBlock 0 :: k) [(1, .imm nl fu true (l.map encRow)), (5, .ptr 0 0), (6, .ptr 1 0), (7, .ptr (ixP L' W') 0), (8, .lit (.int .i64 ((i + 1 : Nat) : Int)))] (lG ff lw lq L' W' most ++ rSn (ixP L' W') so fa fz lr L' W' most)) = Q) :
    finK 0 [.tmp 4] (run E 0 (.code L4_0 :: .inLoop [1000000, 1, 5, 6, 7, 8] L4_0 :: .inBlock 0 :: k) [(1, .imm nl fu true (l.map encRow)), (5, .ptr 0 0), (6, .ptr 1 0), (7, .ptr (ixP ([] : List Bk) ([] : List Run)) 0), (8, .lit (.int .i64 i))] (lG ff lw lq ([] : List Bk) ([] : List Run) most ++ rSn (ixP ([] : List Bk) ([] : List Run)) true fa fz lr ([] : List Bk) ([] : List Run) most)) = Q := by
  have hfo : false = false → ([] : List Bk) = [] := (fun _ => rfl)
  have hso : ([] : List Bk) ≠ [] → true = true := (fun _ => rfl)
  have hb := v.bs
  have hln := v.ln
  have ht := v.tot
  have hsW := v.sum
  have wi := wrapIdx (i := i) (by omega)
  have hg := acc_facts v.good (by omega)
  have hgd := v.good
  have hlL : ([] : List Bk).length ≤ 1000000 := by simp
  have hbl : (blksB []).length ≤ 900000 := by simp [blksB]
  have hlW : ([] : List Run).length ≤ 4096 := by simp
  have hgi : (l.map encRow)[i]? = some (encRow l[i]) := by simp [List.getElem?_eq_getElem hi]
  have hmem := List.getElem_mem hi
  have hw := hfew _ hmem
  have hf0 := hfit _ hmem
  have hr : encRow l[i] = [.imm l[i].nl l[i].fu true (l[i].l.map encRun)] := rfl
  generalize l[i].nl = rn at *
  generalize l[i].fu = rf at *
  by_cases he : l[i].l = []
  · rw [he] at hr
    have D := gdoes0 false false false lq ([] : List Bk) hfo 0 most rn rf
    have R := pflush0 true fa fz lr ([] : List Bk) hso hgd (by omega) most
    have ih := ih ([] : List Bk) [] false false true true true fz true (fun _ => rfl) v.succ
    have hlL1 : ([] : List Bk).length ≤ 1000000 := hlL
    have hbl1 : (blksB ([] : List Bk)).length ≤ 900000 := hbl
    have pT := gticks false false false lq ([] : List Bk) ([] : List Run) (fun _ => rfl) hlL1 (by simp) rfl ht 0 most false
    have pS := gsure0 true ([] : List Run) most false
    have pN := gblocks false false false true ([] : List Bk) ([] : List Run) (fun _ => rfl) hlL1 0 most false
    have pB := fbytes false false (blksB ([] : List Bk)) (by omega) 0 most false
    have rA := rfall true true (blksB ([] : List Bk)) (fun h => nomatch h) (by omega) most
    have rW := pwritten true true fz lr ([] : List Bk) ([] : List Run) (fun _ => rfl) hgd hlL1 most
    have rS1 := psure true true fz true ([] : List Bk) ([] : List Run) (fun _ => rfl) hgd (by omega) most
    have rS2 := psure true true fz lr ([] : List Bk) ([] : List Run) (fun _ => rfl) hgd (by omega) most
    have rC := count_spec [] (by simp) (fun x hx => by have := (chk_right rfl).1 x hx; omega) true true
    have Sm := same13_spec (blksB ([] : List Bk)) (blksB ([] : List Bk)) (by omega) true true false true
    rw [decide_eq_true rfl] at Sm
    have wT : IntKind.wrap .i64 (totB ([] : List Bk) + sumN []) = totB ([] : List Bk) + sumN [] := wrap64 (by simp [sumN, totB]) (by simp [sumN, totB])
    simp [lG, lS, rSn, ixP, rS, rSA, rSB, rF, fF, fB, fileB, nilS, endE, encEnd, show totB [] = 0 from rfl, show blksB [] = [] from rfl, show sumN [] = 0 from rfl, pf0] at D R ih wT pT pS pN pB rA rW rS1 rS2 rC Sm
    simp [go_sem, run_codeL E L4_0.eq_1, hi, hgi, hr, wi, purse_eq, List.range_succ, D, R, wT, pT, pS, pN, pB, rA, rW, rS1, rS2, rC, Sm, lG, lS, rSn, ixP, rS, rSA, rSB, rF, fF, fB, fileB, nilS, endE, encEnd, show totB [] = 0 from rfl, show blksB [] = [] from rfl, show sumN [] = 0 from rfl]
    rw [run_inLoop']
    simp [go_sem, purse_eq, List.range_succ]
    exact ih
  · have hl12 : l[i].l.length ≤ 12 := by simp [fewR] at hw; exact hw.1
    have hn : ∀ x ∈ l[i].l, x.N ≤ 1000000 := by simp [fewR] at hw; exact hw.2
    have hok : ∀ x ∈ l[i].l, x.Ok := fun x hx => (hf0.1 x hx).ok
    have D := gdoesA false false false lq ([] : List Bk) ([] : List Run) l[i].l he hfo hlL hlW v.ck ht (by omega) hok 0 most rn rf
    have R := pappend true fa fz lr ([] : List Bk) ([] : List Run) l[i].l he hso hgd hlL hlW v.ck ht (by omega) hok (fun hc => (v.app (by omega) hc hl12 hn hf0.1).2) most rn rf
    by_cases hc : chk l[i].l = 0
    · obtain ⟨v2, ha⟩ := v.app (by omega) hc hl12 hn hf0.1
      have hln2 := v2.ln
      have hs2 := v2.sum
      have hck2 := v2.ck
      have hJn : joined [] (([] : List Run) ++ l[i].l) ≠ [] := joined_ne (fun x hx => ((sum_joined v.ck hc).2 x hx).1) (by simp [he])
      have ih := ih ([] : List Bk) (joined [] (([] : List Run) ++ l[i].l)) false false true true fa fz true hso v2
      simp only [ha, hc, ne_eq, not_true_eq_false, if_false, if_true] at D R
      have hlL1 : ([] : List Bk).length ≤ 1000000 := hlL
      have hbl1 : (blksB ([] : List Bk)).length ≤ 900000 := hbl
      have pT := gticks false false false false ([] : List Bk) (joined [] (([] : List Run) ++ l[i].l)) (fun _ => rfl) hlL1 (by omega) hck2 ht 0 most false
      have pS := gsure0 true (joined [] (([] : List Run) ++ l[i].l)) most false
      have pN := gblocks false false false true ([] : List Bk) (joined [] (([] : List Run) ++ l[i].l)) (fun _ => rfl) hlL1 0 most false
      have pB := fbytes false false (blksB ([] : List Bk)) (by omega) 0 most false
      have rA := rfall true fa (blksB ([] : List Bk)) (fun h => nomatch h) (by omega) most
      have rW := pwritten true fa fz true ([] : List Bk) (joined [] (([] : List Run) ++ l[i].l)) (fun _ => rfl) hgd hlL1 most
      have rS1 := psure true fa fz true ([] : List Bk) (joined [] (([] : List Run) ++ l[i].l)) (fun _ => rfl) hgd (by omega) most
      have rS2 := psure true fa fz true ([] : List Bk) (joined [] (([] : List Run) ++ l[i].l)) (fun _ => rfl) hgd (by omega) most
      have rC := count_spec (joined [] (([] : List Run) ++ l[i].l)) (by omega) (fun x hx => by have := (chk_right hck2).1 x hx; omega) false false
      have Sm := same13_spec (blksB ([] : List Bk)) (blksB ([] : List Bk)) (by omega) true true false true
      rw [decide_eq_true rfl] at Sm
      have wT : IntKind.wrap .i64 (totB ([] : List Bk) + sumN (joined [] (([] : List Run) ++ l[i].l))) = totB ([] : List Bk) + sumN (joined [] (([] : List Run) ++ l[i].l)) := wrap64 (by omega) (by omega)
      generalize joined [] (([] : List Run) ++ l[i].l) = Z at *
      generalize sumN Z = sz at *
      simp only [lG, lS, lSJ, rS, rSJ, hJn, if_true, if_false, Bool.true_eq_false, reduceIte, reduceCtorEq] at D R pT pS pN rW rS1 rS2 ih ⊢
      generalize l[i].l = r at *
      simp [lG, lS, rSn, ixP, rS, rSA, rSB, rF, fF, fB, fileB, nilS, endE, encEnd, show totB [] = 0 from rfl, show blksB [] = [] from rfl, show sumN [] = 0 from rfl, lSJ, rSJ, hJn] at D R ih wT pT pS pN pB rA rW rS1 rS2 rC Sm
      simp [go_sem, run_codeL E L4_0.eq_1, hi, hgi, hr, wi, purse_eq, List.range_succ, D, R, he, wT, pT, pS, pN, pB, rA, rW, rS1, rS2, rC, Sm, lG, lS, rSn, ixP, rS, rSA, rSB, rF, fF, fB, fileB, nilS, endE, encEnd, show totB [] = 0 from rfl, show blksB [] = [] from rfl, show sumN [] = 0 from rfl, hJn]
      rw [run_inLoop']
      simp [go_sem, purse_eq, List.range_succ]
      exact ih
    · have ha : appE ([] : List Bk) ([] : List Run) l[i].l = chk l[i].l := by unfold appE; rw [if_pos hc]
      have ih := ih ([] : List Bk) ([] : List Run) false false true true fa fz true hso v.succ
      simp only [ha, hc, ne_eq, not_false_eq_true, if_true] at D R
      clear ha
      have hlL1 : ([] : List Bk).length ≤ 1000000 := hlL
      have hbl1 : (blksB ([] : List Bk)).length ≤ 900000 := hbl
      have pT := gticks false false false lq ([] : List Bk) ([] : List Run) (fun _ => rfl) hlL1 hlW v.ck ht 0 most false
      have pS := gsure0 true ([] : List Run) most false
      have pN := gblocks false false false true ([] : List Bk) ([] : List Run) (fun _ => rfl) hlL1 0 most false
      have pB := fbytes false false (blksB ([] : List Bk)) (by omega) 0 most false
      have rA := rfall true fa (blksB ([] : List Bk)) (fun h => nomatch h) (by omega) most
      have rW := pwritten true fa fz lr ([] : List Bk) ([] : List Run) (fun _ => rfl) hgd hlL1 most
      have rS1 := psure true fa fz true ([] : List Bk) ([] : List Run) (fun _ => rfl) hgd (by omega) most
      have rS2 := psure true fa fz lr ([] : List Bk) ([] : List Run) (fun _ => rfl) hgd (by omega) most
      have rC := count_spec ([] : List Run) (by omega) (fun x hx => by have := (chk_right v.ck).1 x hx; omega) true true
      have Sm := same13_spec (blksB ([] : List Bk)) (blksB ([] : List Bk)) (by omega) true true false true
      rw [decide_eq_true rfl] at Sm
      have wT : IntKind.wrap .i64 (totB ([] : List Bk) + sumN ([] : List Run)) = totB ([] : List Bk) + sumN ([] : List Run) := wrap64 (by simp only [show sumN ([] : List Run) = 0 from rfl] at *; omega) (by simp only [show sumN ([] : List Run) = 0 from rfl] at *; omega)
      generalize chk l[i].l = c at *
      generalize l[i].l = r at *
      simp [lG, lS, rSn, ixP, rS, rSA, rSB, rF, fF, fB, fileB, nilS, endE, encEnd, show totB [] = 0 from rfl, show blksB [] = [] from rfl, show sumN [] = 0 from rfl] at D R ih wT pT pS pN pB rA rW rS1 rS2 rC Sm
      simp [go_sem, run_codeL E L4_0.eq_1, hi, hgi, hr, wi, purse_eq, List.range_succ, D, R, he, wT, pT, pS, pN, pB, rA, rW, rS1, rS2, rC, Sm, hc, lG, lS, rSn, ixP, rS, rSA, rSB, rF, fF, fB, fileB, nilS, endE, encEnd, show totB [] = 0 from rfl, show blksB [] = [] from rfl, show sumN [] = 0 from rfl]
      rw [run_inLoop']
      simp [go_sem, purse_eq, List.range_succ]
      exact ih
set_option maxHeartbeats 8000000 in
theorem plays_A1f (ff lw lq fa fz lr : Bool) (W : List Run) (hW : W ≠ []) (most : Int) (hm : 1 ≤ most ∧ most ≤ 1000) (l : List RowV) (nl fu : Bool) (hl4 : l.length ≤ 40) (hfew : ∀ r ∈ l, fewR r.l = true) (hfit : ∀ r ∈ l, r.Fit) (i : Nat) (hi : i < l.length) (v : FInv most i ([] : List Bk) W) (k : List Item) (Q : Option (AVal × Heap))
    (ih : ∀ L' W' ff lw lq so fa fz lr, (L' ≠ [] → so = true) → FInv most (i + 1) L' W' → finK 0 [.tmp 4] (run E 0 (.code L4_0 :: .inLoop [1000000, 1, 5, 6, 7, 8] L4_0 :: .inBlock 0 :: k) [(1, .imm nl fu true (l.map encRow)), (5, .ptr 0 0), (6, .ptr 1 0), (7, .ptr (ixP L' W') 0), (8, .lit (.int .i64 ((i + 1 : Nat) : Int)))] (lG ff lw lq L' W' most ++ rSn (ixP L' W') so fa fz lr L' W' most)) = Q) :
    finK 0 [.tmp 4] (run E 0 (.code L4_0 :: .inLoop [1000000, 1, 5, 6, 7, 8] L4_0 :: .inBlock 0 :: k) [(1, .imm nl fu true (l.map encRow)), (5, .ptr 0 0), (6, .ptr 1 0), (7, .ptr (ixP ([] : List Bk) W) 0), (8, .lit (.int .i64 i))] (lG ff lw lq ([] : List Bk) W most ++ rSn (ixP ([] : List Bk) W) false fa fz lr ([] : List Bk) W most)) = Q := by
  have hfo : false = false → ([] : List Bk) = [] := (fun _ => rfl)
  have hso : ([] : List Bk) ≠ [] → false = true := (fun h => absurd rfl h)
  have hb := v.bs
  have hln := v.ln
  have ht := v.tot
  have hsW := v.sum
  have wi := wrapIdx (i := i) (by omega)
  have hg := acc_facts v.good (by omega)
  have hgd := v.good
  have hlL : ([] : List Bk).length ≤ 1000000 := by simp
  have hbl : (blksB []).length ≤ 900000 := by simp [blksB]
  have hlW : W.length ≤ 4096 := by omega
  have hgi : (l.map encRow)[i]? = some (encRow l[i]) := by simp [List.getElem?_eq_getElem hi]
  have hmem := List.getElem_mem hi
  have hw := hfew _ hmem
  have hf0 := hfit _ hmem
  have hr : encRow l[i] = [.imm l[i].nl l[i].fu true (l[i].l.map encRun)] := rfl
  generalize l[i].nl = rn at *
  generalize l[i].fu = rf at *
  by_cases he : l[i].l = []
  · rw [he] at hr
    have hc := v.chkB (by omega) hW
    have hpW := v.pos hW
    have D := gdoesF false false false lq ([] : List Bk) W hfo hW hc v.jo v.dr ht hg (by omega) 0 most (by omega) rn rf
    by_cases hf : most < ((blksB ([] : List Bk)).length : Int) + (putBk (totB ([] : List Bk), W)).length
    · simp only [hf, if_true] at D
      have R := pflushF false fa fz lr ([] : List Bk) W hso hW hgd (by omega) hc most hf
      have ih := ih ([] : List Bk) W false false true false fa fz true hso v.succ
      have hlL1 : ([] : List Bk).length ≤ 1000000 := hlL
      have hbl1 : (blksB ([] : List Bk)).length ≤ 900000 := hbl
      have pT := gticks false false false true ([] : List Bk) W (fun _ => rfl) hlL1 hlW v.ck ht 0 most false
      have pS := gsure0 true W most false
      have pN := gblocks false false false true ([] : List Bk) W (fun _ => rfl) hlL1 0 most false
      have pB := fbytes false false (blksB ([] : List Bk)) (by omega) 0 most false
      have rA := rfall false fa (blksB ([] : List Bk)) (fun _ => rfl) (by omega) most
      have rW := pwritten false fa fz true ([] : List Bk) W (fun h => absurd rfl h) hgd hlL1 most
      have rS1 := psure false fa fz true ([] : List Bk) W (fun h => absurd rfl h) hgd (by omega) most
      have rS2 := psure false fa fz true ([] : List Bk) W (fun h => absurd rfl h) hgd (by omega) most
      have rC := count_spec W (by omega) (fun x hx => by have := (chk_right v.ck).1 x hx; omega) false false
      have Sm := same13_spec (blksB ([] : List Bk)) (blksB ([] : List Bk)) (by omega) true true false true
      rw [decide_eq_true rfl] at Sm
      have wT : IntKind.wrap .i64 (totB ([] : List Bk) + sumN W) = totB ([] : List Bk) + sumN W := wrap64 (by omega) (by omega)
      clear hf hc
      generalize sumN W = sw at *
      simp [lG, lS, rSn, ixP, rS, rSA, rSB, rF, fF, fB, fileB, nilS, endE, encEnd, hW, show totB [] = 0 from rfl, show blksB [] = [] from rfl, show sumN [] = 0 from rfl] at D R ih wT pT pS pN pB rA rW rS1 rS2 rC Sm
      simp [go_sem, run_codeL E L4_0.eq_1, hi, hgi, hr, wi, purse_eq, List.range_succ, D, R, wT, pT, pS, pN, pB, rA, rW, rS1, rS2, rC, Sm, lG, lS, rSn, ixP, rS, rSA, rSB, rF, fF, fB, fileB, nilS, endE, encEnd, hW, show totB [] = 0 from rfl, show blksB [] = [] from rfl, show sumN [] = 0 from rfl]
      rw [run_inLoop']
      simp [go_sem, purse_eq, List.range_succ]
      exact ih
    · simp only [hf, if_false] at D
      have R := pflushOk false fa fz lr ([] : List Bk) W hso hW hgd (by omega) hc most hf
      have v2 := v.flush (by omega) hW hf
      have gd2 := v2.good
      have ht2 := v2.tot
      have hb2 := v2.bs
      have hpl := putBk_len (x := (totB ([] : List Bk), W)) hc
      have hlL2 := good_len _ 0 gd2
      have e4 : ¬ (([] : List Bk) ++ [(totB ([] : List Bk), W)]) = [] := by simp
      have ih := ih (([] : List Bk) ++ [(totB ([] : List Bk), W)]) [] false false true true false false true (fun _ => rfl) v2
      have hlL1 : (([] : List Bk) ++ [(totB ([] : List Bk), W)]).length ≤ 1000000 := (by omega)
      have hbl1 : (blksB (([] : List Bk) ++ [(totB ([] : List Bk), W)])).length ≤ 900000 := (by omega)
      have pT := gticks true false false true (([] : List Bk) ++ [(totB ([] : List Bk), W)]) ([] : List Run) (fun h => nomatch h) hlL1 (by simp) rfl ht2 (blksB (([] : List Bk) ++ [(totB ([] : List Bk), W)])).length most false
      have pS := gsure false false true (([] : List Bk) ++ [(totB ([] : List Bk), W)]) ([] : List Run) e4 hlL1 most false
      have pN := gblocks true false false true (([] : List Bk) ++ [(totB ([] : List Bk), W)]) ([] : List Run) (fun h => nomatch h) hlL1 (blksB (([] : List Bk) ++ [(totB ([] : List Bk), W)])).length most false
      have pB := fbytes true false (blksB (([] : List Bk) ++ [(totB ([] : List Bk), W)])) (by omega) (blksB (([] : List Bk) ++ [(totB ([] : List Bk), W)])).length most false
      have rA := rfall true false (blksB (([] : List Bk) ++ [(totB ([] : List Bk), W)])) (fun h => nomatch h) (by omega) most
      have rW := pwritten true false false true (([] : List Bk) ++ [(totB ([] : List Bk), W)]) ([] : List Run) (fun _ => rfl) gd2 hlL1 most
      have rS1 := psure true false false true (([] : List Bk) ++ [(totB ([] : List Bk), W)]) ([] : List Run) (fun _ => rfl) gd2 (by omega) most
      have rS2 := psure true false false true (([] : List Bk) ++ [(totB ([] : List Bk), W)]) ([] : List Run) (fun _ => rfl) gd2 (by omega) most
      have rC := count_spec [] (by simp) (fun x hx => by have := (chk_right rfl).1 x hx; omega) true true
      have Sm := same13_spec (blksB (([] : List Bk) ++ [(totB ([] : List Bk), W)])) (blksB (([] : List Bk) ++ [(totB ([] : List Bk), W)])) (by omega) false false false false
      rw [decide_eq_true rfl] at Sm
      have wT : IntKind.wrap .i64 (totB (([] : List Bk) ++ [(totB ([] : List Bk), W)]) + sumN []) = totB (([] : List Bk) ++ [(totB ([] : List Bk), W)]) + sumN [] := wrap64 (by simp only [show sumN ([] : List Run) = 0 from rfl]; omega) (by simp only [show sumN ([] : List Run) = 0 from rfl]; omega)
      have e1 : blksB (([] : List Bk) ++ [(totB ([] : List Bk), W)]) = putBk (0, W) := by simp [blksB, totB]
      have e2 : allR (([] : List Bk) ++ [(totB ([] : List Bk), W)]) = W := by simp [allR]
      have e3 : endsGo 0 0 (([] : List Bk) ++ [(totB ([] : List Bk), W)]) = [((putBk (0, W)).length, sumN W)] := by simp [endsGo, totB]
      have e5 : totB (([] : List Bk) ++ [(totB ([] : List Bk), W)]) = sumN W := by simp [totB]
      have e6 : ((([] : List Bk) ++ [(totB ([] : List Bk), W)])).map encBk = [encBk (0, W)] := by simp [totB]
      have hbn2 : putBk (0, W) ≠ [] := by intro q; simp only [show totB [] = 0 from rfl, q] at hpl; simp at hpl
      have hjo := v.jo
      have hie2 : (putBk (0, W)).isEmpty = false := by simpa using hbn2
      simp only [lG, ixP, rSn, rS, rSA, if_neg e4, lS, rF, fF, fB, e1, e2, e3, e5, e6, if_true, Bool.true_eq_false, if_false, reduceIte, reduceCtorEq, List.length_append, List.length_cons, List.length_nil, Nat.zero_add, hjo] at ih wT pT pS pN pB rA rW rS1 rS2 rC Sm
      simp only [flH, pfH, if_true] at D R
      simp only [show totB [] = 0 from rfl, show blksB [] = [] from rfl, List.nil_append, List.length_nil] at *
      generalize putBk (0, W) = pb at *
      generalize sumN W = sw at *
      simp [lG, lS, rSn, ixP, rS, rSA, rSB, rF, fF, fB, fileB, nilS, endE, encEnd, hW, show totB [] = 0 from rfl, show blksB [] = [] from rfl, show sumN [] = 0 from rfl, e4, hie2, flH, pfH, hbn2] at D R ih wT pT pS pN pB rA rW rS1 rS2 rC Sm
      simp [go_sem, run_codeL E L4_0.eq_1, hi, hgi, hr, wi, purse_eq, List.range_succ, D, R, wT, pT, pS, pN, pB, rA, rW, rS1, rS2, rC, Sm, lG, lS, rSn, ixP, rS, rSA, rSB, rF, fF, fB, fileB, nilS, endE, encEnd, hW, show totB [] = 0 from rfl, show blksB [] = [] from rfl, show sumN [] = 0 from rfl, e4, hie2, hbn2]
      rw [run_inLoop']
      simp [go_sem, purse_eq, List.range_succ]
      exact ih
  · have hl12 : l[i].l.length ≤ 12 := by simp [fewR] at hw; exact hw.1
    have hn : ∀ x ∈ l[i].l, x.N ≤ 1000000 := by simp [fewR] at hw; exact hw.2
    have hok : ∀ x ∈ l[i].l, x.Ok := fun x hx => (hf0.1 x hx).ok
    have D := gdoesA false false false lq ([] : List Bk) W l[i].l he hfo hlL hlW v.ck ht (by omega) hok 0 most rn rf
    have R := pappend false fa fz lr ([] : List Bk) W l[i].l he hso hgd hlL hlW v.ck ht (by omega) hok (fun hc => (v.app (by omega) hc hl12 hn hf0.1).2) most rn rf
    by_cases hc : chk l[i].l = 0
    · obtain ⟨v2, ha⟩ := v.app (by omega) hc hl12 hn hf0.1
      have hln2 := v2.ln
      have hs2 := v2.sum
      have hck2 := v2.ck
      have hJn : joined [] (W ++ l[i].l) ≠ [] := joined_ne (fun x hx => ((sum_joined v.ck hc).2 x hx).1) (by simp [he])
      have ih := ih ([] : List Bk) (joined [] (W ++ l[i].l)) false false true false fa fz true hso v2
      simp only [ha, hc, ne_eq, not_true_eq_false, if_false, if_true, hW] at D R
      have hlL1 : ([] : List Bk).length ≤ 1000000 := hlL
      have hbl1 : (blksB ([] : List Bk)).length ≤ 900000 := hbl
      have pT := gticks false false false false ([] : List Bk) (joined [] (W ++ l[i].l)) (fun _ => rfl) hlL1 (by omega) hck2 ht 0 most false
      have pS := gsure0 true (joined [] (W ++ l[i].l)) most false
      have pN := gblocks false false false true ([] : List Bk) (joined [] (W ++ l[i].l)) (fun _ => rfl) hlL1 0 most false
      have pB := fbytes false false (blksB ([] : List Bk)) (by omega) 0 most false
      have rA := rfall false fa (blksB ([] : List Bk)) (fun _ => rfl) (by omega) most
      have rW := pwritten false fa fz true ([] : List Bk) (joined [] (W ++ l[i].l)) (fun h => absurd rfl h) hgd hlL1 most
      have rS1 := psure false fa fz true ([] : List Bk) (joined [] (W ++ l[i].l)) (fun h => absurd rfl h) hgd (by omega) most
      have rS2 := psure false fa fz true ([] : List Bk) (joined [] (W ++ l[i].l)) (fun h => absurd rfl h) hgd (by omega) most
      have rC := count_spec (joined [] (W ++ l[i].l)) (by omega) (fun x hx => by have := (chk_right hck2).1 x hx; omega) false false
      have Sm := same13_spec (blksB ([] : List Bk)) (blksB ([] : List Bk)) (by omega) true true false true
      rw [decide_eq_true rfl] at Sm
      have wT : IntKind.wrap .i64 (totB ([] : List Bk) + sumN (joined [] (W ++ l[i].l))) = totB ([] : List Bk) + sumN (joined [] (W ++ l[i].l)) := wrap64 (by omega) (by omega)
      generalize joined [] (W ++ l[i].l) = Z at *
      generalize sumN Z = sz at *
      simp only [lG, lS, lSJ, rS, rSJ, hJn, hW, if_true, if_false, Bool.true_eq_false, reduceIte, reduceCtorEq] at D R pT pS pN rW rS1 rS2 ih ⊢
      generalize l[i].l = r at *
      generalize sumN W = sw at *
      simp [lG, lS, rSn, ixP, rS, rSA, rSB, rF, fF, fB, fileB, nilS, endE, encEnd, hW, show totB [] = 0 from rfl, show blksB [] = [] from rfl, show sumN [] = 0 from rfl, lSJ, rSJ, hJn] at D R ih wT pT pS pN pB rA rW rS1 rS2 rC Sm
      simp [go_sem, run_codeL E L4_0.eq_1, hi, hgi, hr, wi, purse_eq, List.range_succ, D, R, he, wT, pT, pS, pN, pB, rA, rW, rS1, rS2, rC, Sm, lG, lS, rSn, ixP, rS, rSA, rSB, rF, fF, fB, fileB, nilS, endE, encEnd, hW, show totB [] = 0 from rfl, show blksB [] = [] from rfl, show sumN [] = 0 from rfl, hJn]
      rw [run_inLoop']
      simp [go_sem, purse_eq, List.range_succ]
      exact ih
    · have ha : appE ([] : List Bk) W l[i].l = chk l[i].l := by unfold appE; rw [if_pos hc]
      have ih := ih ([] : List Bk) W false false true false fa fz true hso v.succ
      simp only [ha, hc, ne_eq, not_false_eq_true, if_true] at D R
      clear ha
      have hlL1 : ([] : List Bk).length ≤ 1000000 := hlL
      have hbl1 : (blksB ([] : List Bk)).length ≤ 900000 := hbl
      have pT := gticks false false false lq ([] : List Bk) W (fun _ => rfl) hlL1 hlW v.ck ht 0 most false
      have pS := gsure0 true W most false
      have pN := gblocks false false false true ([] : List Bk) W (fun _ => rfl) hlL1 0 most false
      have pB := fbytes false false (blksB ([] : List Bk)) (by omega) 0 most false
      have rA := rfall false fa (blksB ([] : List Bk)) (fun _ => rfl) (by omega) most
      have rW := pwritten false fa fz lr ([] : List Bk) W (fun h => absurd rfl h) hgd hlL1 most
      have rS1 := psure false fa fz true ([] : List Bk) W (fun h => absurd rfl h) hgd (by omega) most
      have rS2 := psure false fa fz lr ([] : List Bk) W (fun h => absurd rfl h) hgd (by omega) most
      have rC := count_spec W (by omega) (fun x hx => by have := (chk_right v.ck).1 x hx; omega) false false
      have Sm := same13_spec (blksB ([] : List Bk)) (blksB ([] : List Bk)) (by omega) true true false true
      rw [decide_eq_true rfl] at Sm
      have wT : IntKind.wrap .i64 (totB ([] : List Bk) + sumN W) = totB ([] : List Bk) + sumN W := wrap64 (by omega) (by omega)
      generalize chk l[i].l = c at *
      generalize l[i].l = r at *
      generalize sumN W = sw at *
      simp [lG, lS, rSn, ixP, rS, rSA, rSB, rF, fF, fB, fileB, nilS, endE, encEnd, hW, show totB [] = 0 from rfl, show blksB [] = [] from rfl, show sumN [] = 0 from rfl] at D R ih wT pT pS pN pB rA rW rS1 rS2 rC Sm
      simp [go_sem, run_codeL E L4_0.eq_1, hi, hgi, hr, wi, purse_eq, List.range_succ, D, R, he, wT, pT, pS, pN, pB, rA, rW, rS1, rS2, rC, Sm, hc, lG, lS, rSn, ixP, rS, rSA, rSB, rF, fF, fB, fileB, nilS, endE, encEnd, hW, show totB [] = 0 from rfl, show blksB [] = [] from rfl, show sumN [] = 0 from rfl]
      rw [run_inLoop']
      simp [go_sem, purse_eq, List.range_succ]
      exact ih
set_option maxHeartbeats 8000000 in
theorem plays_A1t (ff lw lq fa fz lr : Bool) (W : List Run) (hW : W ≠ []) (most : Int) (hm : 1 ≤ most ∧ most ≤ 1000) (l : List RowV) (nl fu : Bool) (hl4 : l.length ≤ 40) (hfew : ∀ r ∈ l, fewR r.l = true) (hfit : ∀ r ∈ l, r.Fit) (i : Nat) (hi : i < l.length) (v : FInv most i ([] : List Bk) W) (k : List Item) (Q : Option (AVal × Heap))
    (ih : ∀ L' W' ff lw lq so fa fz lr, (L' ≠ [] → so = true) → FInv most (i + 1) L' W' → finK 0 [.tmp 4] (run E 0 (.code L4_0 :: .inLoop [1000000, 1, 5, 6, 7, 8] L4_0 :: .inBlock 0 :: k) [(1, .imm nl fu true (l.map encRow)), (5, .ptr 0 0), (6, .ptr 1 0), (7, .ptr (ixP L' W') 0), (8, .lit (.int .i64 ((i + 1 : Nat) : Int)))] (lG ff lw lq L' W' most ++ rSn (ixP L' W') so fa fz lr L' W' most)) = Q) :
    finK 0 [.tmp 4] (run E 0 (.code L4_0 :: .inLoop [1000000, 1, 5, 6, 7, 8] L4_0 :: .inBlock 0 :: k) [(1, .imm nl fu true (l.map encRow)), (5, .ptr 0 0), (6, .ptr 1 0), (7, .ptr (ixP ([] : List Bk) W) 0), (8, .lit (.int .i64 i))] (lG ff lw lq ([] : List Bk) W most ++ rSn (ixP ([] : List Bk) W) true fa fz lr ([] : List Bk) W most)) = Q := by
  have hfo : false = false → ([] : List Bk) = [] := (fun _ => rfl)
  have hso : ([] : List Bk) ≠ [] → true = true := (fun _ => rfl)
  have hb := v.bs
  have hln := v.ln
  have ht := v.tot
  have hsW := v.sum
  have wi := wrapIdx (i := i) (by omega)
  have hg := acc_facts v.good (by omega)
  have hgd := v.good
  have hlL : ([] : List Bk).length ≤ 1000000 := by simp
  have hbl : (blksB []).length ≤ 900000 := by simp [blksB]
  have hlW : W.length ≤ 4096 := by omega
  have hgi : (l.map encRow)[i]? = some (encRow l[i]) := by simp [List.getElem?_eq_getElem hi]
  have hmem := List.getElem_mem hi
  have hw := hfew _ hmem
  have hf0 := hfit _ hmem
  have hr : encRow l[i] = [.imm l[i].nl l[i].fu true (l[i].l.map encRun)] := rfl
  generalize l[i].nl = rn at *
  generalize l[i].fu = rf at *
  by_cases he : l[i].l = []
  · rw [he] at hr
    have hc := v.chkB (by omega) hW
    have hpW := v.pos hW
    have D := gdoesF false false false lq ([] : List Bk) W hfo hW hc v.jo v.dr ht hg (by omega) 0 most (by omega) rn rf
    by_cases hf : most < ((blksB ([] : List Bk)).length : Int) + (putBk (totB ([] : List Bk), W)).length
    · simp only [hf, if_true] at D
      have R := pflushF true fa fz lr ([] : List Bk) W hso hW hgd (by omega) hc most hf
      have ih := ih ([] : List Bk) W false false true true fa fz true hso v.succ
      have hlL1 : ([] : List Bk).length ≤ 1000000 := hlL
      have hbl1 : (blksB ([] : List Bk)).length ≤ 900000 := hbl
      have pT := gticks false false false true ([] : List Bk) W (fun _ => rfl) hlL1 hlW v.ck ht 0 most false
      have pS := gsure0 true W most false
      have pN := gblocks false false false true ([] : List Bk) W (fun _ => rfl) hlL1 0 most false
      have pB := fbytes false false (blksB ([] : List Bk)) (by omega) 0 most false
      have rA := rfall true fa (blksB ([] : List Bk)) (fun h => nomatch h) (by omega) most
      have rW := pwritten true fa fz true ([] : List Bk) W (fun _ => rfl) hgd hlL1 most
      have rS1 := psure true fa fz true ([] : List Bk) W (fun _ => rfl) hgd (by omega) most
      have rS2 := psure true fa fz true ([] : List Bk) W (fun _ => rfl) hgd (by omega) most
      have rC := count_spec W (by omega) (fun x hx => by have := (chk_right v.ck).1 x hx; omega) false false
      have Sm := same13_spec (blksB ([] : List Bk)) (blksB ([] : List Bk)) (by omega) true true false true
      rw [decide_eq_true rfl] at Sm
      have wT : IntKind.wrap .i64 (totB ([] : List Bk) + sumN W) = totB ([] : List Bk) + sumN W := wrap64 (by omega) (by omega)
      clear hf hc
      generalize sumN W = sw at *
      simp [lG, lS, rSn, ixP, rS, rSA, rSB, rF, fF, fB, fileB, nilS, endE, encEnd, hW, show totB [] = 0 from rfl, show blksB [] = [] from rfl, show sumN [] = 0 from rfl] at D R ih wT pT pS pN pB rA rW rS1 rS2 rC Sm
      simp [go_sem, run_codeL E L4_0.eq_1, hi, hgi, hr, wi, purse_eq, List.range_succ, D, R, wT, pT, pS, pN, pB, rA, rW, rS1, rS2, rC, Sm, lG, lS, rSn, ixP, rS, rSA, rSB, rF, fF, fB, fileB, nilS, endE, encEnd, hW, show totB [] = 0 from rfl, show blksB [] = [] from rfl, show sumN [] = 0 from rfl]
      rw [run_inLoop']
      simp [go_sem, purse_eq, List.range_succ]
      exact ih
    · simp only [hf, if_false] at D
      have R := pflushOk true fa fz lr ([] : List Bk) W hso hW hgd (by omega) hc most hf
      have v2 := v.flush (by omega) hW hf
      have gd2 := v2.good
      have ht2 := v2.tot
      have hb2 := v2.bs
      have hpl := putBk_len (x := (totB ([] : List Bk), W)) hc
      have hlL2 := good_len _ 0 gd2
      have e4 : ¬ (([] : List Bk) ++ [(totB ([] : List Bk), W)]) = [] := by simp
      have ih := ih (([] : List Bk) ++ [(totB ([] : List Bk), W)]) [] false false true true false false true (fun _ => rfl) v2
      have hlL1 : (([] : List Bk) ++ [(totB ([] : List Bk), W)]).length ≤ 1000000 := (by omega)
      have hbl1 : (blksB (([] : List Bk) ++ [(totB ([] : List Bk), W)])).length ≤ 900000 := (by omega)
      have pT := gticks true false false true (([] : List Bk) ++ [(totB ([] : List Bk), W)]) ([] : List Run) (fun h => nomatch h) hlL1 (by simp) rfl ht2 (blksB (([] : List Bk) ++ [(totB ([] : List Bk), W)])).length most false
      have pS := gsure false false true (([] : List Bk) ++ [(totB ([] : List Bk), W)]) ([] : List Run) e4 hlL1 most false
      have pN := gblocks true false false true (([] : List Bk) ++ [(totB ([] : List Bk), W)]) ([] : List Run) (fun h => nomatch h) hlL1 (blksB (([] : List Bk) ++ [(totB ([] : List Bk), W)])).length most false
      have pB := fbytes true false (blksB (([] : List Bk) ++ [(totB ([] : List Bk), W)])) (by omega) (blksB (([] : List Bk) ++ [(totB ([] : List Bk), W)])).length most false
      have rA := rfall true false (blksB (([] : List Bk) ++ [(totB ([] : List Bk), W)])) (fun h => nomatch h) (by omega) most
      have rW := pwritten true false false true (([] : List Bk) ++ [(totB ([] : List Bk), W)]) ([] : List Run) (fun _ => rfl) gd2 hlL1 most
      have rS1 := psure true false false true (([] : List Bk) ++ [(totB ([] : List Bk), W)]) ([] : List Run) (fun _ => rfl) gd2 (by omega) most
      have rS2 := psure true false false true (([] : List Bk) ++ [(totB ([] : List Bk), W)]) ([] : List Run) (fun _ => rfl) gd2 (by omega) most
      have rC := count_spec [] (by simp) (fun x hx => by have := (chk_right rfl).1 x hx; omega) true true
      have Sm := same13_spec (blksB (([] : List Bk) ++ [(totB ([] : List Bk), W)])) (blksB (([] : List Bk) ++ [(totB ([] : List Bk), W)])) (by omega) false false false false
      rw [decide_eq_true rfl] at Sm
      have wT : IntKind.wrap .i64 (totB (([] : List Bk) ++ [(totB ([] : List Bk), W)]) + sumN []) = totB (([] : List Bk) ++ [(totB ([] : List Bk), W)]) + sumN [] := wrap64 (by simp only [show sumN ([] : List Run) = 0 from rfl]; omega) (by simp only [show sumN ([] : List Run) = 0 from rfl]; omega)
      have e1 : blksB (([] : List Bk) ++ [(totB ([] : List Bk), W)]) = putBk (0, W) := by simp [blksB, totB]
      have e2 : allR (([] : List Bk) ++ [(totB ([] : List Bk), W)]) = W := by simp [allR]
      have e3 : endsGo 0 0 (([] : List Bk) ++ [(totB ([] : List Bk), W)]) = [((putBk (0, W)).length, sumN W)] := by simp [endsGo, totB]
      have e5 : totB (([] : List Bk) ++ [(totB ([] : List Bk), W)]) = sumN W := by simp [totB]
      have e6 : ((([] : List Bk) ++ [(totB ([] : List Bk), W)])).map encBk = [encBk (0, W)] := by simp [totB]
      have hbn2 : putBk (0, W) ≠ [] := by intro q; simp only [show totB [] = 0 from rfl, q] at hpl; simp at hpl
      have hjo := v.jo
      have hie2 : (putBk (0, W)).isEmpty = false := by simpa using hbn2
      simp only [lG, ixP, rSn, rS, rSA, if_neg e4, lS, rF, fF, fB, e1, e2, e3, e5, e6, if_true, Bool.true_eq_false, if_false, reduceIte, reduceCtorEq, List.length_append, List.length_cons, List.length_nil, Nat.zero_add, hjo] at ih wT pT pS pN pB rA rW rS1 rS2 rC Sm
      simp only [flH, pfH, if_true] at D R
      simp only [show totB [] = 0 from rfl, show blksB [] = [] from rfl, List.nil_append, List.length_nil] at *
      generalize putBk (0, W) = pb at *
      generalize sumN W = sw at *
      simp [lG, lS, rSn, ixP, rS, rSA, rSB, rF, fF, fB, fileB, nilS, endE, encEnd, hW, show totB [] = 0 from rfl, show blksB [] = [] from rfl, show sumN [] = 0 from rfl, e4, hie2, flH, pfH, hbn2] at D R ih wT pT pS pN pB rA rW rS1 rS2 rC Sm
      simp [go_sem, run_codeL E L4_0.eq_1, hi, hgi, hr, wi, purse_eq, List.range_succ, D, R, wT, pT, pS, pN, pB, rA, rW, rS1, rS2, rC, Sm, lG, lS, rSn, ixP, rS, rSA, rSB, rF, fF, fB, fileB, nilS, endE, encEnd, hW, show totB [] = 0 from rfl, show blksB [] = [] from rfl, show sumN [] = 0 from rfl, e4, hie2, hbn2]
      rw [run_inLoop']
      simp [go_sem, purse_eq, List.range_succ]
      exact ih
  · have hl12 : l[i].l.length ≤ 12 := by simp [fewR] at hw; exact hw.1
    have hn : ∀ x ∈ l[i].l, x.N ≤ 1000000 := by simp [fewR] at hw; exact hw.2
    have hok : ∀ x ∈ l[i].l, x.Ok := fun x hx => (hf0.1 x hx).ok
    have D := gdoesA false false false lq ([] : List Bk) W l[i].l he hfo hlL hlW v.ck ht (by omega) hok 0 most rn rf
    have R := pappend true fa fz lr ([] : List Bk) W l[i].l he hso hgd hlL hlW v.ck ht (by omega) hok (fun hc => (v.app (by omega) hc hl12 hn hf0.1).2) most rn rf
    by_cases hc : chk l[i].l = 0
    · obtain ⟨v2, ha⟩ := v.app (by omega) hc hl12 hn hf0.1
      have hln2 := v2.ln
      have hs2 := v2.sum
      have hck2 := v2.ck
      have hJn : joined [] (W ++ l[i].l) ≠ [] := joined_ne (fun x hx => ((sum_joined v.ck hc).2 x hx).1) (by simp [he])
      have ih := ih ([] : List Bk) (joined [] (W ++ l[i].l)) false false true true fa fz true hso v2
      simp only [ha, hc, ne_eq, not_true_eq_false, if_false, if_true, hW] at D R
      have hlL1 : ([] : List Bk).length ≤ 1000000 := hlL
      have hbl1 : (blksB ([] : List Bk)).length ≤ 900000 := hbl
      have pT := gticks false false false false ([] : List Bk) (joined [] (W ++ l[i].l)) (fun _ => rfl) hlL1 (by omega) hck2 ht 0 most false
      have pS := gsure0 true (joined [] (W ++ l[i].l)) most false
      have pN := gblocks false false false true ([] : List Bk) (joined [] (W ++ l[i].l)) (fun _ => rfl) hlL1 0 most false
      have pB := fbytes false false (blksB ([] : List Bk)) (by omega) 0 most false
      have rA := rfall true fa (blksB ([] : List Bk)) (fun h => nomatch h) (by omega) most
      have rW := pwritten true fa fz true ([] : List Bk) (joined [] (W ++ l[i].l)) (fun _ => rfl) hgd hlL1 most
      have rS1 := psure true fa fz true ([] : List Bk) (joined [] (W ++ l[i].l)) (fun _ => rfl) hgd (by omega) most
      have rS2 := psure true fa fz true ([] : List Bk) (joined [] (W ++ l[i].l)) (fun _ => rfl) hgd (by omega) most
      have rC := count_spec (joined [] (W ++ l[i].l)) (by omega) (fun x hx => by have := (chk_right hck2).1 x hx; omega) false false
      have Sm := same13_spec (blksB ([] : List Bk)) (blksB ([] : List Bk)) (by omega) true true false true
      rw [decide_eq_true rfl] at Sm
      have wT : IntKind.wrap .i64 (totB ([] : List Bk) + sumN (joined [] (W ++ l[i].l))) = totB ([] : List Bk) + sumN (joined [] (W ++ l[i].l)) := wrap64 (by omega) (by omega)
      generalize joined [] (W ++ l[i].l) = Z at *
      generalize sumN Z = sz at *
      simp only [lG, lS, lSJ, rS, rSJ, hJn, hW, if_true, if_false, Bool.true_eq_false, reduceIte, reduceCtorEq] at D R pT pS pN rW rS1 rS2 ih ⊢
      generalize l[i].l = r at *
      generalize sumN W = sw at *
      simp [lG, lS, rSn, ixP, rS, rSA, rSB, rF, fF, fB, fileB, nilS, endE, encEnd, hW, show totB [] = 0 from rfl, show blksB [] = [] from rfl, show sumN [] = 0 from rfl, lSJ, rSJ, hJn] at D R ih wT pT pS pN pB rA rW rS1 rS2 rC Sm
      simp [go_sem, run_codeL E L4_0.eq_1, hi, hgi, hr, wi, purse_eq, List.range_succ, D, R, he, wT, pT, pS, pN, pB, rA, rW, rS1, rS2, rC, Sm, lG, lS, rSn, ixP, rS, rSA, rSB, rF, fF, fB, fileB, nilS, endE, encEnd, hW, show totB [] = 0 from rfl, show blksB [] = [] from rfl, show sumN [] = 0 from rfl, hJn]
      rw [run_inLoop']
      simp [go_sem, purse_eq, List.range_succ]
      exact ih
    · have ha : appE ([] : List Bk) W l[i].l = chk l[i].l := by unfold appE; rw [if_pos hc]
      have ih := ih ([] : List Bk) W false false true true fa fz true hso v.succ
      simp only [ha, hc, ne_eq, not_false_eq_true, if_true] at D R
      clear ha
      have hlL1 : ([] : List Bk).length ≤ 1000000 := hlL
      have hbl1 : (blksB ([] : List Bk)).length ≤ 900000 := hbl
      have pT := gticks false false false lq ([] : List Bk) W (fun _ => rfl) hlL1 hlW v.ck ht 0 most false
      have pS := gsure0 true W most false
      have pN := gblocks false false false true ([] : List Bk) W (fun _ => rfl) hlL1 0 most false
      have pB := fbytes false false (blksB ([] : List Bk)) (by omega) 0 most false
      have rA := rfall true fa (blksB ([] : List Bk)) (fun h => nomatch h) (by omega) most
      have rW := pwritten true fa fz lr ([] : List Bk) W (fun _ => rfl) hgd hlL1 most
      have rS1 := psure true fa fz true ([] : List Bk) W (fun _ => rfl) hgd (by omega) most
      have rS2 := psure true fa fz lr ([] : List Bk) W (fun _ => rfl) hgd (by omega) most
      have rC := count_spec W (by omega) (fun x hx => by have := (chk_right v.ck).1 x hx; omega) false false
      have Sm := same13_spec (blksB ([] : List Bk)) (blksB ([] : List Bk)) (by omega) true true false true
      rw [decide_eq_true rfl] at Sm
      have wT : IntKind.wrap .i64 (totB ([] : List Bk) + sumN W) = totB ([] : List Bk) + sumN W := wrap64 (by omega) (by omega)
      generalize chk l[i].l = c at *
      generalize l[i].l = r at *
      generalize sumN W = sw at *
      simp [lG, lS, rSn, ixP, rS, rSA, rSB, rF, fF, fB, fileB, nilS, endE, encEnd, hW, show totB [] = 0 from rfl, show blksB [] = [] from rfl, show sumN [] = 0 from rfl] at D R ih wT pT pS pN pB rA rW rS1 rS2 rC Sm
      simp [go_sem, run_codeL E L4_0.eq_1, hi, hgi, hr, wi, purse_eq, List.range_succ, D, R, he, wT, pT, pS, pN, pB, rA, rW, rS1, rS2, rC, Sm, hc, lG, lS, rSn, ixP, rS, rSA, rSB, rF, fF, fB, fileB, nilS, endE, encEnd, hW, show totB [] = 0 from rfl, show blksB [] = [] from rfl, show sumN [] = 0 from rfl]
      rw [run_inLoop']
      simp [go_sem, purse_eq, List.range_succ]
      exact ih
set_option maxHeartbeats 8000000 in
theorem plays_B0 (ff lw lq fa fz lr : Bool) (L : List Bk) (hL : L ≠ []) (most : Int) (hm : 1 ≤ most ∧ most ≤ 1000) (l : List RowV) (nl fu : Bool) (hl4 : l.length ≤ 40) (hfew : ∀ r ∈ l, fewR r.l = true) (hfit : ∀ r ∈ l, r.Fit) (i : Nat) (hi : i < l.length) (v : FInv most i L ([] : List Run)) (k : List Item) (Q : Option (AVal × Heap))
    (ih : ∀ L' W' ff lw lq so fa fz lr, (L' ≠ [] → so = true) → FInv most (i + 1) L' W' → finK 0 [.tmp 4] (run E 0 (.code L4_0 :: .inLoop [1000000, 1, 5, 6, 7, 8] L4_0 :: .inBlock 0 :: k) [(1, .imm nl fu true (l.map encRow)), (5, .ptr 0 0), (6, .ptr 1 0), (7, .ptr (ixP L' W') 0), (8, .lit (.int .i64 ((i + 1 : Nat) : Int)))] (lG ff lw lq L' W' most ++ rSn (ixP L' W') so fa fz lr L' W' most)) = Q) :
    finK 0 [.tmp 4] (run E 0 (.code L4_0 :: .inLoop [1000000, 1, 5, 6, 7, 8] L4_0 :: .inBlock 0 :: k) [(1, .imm nl fu true (l.map encRow)), (5, .ptr 0 0), (6, .ptr 1 0), (7, .ptr (ixP L ([] : List Run)) 0), (8, .lit (.int .i64 i))] (lG ff lw lq L ([] : List Run) most ++ rSn (ixP L ([] : List Run)) true fa fz lr L ([] : List Run) most)) = Q := by
  have hfo : true = false → L = [] := (fun h => nomatch h)
  have hso : L ≠ [] → true = true := (fun _ => rfl)
  have hb := v.bs
  have hln := v.ln
  have ht := v.tot
  have hsW := v.sum
  have wi := wrapIdx (i := i) (by omega)
  have hg := acc_facts v.good (by omega)
  have hgd := v.good
  obtain ⟨g1, g2, g3, g4⟩ := hg hL
  have hlL : L.length ≤ 1000000 := by omega
  have hbl : (blksB L).length ≤ 900000 := by omega
  have hlW : ([] : List Run).length ≤ 4096 := by simp
  have hbn : blksB L ≠ [] := by
    intro q
    have := good_len L 0 v.good
    rw [q] at this
    have := List.length_pos_iff.2 hL
    simp at *; omega
  have hie : (blksB L).isEmpty = false := by simpa using hbn
  have hgi : (l.map encRow)[i]? = some (encRow l[i]) := by simp [List.getElem?_eq_getElem hi]
  have hmem := List.getElem_mem hi
  have hw := hfew _ hmem
  have hf0 := hfit _ hmem
  have hr : encRow l[i] = [.imm l[i].nl l[i].fu true (l[i].l.map encRun)] := rfl
  generalize l[i].nl = rn at *
  generalize l[i].fu = rf at *
  by_cases he : l[i].l = []
  · rw [he] at hr
    have D := gdoes0 true ff lw lq L hfo (blksB L).length most rn rf
    have R := pflush0 true fa fz lr L hso hgd (by omega) most
    have ih := ih L [] ff lw true true false fz true (fun _ => rfl) v.succ
    have hlL1 : L.length ≤ 1000000 := hlL
    have hbl1 : (blksB L).length ≤ 900000 := hbl
    have pT := gticks true ff lw lq L ([] : List Run) (fun h => nomatch h) hlL1 (by simp) rfl ht (blksB L).length most false
    have pS := gsure ff lw true L ([] : List Run) hL hlL1 most false
    have pN := gblocks true ff lw true L ([] : List Run) (fun h => nomatch h) hlL1 (blksB L).length most false
    have pB := fbytes true ff (blksB L) (by omega) (blksB L).length most false
    have rA := rfall true false (blksB L) (fun h => nomatch h) (by omega) most
    have rW := pwritten true false fz lr L ([] : List Run) (fun _ => rfl) hgd hlL1 most
    have rS1 := psure true false fz true L ([] : List Run) (fun _ => rfl) hgd (by omega) most
    have rS2 := psure true false fz lr L ([] : List Run) (fun _ => rfl) hgd (by omega) most
    have rC := count_spec [] (by simp) (fun x hx => by have := (chk_right rfl).1 x hx; omega) true true
    have Sm := same13_spec (blksB L) (blksB L) (by omega) false false false false
    rw [decide_eq_true rfl] at Sm
    have wT : IntKind.wrap .i64 (totB L + sumN []) = totB L + sumN [] := wrap64 (by simp [sumN]; omega) (by simp [sumN]; omega)
    simp only [lG, lS, lSJ, flH, pfH, pf0, rSn, ixP, rS, rSJ, rSA, rSB, rF, fF, fB, hL, if_true, if_false, Bool.true_eq_false, reduceIte, reduceCtorEq] at D R ih wT pT pS pN pB rA rW rS1 rS2 rC Sm ⊢
    generalize joined [] (allR L) = J at *
    generalize blksB L = bs at *
    generalize totB L = T at *
    generalize endsGo 0 0 L = es at *
    generalize hnL : L.length = nL at *
    simp [lG, lS, rSn, ixP, rS, rSA, rSB, rF, fF, fB, fileB, nilS, endE, encEnd, hL, show totB [] = 0 from rfl, show blksB [] = [] from rfl, show sumN [] = 0 from rfl, pf0, hie] at D R ih wT pT pS pN pB rA rW rS1 rS2 rC Sm
    simp [go_sem, run_codeL E L4_0.eq_1, hi, hgi, hr, wi, purse_eq, List.range_succ, D, R, wT, pT, pS, pN, pB, rA, rW, rS1, rS2, rC, Sm, lG, lS, rSn, ixP, rS, rSA, rSB, rF, fF, fB, fileB, nilS, endE, encEnd, hL, show totB [] = 0 from rfl, show blksB [] = [] from rfl, show sumN [] = 0 from rfl]
    rw [run_inLoop']
    simp [go_sem, purse_eq, List.range_succ]
    exact ih
  · have hl12 : l[i].l.length ≤ 12 := by simp [fewR] at hw; exact hw.1
    have hn : ∀ x ∈ l[i].l, x.N ≤ 1000000 := by simp [fewR] at hw; exact hw.2
    have hok : ∀ x ∈ l[i].l, x.Ok := fun x hx => (hf0.1 x hx).ok
    have D := gdoesA true ff lw lq L ([] : List Run) l[i].l he hfo hlL hlW v.ck ht (by omega) hok (blksB L).length most rn rf
    have R := pappend true fa fz lr L ([] : List Run) l[i].l he hso hgd hlL hlW v.ck ht (by omega) hok (fun hc => (v.app (by omega) hc hl12 hn hf0.1).2) most rn rf
    by_cases hc : chk l[i].l = 0
    · obtain ⟨v2, ha⟩ := v.app (by omega) hc hl12 hn hf0.1
      have hln2 := v2.ln
      have hs2 := v2.sum
      have hck2 := v2.ck
      have hJn : joined [] (([] : List Run) ++ l[i].l) ≠ [] := joined_ne (fun x hx => ((sum_joined v.ck hc).2 x hx).1) (by simp [he])
      have ih := ih L (joined [] (([] : List Run) ++ l[i].l)) ff lw true true fa fz true hso v2
      simp only [ha, hc, ne_eq, not_true_eq_false, if_false, if_true] at D R
      have hlL1 : L.length ≤ 1000000 := hlL
      have hbl1 : (blksB L).length ≤ 900000 := hbl
      have pT := gticks true ff lw false L (joined [] (([] : List Run) ++ l[i].l)) (fun h => nomatch h) hlL1 (by omega) hck2 ht (blksB L).length most false
      have pS := gsure ff lw true L (joined [] (([] : List Run) ++ l[i].l)) hL hlL1 most false
      have pN := gblocks true ff lw true L (joined [] (([] : List Run) ++ l[i].l)) (fun h => nomatch h) hlL1 (blksB L).length most false
      have pB := fbytes true ff (blksB L) (by omega) (blksB L).length most false
      have rA := rfall true fa (blksB L) (fun h => nomatch h) (by omega) most
      have rW := pwritten true fa fz true L (joined [] (([] : List Run) ++ l[i].l)) (fun _ => rfl) hgd hlL1 most
      have rS1 := psure true fa fz true L (joined [] (([] : List Run) ++ l[i].l)) (fun _ => rfl) hgd (by omega) most
      have rS2 := psure true fa fz true L (joined [] (([] : List Run) ++ l[i].l)) (fun _ => rfl) hgd (by omega) most
      have rC := count_spec (joined [] (([] : List Run) ++ l[i].l)) (by omega) (fun x hx => by have := (chk_right hck2).1 x hx; omega) false false
      have Sm := same13_spec (blksB L) (blksB L) (by omega) false false false false
      rw [decide_eq_true rfl] at Sm
      have wT : IntKind.wrap .i64 (totB L + sumN (joined [] (([] : List Run) ++ l[i].l))) = totB L + sumN (joined [] (([] : List Run) ++ l[i].l)) := wrap64 (by omega) (by omega)
      generalize joined [] (([] : List Run) ++ l[i].l) = Z at *
      generalize sumN Z = sz at *
      simp only [lG, lS, lSJ, flH, pfH, pf0, rSn, ixP, rS, rSJ, rSA, rSB, rF, fF, fB, hL, hJn, if_true, if_false, Bool.true_eq_false, reduceIte, reduceCtorEq] at D R ih  wT pT pS pN pB rA rW rS1 rS2 rC Sm ⊢
      generalize l[i].l = r at *
      generalize joined [] (allR L) = J at *
      generalize blksB L = bs at *
      generalize totB L = T at *
      generalize endsGo 0 0 L = es at *
      generalize hnL : L.length = nL at *
      simp [lG, lS, rSn, ixP, rS, rSA, rSB, rF, fF, fB, fileB, nilS, endE, encEnd, hL, show totB [] = 0 from rfl, show blksB [] = [] from rfl, show sumN [] = 0 from rfl, lSJ, rSJ, hJn, hie] at D R ih wT pT pS pN pB rA rW rS1 rS2 rC Sm
      simp [go_sem, run_codeL E L4_0.eq_1, hi, hgi, hr, wi, purse_eq, List.range_succ, D, R, he, wT, pT, pS, pN, pB, rA, rW, rS1, rS2, rC, Sm, lG, lS, rSn, ixP, rS, rSA, rSB, rF, fF, fB, fileB, nilS, endE, encEnd, hL, show totB [] = 0 from rfl, show blksB [] = [] from rfl, show sumN [] = 0 from rfl, hJn]
      rw [run_inLoop']
      simp [go_sem, purse_eq, List.range_succ]
      exact ih
    · have ha : appE L ([] : List Run) l[i].l = chk l[i].l := by unfold appE; rw [if_pos hc]
      have ih := ih L ([] : List Run) ff lw true true fa fz true hso v.succ
      simp only [ha, hc, ne_eq, not_false_eq_true, if_true] at D R
      clear ha
      have hlL1 : L.length ≤ 1000000 := hlL
      have hbl1 : (blksB L).length ≤ 900000 := hbl
      have pT := gticks true ff lw lq L ([] : List Run) (fun h => nomatch h) hlL1 hlW v.ck ht (blksB L).length most false
      have pS := gsure ff lw true L ([] : List Run) hL hlL1 most false
      have pN := gblocks true ff lw true L ([] : List Run) (fun h => nomatch h) hlL1 (blksB L).length most false
      have pB := fbytes true ff (blksB L) (by omega) (blksB L).length most false
      have rA := rfall true fa (blksB L) (fun h => nomatch h) (by omega) most
      have rW := pwritten true fa fz lr L ([] : List Run) (fun _ => rfl) hgd hlL1 most
      have rS1 := psure true fa fz true L ([] : List Run) (fun _ => rfl) hgd (by omega) most
      have rS2 := psure true fa fz lr L ([] : List Run) (fun _ => rfl) hgd (by omega) most
      have rC := count_spec ([] : List Run) (by omega) (fun x hx => by have := (chk_right v.ck).1 x hx; omega) true true
      have Sm := same13_spec (blksB L) (blksB L) (by omega) false false false false
      rw [decide_eq_true rfl] at Sm
      have wT : IntKind.wrap .i64 (totB L + sumN ([] : List Run)) = totB L + sumN ([] : List Run) := wrap64 (by simp only [show sumN ([] : List Run) = 0 from rfl] at *; omega) (by simp only [show sumN ([] : List Run) = 0 from rfl] at *; omega)
      simp only [lG, lS, lSJ, flH, pfH, pf0, rSn, ixP, rS, rSJ, rSA, rSB, rF, fF, fB, hL, if_true, if_false, Bool.true_eq_false, reduceIte, reduceCtorEq] at D R ih wT pT pS pN pB rA rW rS1 rS2 rC Sm ⊢
      generalize chk l[i].l = c at *
      generalize l[i].l = r at *
      generalize joined [] (allR L) = J at *
      generalize blksB L = bs at *
      generalize totB L = T at *
      generalize endsGo 0 0 L = es at *
      generalize hnL : L.length = nL at *
      simp [lG, lS, rSn, ixP, rS, rSA, rSB, rF, fF, fB, fileB, nilS, endE, encEnd, hL, show totB [] = 0 from rfl, show blksB [] = [] from rfl, show sumN [] = 0 from rfl, hie] at D R ih wT pT pS pN pB rA rW rS1 rS2 rC Sm
      simp [go_sem, run_codeL E L4_0.eq_1, hi, hgi, hr, wi, purse_eq, List.range_succ, D, R, he, wT, pT, pS, pN, pB, rA, rW, rS1, rS2, rC, Sm, hc, lG, lS, rSn, ixP, rS, rSA, rSB, rF, fF, fB, fileB, nilS, endE, encEnd, hL, show totB [] = 0 from rfl, show blksB [] = [] from rfl, show sumN [] = 0 from rfl]
      rw [run_inLoop']
      simp [go_sem, purse_eq, List.range_succ]
      exact ih
set_option maxHeartbeats 8000000 in
theorem plays_B1 (ff lw lq fa fz lr : Bool) (L : List Bk) (hL : L ≠ []) (W : List Run) (hW : W ≠ []) (most : Int) (hm : 1 ≤ most ∧ most ≤ 1000) (l : List RowV) (nl fu : Bool) (hl4 : l.length ≤ 40) (hfew : ∀ r ∈ l, fewR r.l = true) (hfit : ∀ r ∈ l, r.Fit) (i : Nat) (hi : i < l.length) (v : FInv most i L W) (k : List Item) (Q : Option (AVal × Heap))
    (ih : ∀ L' W' ff lw lq so fa fz lr, (L' ≠ [] → so = true) → FInv most (i + 1) L' W' → finK 0 [.tmp 4] (run E 0 (.code L4_0 :: .inLoop [1000000, 1, 5, 6, 7, 8] L4_0 :: .inBlock 0 :: k) [(1, .imm nl fu true (l.map encRow)), (5, .ptr 0 0), (6, .ptr 1 0), (7, .ptr (ixP L' W') 0), (8, .lit (.int .i64 ((i + 1 : Nat) : Int)))] (lG ff lw lq L' W' most ++ rSn (ixP L' W') so fa fz lr L' W' most)) = Q) :
    finK 0 [.tmp 4] (run E 0 (.code L4_0 :: .inLoop [1000000, 1, 5, 6, 7, 8] L4_0 :: .inBlock 0 :: k) [(1, .imm nl fu true (l.map encRow)), (5, .ptr 0 0), (6, .ptr 1 0), (7, .ptr (ixP L W) 0), (8, .lit (.int .i64 i))] (lG ff lw lq L W most ++ rSn (ixP L W) true fa fz lr L W most)) = Q := by
  have hfo : true = false → L = [] := (fun h => nomatch h)
  have hso : L ≠ [] → true = true := (fun _ => rfl)
  have hb := v.bs
  have hln := v.ln
  have ht := v.tot
  have hsW := v.sum
  have wi := wrapIdx (i := i) (by omega)
  have hg := acc_facts v.good (by omega)
  have hgd := v.good
  obtain ⟨g1, g2, g3, g4⟩ := hg hL
  have hlL : L.length ≤ 1000000 := by omega
  have hbl : (blksB L).length ≤ 900000 := by omega
  have hlW : W.length ≤ 4096 := by omega
  have hbn : blksB L ≠ [] := by
    intro q
    have := good_len L 0 v.good
    rw [q] at this
    have := List.length_pos_iff.2 hL
    simp at *; omega
  have hie : (blksB L).isEmpty = false := by simpa using hbn
  have hgi : (l.map encRow)[i]? = some (encRow l[i]) := by simp [List.getElem?_eq_getElem hi]
  have hmem := List.getElem_mem hi
  have hw := hfew _ hmem
  have hf0 := hfit _ hmem
  have hr : encRow l[i] = [.imm l[i].nl l[i].fu true (l[i].l.map encRun)] := rfl
  generalize l[i].nl = rn at *
  generalize l[i].fu = rf at *
  by_cases he : l[i].l = []
  · rw [he] at hr
    have hc := v.chkB (by omega) hW
    have hpW := v.pos hW
    have D := gdoesF true ff lw lq L W hfo hW hc v.jo v.dr ht hg (by omega) (blksB L).length most (by omega) rn rf
    by_cases hf : most < ((blksB L).length : Int) + (putBk (totB L, W)).length
    · simp only [hf, if_true] at D
      have R := pflushF true fa fz lr L W hso hW hgd (by omega) hc most hf
      have ih := ih L W ff lw true true fa fz true hso v.succ
      have hlL1 : L.length ≤ 1000000 := hlL
      have hbl1 : (blksB L).length ≤ 900000 := hbl
      have pT := gticks true ff lw true L W (fun h => nomatch h) hlL1 hlW v.ck ht (blksB L).length most false
      have pS := gsure ff lw true L W hL hlL1 most false
      have pN := gblocks true ff lw true L W (fun h => nomatch h) hlL1 (blksB L).length most false
      have pB := fbytes true ff (blksB L) (by omega) (blksB L).length most false
      have rA := rfall true fa (blksB L) (fun h => nomatch h) (by omega) most
      have rW := pwritten true fa fz true L W (fun _ => rfl) hgd hlL1 most
      have rS1 := psure true fa fz true L W (fun _ => rfl) hgd (by omega) most
      have rS2 := psure true fa fz true L W (fun _ => rfl) hgd (by omega) most
      have rC := count_spec W (by omega) (fun x hx => by have := (chk_right v.ck).1 x hx; omega) false false
      have Sm := same13_spec (blksB L) (blksB L) (by omega) false false false false
      rw [decide_eq_true rfl] at Sm
      have wT : IntKind.wrap .i64 (totB L + sumN W) = totB L + sumN W := wrap64 (by omega) (by omega)
      clear hf hc
      simp only [lG, lS, lSJ, flH, pfH, pf0, rSn, ixP, rS, rSJ, rSA, rSB, rF, fF, fB, hL, hW, if_true, if_false, Bool.true_eq_false, reduceIte, reduceCtorEq] at D R ih wT pT pS pN pB rA rW rS1 rS2 rC Sm ⊢
      generalize joined [] (allR L) = J at *
      generalize blksB L = bs at *
      generalize totB L = T at *
      generalize endsGo 0 0 L = es at *
      generalize hnL : L.length = nL at *
      generalize sumN W = sw at *
      simp [lG, lS, rSn, ixP, rS, rSA, rSB, rF, fF, fB, fileB, nilS, endE, encEnd, hL, hW, show totB [] = 0 from rfl, show blksB [] = [] from rfl, show sumN [] = 0 from rfl, hie] at D R ih wT pT pS pN pB rA rW rS1 rS2 rC Sm
      simp [go_sem, run_codeL E L4_0.eq_1, hi, hgi, hr, wi, purse_eq, List.range_succ, D, R, wT, pT, pS, pN, pB, rA, rW, rS1, rS2, rC, Sm, lG, lS, rSn, ixP, rS, rSA, rSB, rF, fF, fB, fileB, nilS, endE, encEnd, hL, hW, show totB [] = 0 from rfl, show blksB [] = [] from rfl, show sumN [] = 0 from rfl]
      rw [run_inLoop']
      simp [go_sem, purse_eq, List.range_succ]
      exact ih
    · simp only [hf, if_false] at D
      have R := pflushOk true fa fz lr L W hso hW hgd (by omega) hc most hf
      have v2 := v.flush (by omega) hW hf
      have gd2 := v2.good
      have ht2 := v2.tot
      have hb2 := v2.bs
      have hpl := putBk_len (x := (totB L, W)) hc
      have hlL2 := good_len _ 0 gd2
      have e4 : ¬ (L ++ [(totB L, W)]) = [] := by simp
      have ih := ih (L ++ [(totB L, W)]) [] false false true true false fz true (fun _ => rfl) v2
      have hlL1 : (L ++ [(totB L, W)]).length ≤ 1000000 := (by omega)
      have hbl1 : (blksB (L ++ [(totB L, W)])).length ≤ 900000 := (by omega)
      have pT := gticks true false false true (L ++ [(totB L, W)]) ([] : List Run) (fun h => nomatch h) hlL1 (by simp) rfl ht2 (blksB (L ++ [(totB L, W)])).length most false
      have pS := gsure false false true (L ++ [(totB L, W)]) ([] : List Run) e4 hlL1 most false
      have pN := gblocks true false false true (L ++ [(totB L, W)]) ([] : List Run) (fun h => nomatch h) hlL1 (blksB (L ++ [(totB L, W)])).length most false
      have pB := fbytes true false (blksB (L ++ [(totB L, W)])) (by omega) (blksB (L ++ [(totB L, W)])).length most false
      have rA := rfall true false (blksB (L ++ [(totB L, W)])) (fun h => nomatch h) (by omega) most
      have rW := pwritten true false fz true (L ++ [(totB L, W)]) ([] : List Run) (fun _ => rfl) gd2 hlL1 most
      have rS1 := psure true false fz true (L ++ [(totB L, W)]) ([] : List Run) (fun _ => rfl) gd2 (by omega) most
      have rS2 := psure true false fz true (L ++ [(totB L, W)]) ([] : List Run) (fun _ => rfl) gd2 (by omega) most
      have rC := count_spec [] (by simp) (fun x hx => by have := (chk_right rfl).1 x hx; omega) true true
      have Sm := same13_spec (blksB (L ++ [(totB L, W)])) (blksB (L ++ [(totB L, W)])) (by omega) false false false false
      rw [decide_eq_true rfl] at Sm
      have wT : IntKind.wrap .i64 (totB (L ++ [(totB L, W)]) + sumN []) = totB (L ++ [(totB L, W)]) + sumN [] := wrap64 (by simp only [show sumN ([] : List Run) = 0 from rfl]; omega) (by simp only [show sumN ([] : List Run) = 0 from rfl]; omega)
      have e1 : blksB (L ++ [(totB L, W)]) = blksB L ++ putBk (totB L, W) := by rw [blksB_append]; simp [blksB]
      have e2 : allR (L ++ [(totB L, W)]) = allR L ++ W := by simp [allR]
      have e3 : endsGo 0 0 (L ++ [(totB L, W)]) = endsGo 0 0 L ++ [((blksB L).length + (putBk (totB L, W)).length, totB L + sumN W)] := by rw [endsGo_append]; simp [endsGo]
      have e5 : totB (L ++ [(totB L, W)]) = totB L + sumN W := by rw [totB_append]; simp [totB]
      have e6 : ((L ++ [(totB L, W)])).map encBk = L.map encBk ++ [encBk (totB L, W)] := by simp
      have hbn2 : blksB L ++ putBk (totB L, W) ≠ [] := by intro q; have : (putBk (totB L, W)) = [] := (List.append_eq_nil_iff.1 q).2; rw [this] at hpl; simp at hpl
      have hie2 : (blksB L ++ putBk (totB L, W)).isEmpty = false := by simpa using hbn2
      simp only [lG, ixP, rSn, rS, rSA, if_neg e4, lS, rF, fF, fB, e1, e2, e3, e5, e6, if_true, Bool.true_eq_false, if_false, reduceIte, reduceCtorEq, List.length_append, List.length_cons, List.length_nil, Nat.zero_add] at ih wT pT pS pN pB rA rW rS1 rS2 rC Sm
      simp only [lG, lS, lSJ, flH, pfH, pf0, rSn, ixP, rS, rSJ, rSA, rSB, rF, fF, fB, hL, hW, if_true, if_false, Bool.true_eq_false, reduceIte, reduceCtorEq] at D R ⊢
      generalize joined [] (allR L ++ W) = J2 at *
      generalize putBk (totB L, W) = pb at *
      generalize joined [] (allR L) = J at *
      generalize blksB L = bs at *
      generalize totB L = T at *
      generalize endsGo 0 0 L = es at *
      generalize hnL : L.length = nL at *
      generalize sumN W = sw at *
      simp [lG, lS, rSn, ixP, rS, rSA, rSB, rF, fF, fB, fileB, nilS, endE, encEnd, hL, hW, show totB [] = 0 from rfl, show blksB [] = [] from rfl, show sumN [] = 0 from rfl, e4, hie2, flH, pfH, hbn2] at D R ih wT pT pS pN pB rA rW rS1 rS2 rC Sm
      simp [go_sem, run_codeL E L4_0.eq_1, hi, hgi, hr, wi, purse_eq, List.range_succ, D, R, wT, pT, pS, pN, pB, rA, rW, rS1, rS2, rC, Sm, lG, lS, rSn, ixP, rS, rSA, rSB, rF, fF, fB, fileB, nilS, endE, encEnd, hL, hW, show totB [] = 0 from rfl, show blksB [] = [] from rfl, show sumN [] = 0 from rfl, e4, hie2, hbn2]
      rw [run_inLoop']
      simp [go_sem, purse_eq, List.range_succ]
      exact ih
  · have hl12 : l[i].l.length ≤ 12 := by simp [fewR] at hw; exact hw.1
    have hn : ∀ x ∈ l[i].l, x.N ≤ 1000000 := by simp [fewR] at hw; exact hw.2
    have hok : ∀ x ∈ l[i].l, x.Ok := fun x hx => (hf0.1 x hx).ok
    have D := gdoesA true ff lw lq L W l[i].l he hfo hlL hlW v.ck ht (by omega) hok (blksB L).length most rn rf
    have R := pappend true fa fz lr L W l[i].l he hso hgd hlL hlW v.ck ht (by omega) hok (fun hc => (v.app (by omega) hc hl12 hn hf0.1).2) most rn rf
    by_cases hc : chk l[i].l = 0
    · obtain ⟨v2, ha⟩ := v.app (by omega) hc hl12 hn hf0.1
      have hln2 := v2.ln
      have hs2 := v2.sum
      have hck2 := v2.ck
      have hJn : joined [] (W ++ l[i].l) ≠ [] := joined_ne (fun x hx => ((sum_joined v.ck hc).2 x hx).1) (by simp [he])
      have ih := ih L (joined [] (W ++ l[i].l)) ff lw true true fa fz true hso v2
      simp only [ha, hc, ne_eq, not_true_eq_false, if_false, if_true, hW] at D R
      have hlL1 : L.length ≤ 1000000 := hlL
      have hbl1 : (blksB L).length ≤ 900000 := hbl
      have pT := gticks true ff lw false L (joined [] (W ++ l[i].l)) (fun h => nomatch h) hlL1 (by omega) hck2 ht (blksB L).length most false
      have pS := gsure ff lw true L (joined [] (W ++ l[i].l)) hL hlL1 most false
      have pN := gblocks true ff lw true L (joined [] (W ++ l[i].l)) (fun h => nomatch h) hlL1 (blksB L).length most false
      have pB := fbytes true ff (blksB L) (by omega) (blksB L).length most false
      have rA := rfall true fa (blksB L) (fun h => nomatch h) (by omega) most
      have rW := pwritten true fa fz true L (joined [] (W ++ l[i].l)) (fun _ => rfl) hgd hlL1 most
      have rS1 := psure true fa fz true L (joined [] (W ++ l[i].l)) (fun _ => rfl) hgd (by omega) most
      have rS2 := psure true fa fz true L (joined [] (W ++ l[i].l)) (fun _ => rfl) hgd (by omega) most
      have rC := count_spec (joined [] (W ++ l[i].l)) (by omega) (fun x hx => by have := (chk_right hck2).1 x hx; omega) false false
      have Sm := same13_spec (blksB L) (blksB L) (by omega) false false false false
      rw [decide_eq_true rfl] at Sm
      have wT : IntKind.wrap .i64 (totB L + sumN (joined [] (W ++ l[i].l))) = totB L + sumN (joined [] (W ++ l[i].l)) := wrap64 (by omega) (by omega)
      generalize joined [] (W ++ l[i].l) = Z at *
      generalize sumN Z = sz at *
      simp only [lG, lS, lSJ, flH, pfH, pf0, rSn, ixP, rS, rSJ, rSA, rSB, rF, fF, fB, hL, hW, hJn, if_true, if_false, Bool.true_eq_false, reduceIte, reduceCtorEq] at D R ih  wT pT pS pN pB rA rW rS1 rS2 rC Sm ⊢
      generalize l[i].l = r at *
      generalize joined [] (allR L) = J at *
      generalize blksB L = bs at *
      generalize totB L = T at *
      generalize endsGo 0 0 L = es at *
      generalize hnL : L.length = nL at *
      generalize sumN W = sw at *
      simp [lG, lS, rSn, ixP, rS, rSA, rSB, rF, fF, fB, fileB, nilS, endE, encEnd, hL, hW, show totB [] = 0 from rfl, show blksB [] = [] from rfl, show sumN [] = 0 from rfl, lSJ, rSJ, hJn, hie] at D R ih wT pT pS pN pB rA rW rS1 rS2 rC Sm
      simp [go_sem, run_codeL E L4_0.eq_1, hi, hgi, hr, wi, purse_eq, List.range_succ, D, R, he, wT, pT, pS, pN, pB, rA, rW, rS1, rS2, rC, Sm, lG, lS, rSn, ixP, rS, rSA, rSB, rF, fF, fB, fileB, nilS, endE, encEnd, hL, hW, show totB [] = 0 from rfl, show blksB [] = [] from rfl, show sumN [] = 0 from rfl, hJn]
      rw [run_inLoop']
      simp [go_sem, purse_eq, List.range_succ]
      exact ih
    · have ha : appE L W l[i].l = chk l[i].l := by unfold appE; rw [if_pos hc]
      have ih := ih L W ff lw true true fa fz true hso v.succ
      simp only [ha, hc, ne_eq, not_false_eq_true, if_true] at D R
      clear ha
      have hlL1 : L.length ≤ 1000000 := hlL
      have hbl1 : (blksB L).length ≤ 900000 := hbl
      have pT := gticks true ff lw lq L W (fun h => nomatch h) hlL1 hlW v.ck ht (blksB L).length most false
      have pS := gsure ff lw true L W hL hlL1 most false
      have pN := gblocks true ff lw true L W (fun h => nomatch h) hlL1 (blksB L).length most false
      have pB := fbytes true ff (blksB L) (by omega) (blksB L).length most false
      have rA := rfall true fa (blksB L) (fun h => nomatch h) (by omega) most
      have rW := pwritten true fa fz lr L W (fun _ => rfl) hgd hlL1 most
      have rS1 := psure true fa fz true L W (fun _ => rfl) hgd (by omega) most
      have rS2 := psure true fa fz lr L W (fun _ => rfl) hgd (by omega) most
      have rC := count_spec W (by omega) (fun x hx => by have := (chk_right v.ck).1 x hx; omega) false false
      have Sm := same13_spec (blksB L) (blksB L) (by omega) false false false false
      rw [decide_eq_true rfl] at Sm
      have wT : IntKind.wrap .i64 (totB L + sumN W) = totB L + sumN W := wrap64 (by omega) (by omega)
      simp only [lG, lS, lSJ, flH, pfH, pf0, rSn, ixP, rS, rSJ, rSA, rSB, rF, fF, fB, hL, hW, if_true, if_false, Bool.true_eq_false, reduceIte, reduceCtorEq] at D R ih wT pT pS pN pB rA rW rS1 rS2 rC Sm ⊢
      generalize chk l[i].l = c at *
      generalize l[i].l = r at *
      generalize joined [] (allR L) = J at *
      generalize blksB L = bs at *
      generalize totB L = T at *
      generalize endsGo 0 0 L = es at *
      generalize hnL : L.length = nL at *
      generalize sumN W = sw at *
      simp [lG, lS, rSn, ixP, rS, rSA, rSB, rF, fF, fB, fileB, nilS, endE, encEnd, hL, hW, show totB [] = 0 from rfl, show blksB [] = [] from rfl, show sumN [] = 0 from rfl, hie] at D R ih wT pT pS pN pB rA rW rS1 rS2 rC Sm
      simp [go_sem, run_codeL E L4_0.eq_1, hi, hgi, hr, wi, purse_eq, List.range_succ, D, R, he, wT, pT, pS, pN, pB, rA, rW, rS1, rS2, rC, Sm, hc, lG, lS, rSn, ixP, rS, rSA, rSB, rF, fF, fB, fileB, nilS, endE, encEnd, hL, hW, show totB [] = 0 from rfl, show blksB [] = [] from rfl, show sumN [] = 0 from rfl]
      rw [run_inLoop']
      simp [go_sem, purse_eq, List.range_succ]
      exact ih
end Go.AM.R1
open Go Go.AM Go.Proofs
namespace Go.AM.R1
theorem awake17 : call E (.func (.func 18) [] []) [] [] = some (.lit (.bool true), []) :=
  (call_iff E).2 ⟨3000, by kernel_rfl⟩
end Go.AM.R1
open Go Go.AM
namespace Go.AM.R1

theorem plays_loop (most : Int) (hm : 1 ≤ most ∧ most ≤ 1000) (l : List RowV) (nl fu : Bool) (hl4 : l.length ≤ 40) (hfew : ∀ r ∈ l, fewR r.l = true) (hfit : ∀ r ∈ l, r.Fit) (k : List Item) (Q : Option (AVal × Heap))
    (hk : ∀ τ i L W ff lw lq so fa fz lr, (L ≠ [] → so = true) → FInv most i L W → i ≤ 40 → lk 5 τ = .ptr 0 0 → lk 6 τ = .ptr 1 0 → lk 7 τ = .ptr (ixP L W) 0 → finK 0 [.tmp 4] (run E 0 k τ (lG ff lw lq L W most ++ rSn (ixP L W) so fa fz lr L W most)) = Q) :
    ∀ (d i : Nat) (L W) (ff lw lq so fa fz lr : Bool), (L ≠ [] → so = true) → i + d = l.length → FInv most i L W →
    finK 0 [.tmp 4] (run E 0 (.code L4_0 :: .inLoop [1000000, 1, 5, 6, 7, 8] L4_0 :: .inBlock 0 :: k) [(1, .imm nl fu true (l.map encRow)), (5, .ptr 0 0), (6, .ptr 1 0), (7, .ptr (ixP L W) 0), (8, .lit (.int .i64 i))] (lG ff lw lq L W most ++ rSn (ixP L W) so fa fz lr L W most)) = Q := by
  intro d
  induction d with
  | zero =>
    intro i L W ff lw lq so fa fz lr hso hi v
    have : i = l.length := by omega
    subst this
    simp [go_sem, run_codeL E L4_0.eq_1]
    exact hk _ _ L W ff lw lq so fa fz lr hso v hl4 rfl rfl rfl
  | succ d ih =>
    intro i L W ff lw lq so fa fz lr hso hi v
    have ih2 := fun L' W' ff lw lq so fa fz lr hso v2 => ih (i + 1) L' W' ff lw lq so fa fz lr hso (by omega) v2
    by_cases hL : L = []
    · subst hL
      by_cases hW : W = []
      · subst hW
        cases so
        · exact plays_A0f ff lw lq fa fz lr most hm l nl fu hl4 hfew hfit i (by omega) v k Q ih2
        · exact plays_A0t ff lw lq fa fz lr most hm l nl fu hl4 hfew hfit i (by omega) v k Q ih2
      · cases so
        · exact plays_A1f ff lw lq fa fz lr W hW most hm l nl fu hl4 hfew hfit i (by omega) v k Q ih2
        · exact plays_A1t ff lw lq fa fz lr W hW most hm l nl fu hl4 hfew hfit i (by omega) v k Q ih2
    · have := hso hL
      subst this
      by_cases hW : W = []
      · subst hW
        exact plays_B0 ff lw lq fa fz lr L hL most hm l nl fu hl4 hfew hfit i (by omega) v k Q ih2
      · exact plays_B1 ff lw lq fa fz lr L hL W hW most hm l nl fu hl4 hfew hfit i (by omega) v k Q ih2
theorem plays_loop0 (most : Int) (hm : 1 ≤ most ∧ most ≤ 1000) (l : List RowV) (nl fu : Bool) (hl4 : l.length ≤ 40) (hfew : ∀ r ∈ l, fewR r.l = true) (hfit : ∀ r ∈ l, r.Fit) (k : List Item) (Q : Option (AVal × Heap))
    (hk : ∀ τ i L W ff lw lq so fa fz lr, (L ≠ [] → so = true) → FInv most i L W → i ≤ 40 → lk 5 τ = .ptr 0 0 → lk 6 τ = .ptr 1 0 → lk 7 τ = .ptr (ixP L W) 0 → finK 0 [.tmp 4] (run E 0 k τ (lG ff lw lq L W most ++ rSn (ixP L W) so fa fz lr L W most)) = Q) :
    finK 0 [.tmp 4] (run E 0 (.code L4_0 :: .inLoop [1000000, 1, 5, 6, 7, 8] L4_0 :: .inBlock 0 :: k) [(1, .imm nl fu true (l.map encRow)), (5, .ptr 0 0), (6, .ptr 1 0), (7, .ptr 2 0), (8, .lit (.int .i64 0))] [.box [.ptr 1 0, .imm true true true [], .imm true true true [], .imm true true true []], .box [.imm true true true [], .lit (.int .i64 0), .lit (.int .i64 most), .lit (.bool false)], .box [.ptr 3 0, .imm true true true [], .imm true true true []], .box [.lit (.int .i64 most), .imm true true true [], .imm true true true [], .lit (.bool false)]]) = Q := by
  have h := plays_loop most hm l nl fu hl4 hfew hfit k Q hk l.length 0 [] [] false false false false false false false (fun h => absurd rfl h) (by omega) ⟨trivial, rfl, rfl, by simp, by simp, by simp [totB, sumN], by simp [blksB]; omega⟩
  simpa [lG, lS, rSn, ixP, fileB, nilS] using h
set_option maxHeartbeats 4000000 in
theorem logPlays_spec (most : Int) (l : List RowV) (hfit : ∀ r ∈ l, r.Fit) (nl fu : Bool) :
    call E (.func (.func 4) [] []) [.lit (.int .i64 most), .imm nl fu true (l.map encRow)] [] = some (.lit (.bool true), []) := by
  rw [call_func E E4]
  have hF := fewA_spec l nl fu
  by_cases hf : fewA l = true
  · rw [hf] at hF
    by_cases h1 : most < 1
    · have h1' : most ≤ 0 := by omega
      simp [go_sem, ir4, hF, h1, h1', awake17, purse_eq, List.range_succ]
    · by_cases h3 : 1000 < most
      · simp [go_sem, ir4, hF, h1, h3, awake17, purse_eq, List.range_succ]
      · have hm : 1 ≤ most ∧ most ≤ 1000 := by omega
        have hM := lmade_spec most (by omega)
        have hl4 : l.length ≤ 40 := by simp [fewA] at hf; exact hf.1
        have hfew : ∀ r ∈ l, fewR r.l = true := by simp [fewA] at hf; exact hf.2
        simp [lN, fileB, nilS] at hM
        simp [go_sem, ir4, hF, h1, h3, hM, nilS, purse_eq, List.range_succ]
        rw [run_inLoop']
        simp [go_sem, purse_eq, List.range_succ]
        refine plays_loop0 most hm l nl fu hl4 hfew hfit _ _ ?_
        intro τ i L W ff lw lq so fa fz lr hso v hi t5 t6 t7
        have hb := v.bs
        have hg := acc_facts v.good (by omega)
        have hgd := v.good
        by_cases hL : L = []
        · subst hL
          have hR := gruns false false false lq [] W (fun _ => rfl) (by simp [allR, joined]) (fun h => absurd rfl h) 0 most false
          have hR2 := rruns_spec [] trivial (by simp [blksB]) true true
          have Sm := same_spec [] [] (by simp) true true false true
          rw [decide_eq_true rfl] at Sm
          by_cases hW : W = []
          · cases so <;> simp [lG, lS, rSn, ixP, hW, fileB, nilS, allR, joined] at hR hR2 Sm t5 t6 t7 ⊢ <;> simp [go_sem, t5, t6, t7, hR, hR2, Sm, awake17, purse_eq, List.range_succ]
          · cases so <;> simp [lG, lS, rSn, ixP, hW, fileB, nilS, allR, joined] at hR hR2 Sm t5 t6 t7 ⊢ <;> simp [go_sem, t5, t6, t7, hR, hR2, Sm, awake17, purse_eq, List.range_succ]
        · obtain ⟨g1, g2, g3, g4⟩ := hg hL
          have hie : (joined [] (allR L)).isEmpty = false := by simpa using g3
          have hR := gruns true ff lw lq L W (fun h => nomatch h) (by omega) (fun _ => g3) (blksB L).length most false
          have hR2 := rruns_spec L hgd (by omega) false false
          have Sm := same_spec (joined [] (allR L)) (joined [] (allR L)) (by omega) false false false false
          rw [decide_eq_true rfl] at Sm
          simp only [lG, lS, rSn, ixP, hL, if_false, Bool.true_eq_false, if_true] at hR hR2 t7 ⊢
          generalize joined [] (allR L) = J at *
          generalize blksB L = bs at *
          generalize totB L = T at *
          generalize endsGo 0 0 L = es at *
          by_cases hW : W = []
          · simp [hW, hL, hie, fB, fileB, nilS] at hR hR2 Sm t7 ⊢
            simp [go_sem, t5, t6, t7, hR, hR2, Sm, awake17, purse_eq, List.range_succ]
          · simp [hW, hL, hie, fB, fileB, nilS] at hR hR2 Sm t7 ⊢
            simp [go_sem, t5, t6, t7, hR, hR2, Sm, awake17, purse_eq, List.range_succ]
  · have hf' : fewA l = false := by simpa using hf
    rw [hf'] at hF
    simp [go_sem, ir4, hF, awake17, purse_eq, List.range_succ]
end Go.AM.R1
open Go Go.AM Go.AM.R1 Go.Proofs
namespace Go.Proofs.Ytgolbdijmmeebaa
open Go.ChangeShapes Go.WideShapes Go.ChangeAt Go.RowKit
namespace logPlays
theorem own : ownKnob Try.prog.godebug = none := by kernel_rfl
theorem laidOut : laidOutB Try.prog = true := by kernel_rfl
theorem mixed : Try.prog.follows .mixedOrders = true := by kernel_rfl
set_option maxRecDepth 100000 in
theorem contract (H : Type) (enc : TypeId × Value → H) (W : World) (base : Nat) (args : Array Value) (ds gs : List (DataW H)) (before : List MemPlace)
    (hval : ∀ (j : Nat) t v, Try.f4.params[j]? = some t → args[j]? = some v → Value.okWide Try.prog W .any base t v)
    (hW : DataW.Whole enc Try.prog Try.f4.params.toList Rows.logPlaysSpec.vars false W args.toList ds gs before) :
    Calls Try.prog 4 args W fun e W' => ∃ v, e = .returned v ∧ Rows.logPlaysSpec.post enc Try.prog Try.f4 false true false false W args v W' := by
  refine law_contract (id := 4) (f := Try.f4) (s := Rows.logPlaysSpec) (k := 7) (nargs := 2) (base := base) (ds := ds) (gs := gs) (before := before) mixed R1.hE laidOut ?e1 ?e2 (tb := 4) ?e3 Try.underlying4 ?e4 ?e5 ?e7 ?e8 ?e6
  case e7 => exact hval
  case e8 => exact hW
  case e1 => rfl
  case e3 => kernel_rfl
  case e4 => rw [Try.params4]; rfl
  · rw [Try.params4]; decide +kernel
  · intro ds h
    match ds, h with
    | [d1, d2], _ => rfl
  · intro cs hA
    rw [Try.params4] at hA
    obtain ⟨d1, r1, a1, s1, rfl, rfl, h1, hA⟩ := decArgs_cons hA
    obtain ⟨d2, r2, a2, s2, rfl, rfl, h2, hA⟩ := decArgs_cons hA
    obtain ⟨rfl, rfl⟩ := decArgs_nil hA
    obtain ⟨most, -, hw, rfl⟩ := decV_int (n := 6) Try.underlying3 h1
    obtain ⟨nl, fu, l, rfl, hl, -⟩ := decV_acts (n := 2) Try.underlying44 Try.underlying59 Try.underlying25 ⟨_, _, _, Try.underlying42, Try.underlying3, Try.underlying3, Try.underlying40⟩ h2
    obtain ⟨n, hn⟩ := (call_iff R1.E).1 (logPlays_spec most l hl nl fu)
    exact ⟨n, _, hn⟩

set_option maxRecDepth 100000 in
theorem lifted (os : Os) (started : os.Started) (H : Type) (enc : TypeId × Value → H) :
    ReturnsInHanded {} Try.checked os 4 .any (Rows.logPlaysSpec.pre6 enc Try.prog Try.f4 Rows.logPlaysRow.domain false) (Rows.logPlaysSpec.post enc Try.prog Try.f4 false true false false) := by
  refine returnsInHanded_of_change (C := Try.checked) own started (by kernel_rfl) Try.func4
    (ChangeSpec.witness6 (enc := enc) (C := Try.checked) false ⟨#[], #[.int .i64 0, .slice none 0 0], []⟩ 8 (by kernel_rfl) (by kernel_rfl) (by kernel_rfl) (by kernel_rfl)) ?_
  intro W base args ds gs before hval hW _ _
  exact contract H enc W base args ds gs before hval hW

theorem proved : Rows.LogPlaysSaid :=
  OpenClaim.holds_of_wide 4 Try.f4 rfl rfl rfl rfl rfl rfl rfl ⟨rfl, rfl, rfl, rfl, rfl⟩ rfl rfl rfl rfl rfl (by kernel_rfl) Try.func4 (by kernel_rfl)
    (of_decide_eq_true (by kernel_rfl)) (by unfold Func.isWrapper; first | (rw [if_pos (by decide +kernel)]; kernel_rfl) | (rw [if_neg (by decide +kernel)]; exact ⟨rfl, rfl⟩))
    (fun os started H enc _ => lifted os started H enc)
end logPlays
theorem logPlaysProved : Rows.LogPlaysSaid := logPlays.proved
end Go.Proofs.Ytgolbdijmmeebaa
