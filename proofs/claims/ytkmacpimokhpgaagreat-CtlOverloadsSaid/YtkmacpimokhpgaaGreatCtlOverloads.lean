/- The law CtlOverloads of package magnetolaw10 returns true for every input, and its arguments read as before. -/
import Derived.Test.YtkmacpimokhpgaaGreatCtl3
import Derived.ProofKit
set_option linter.unusedVariables false
set_option linter.unusedSimpArgs false
open Go Go.AM
namespace Go.AM.R1
/-! ### An overload -/
theorem step_over {n : Nd} (h : n.mode = 5) (b : Bool) : stepN n b = noFr (domN n b) := by unfold stepN; rw [h]; rfl
theorem step_wait {n : Nd} (h : n.mode = 6) (b : Bool) : stepN n b = noFr (waitN n b) := by unfold stepN; rw [h]; rfl
theorem step_close {n : Nd} (h : n.mode = 7) (b : Bool) : stepN n b = noFr (closeN n b) := by unfold stepN; rw [h]; rfl
theorem ev_no {n : Nd} {b : Bool} {m : Nd} (e : stepN n b = noFr ([], m)) : evN n b = [] ∧ nxN n b = m := by
  unfold evN nxN; rw [e]; exact ⟨rfl, rfl⟩
/-- Behind the levels 0 of an overload's flag, and so many more. -/
def ovN (n : Nd) (j : Nat) : Nd := if j < 6 then { n with wrong := false, mode := 5, k := j } else { n with wrong := false, mode := 6, k := j - 6 }
theorem ov_dr (n : Nd) (j : Nat) : drN (ovN n j) = !decide (j < 6) := by
  unfold ovN drN
  by_cases h : j < 6
  · rw [if_pos h]; simp [h]
  · rw [if_neg h]; simp [h]
theorem ov_step (n : Nd) (j : Nat) (hj : j < 13) : evN (ovN n j) false = [] ∧ nxN (ovN n j) false = ovN n (j + 1) := by
  by_cases h : j < 6
  · refine ev_no ?_
    have e : ovN n j = { n with wrong := false, mode := 5, k := j } := by unfold ovN; rw [if_pos h]
    rw [e, step_over rfl]
    congr 1
    unfold domN
    rw [if_pos rfl]
    congr 1
    by_cases h6 : j + 1 = 6
    · rw [if_pos (show j + 1 = 6 from h6)]; unfold ovN; rw [if_neg (by omega), h6]
    · rw [if_neg (show ¬ j + 1 = 6 from h6)]; unfold ovN; rw [if_pos (by omega)]
  · refine ev_no ?_
    have e : ovN n j = { n with wrong := false, mode := 6, k := j - 6 } := by unfold ovN; rw [if_neg h]
    rw [e, step_wait rfl]
    congr 1
    unfold waitN
    rw [if_neg (by simp), if_neg (by simp), if_neg (show ¬ (j - 6 + 1) % 8 = 0 by omega)]
    congr 1
    unfold ovN
    rw [if_neg (by omega), show j + 1 - 6 = j - 6 + 1 by omega]
/-- Behind the levels 1 that follow. -/
def clN (n : Nd) (j : Nat) : Nd := if j < 8 then { n with mode := 7, k := j } else if j < 11 then { n with mode := 8, k := j - 8 } else { n with mode := 1, k := 0 }
theorem wait_true {n : Nd} (hm : n.mode = 6) : evN n true = [] ∧ nxN n true = clN n 1 := by
  refine ev_no ?_
  rw [step_wait hm]; congr 1
theorem cl_dr (n : Nd) (hq : n.q = []) (j : Nat) : drN (clN n j) = true := by
  unfold clN drN
  by_cases h : j < 8
  · rw [if_pos h]; simp
  · rw [if_neg h]
    by_cases h2 : j < 11
    · rw [if_pos h2]; simp
    · rw [if_neg h2]; simp [hq]
theorem cl_mode (n : Nd) (j : Nat) : (clN n j).mode = if j < 8 then 7 else if j < 11 then 8 else 1 := by
  unfold clN; repeat' split
  all_goals rfl
theorem cl_step (n : Nd) (ht : n.tx = false) (j : Nat) (h1 : 1 ≤ j) (hj : j < 11) : evN (clN n j) true = [] ∧ nxN (clN n j) true = clN n (j + 1) := by
  by_cases h : j < 8
  · refine ev_no ?_
    have e : clN n j = { n with mode := 7, k := j } := by unfold clN; rw [if_pos h]
    rw [e, step_close rfl]
    congr 1
    unfold closeN
    rw [if_pos rfl]
    congr 1
    by_cases h8 : j + 1 = 8
    · rw [if_pos (show j + 1 = 8 from h8)]; unfold clN; rw [if_neg (by omega), if_pos (by omega), h8]
    · rw [if_neg (show ¬ j + 1 = 8 from h8)]; unfold clN; rw [if_pos (by omega)]
  · refine ev_no ?_
    have e : clN n j = { n with mode := 8, k := j - 8 } := by unfold clN; rw [if_neg h, if_pos hj]
    rw [e, step_pause rfl]
    congr 1
    unfold pausN pauseN
    rw [if_pos rfl]
    congr 1
    by_cases h8 : j - 8 + 1 < 3
    · rw [if_pos (show j - 8 + 1 < 3 from h8)]; unfold clN; rw [if_neg (by omega), if_pos (by omega), show j + 1 - 8 = j - 8 + 1 by omega]
    · rw [if_neg (show ¬ j - 8 + 1 < 3 from h8), if_neg (by unfold lateP; show ¬ (n.tx && _) = true; rw [ht]; simp)]
      unfold clN; rw [if_neg (by omega), if_neg (by omega)]
/-- A level 0 in a pause. -/
theorem pause_true {n : Nd} (hm : n.mode = 8) (h2 : n.k < 2) : evN n true = [] ∧ nxN n true = { n with k := n.k + 1 } := by
  refine ev_no ?_
  rw [step_pause hm]; congr 1
  unfold pausN pauseN
  rw [if_pos rfl, if_pos (by omega)]
theorem pause_over {n : Nd} (hm : n.mode = 8) (h2 : n.k < 2) : evN n false = [(9, Fr.zero)] ∧ nxN n false = ovN n 0 := by
  have e : stepN n false = noFr (overN n) := by
    rw [step_pause hm]; congr 1
    unfold pausN
    rw [if_neg (by simp), if_pos h2]
  refine ⟨by unfold evN; rw [e]; rfl, by unfold nxN; rw [e]; rfl⟩
theorem pause_start {n : Nd} (hm : n.mode = 8) (h2 : n.k = 2) (hq : n.q = []) : evN n false = [] ∧ nxN n false = startN n false := by
  refine ev_no ?_
  rw [step_pause hm]; congr 1
  unfold pausN
  rw [if_neg (by simp), if_neg (by omega), hq]; rfl
end Go.AM.R1
open Go Go.AM
namespace Go.AM.R1
abbrev Any (_ : Nat) (_ : Nd) (_ : Bool) : Prop := True
set_option maxHeartbeats 4000000 in
theorem ol_loop0 (av mv : Int) (row : List Bool) (hl : row.length ≤ 100000) (a b : Nat) (lkr : Bool) (m : Nd) (k : List Item) (Q : Option (AVal × Heap))
    (hk : ∀ H fs τ, lk 1 τ = .lit (.int .i64 av) → lk 2 τ = .lit (.int .i64 mv) → lk 9 τ = .ptr a 0 → NodeAt H a m fs → finK 0 [.tmp 6] (run E 0 k τ H) = Q) :
    ∀ (d j : Nat), j + d = row.length → ∀ H fs n, NodeAt H a n fs → n.Inv → n.k ≤ 100 + j → Ext H fs b (rowE row lkr) → ∀ P, Chk P j n (row.drop j) m →
    finK 0 [.tmp 6] (run E 0 (.code L7_0 :: .inLoop [1, 2, 7, 9, 10] L7_0 :: .inBlock 0 :: k) [(1, .lit (.int .i64 av)), (2, .lit (.int .i64 mv)), (7, .own b row.length 1 0 row.length), (9, .ptr a 0), (10, .lit (.int .i64 j))] H) = Q := by
  intro d
  induction d with
  | zero =>
    intro j hj H fs n h hI hkk hb P hok
    have hlt : ((j : Int) < (row.length : Int)) = False := eq_false (by omega)
    rw [List.drop_eq_nil_of_le (by omega)] at hok
    have : m = n := hok
    subst this
    simp [go_sem, run_codeL E L7_0.eq_1, hlt]
    exact hk H fs _ (by simp [lk]) (by simp [lk]) (by simp [lk]) h
  | succ d ih =>
    intro j hj H fs n h hI hkk hb P hok
    have hlt : ((j : Int) < (row.length : Int)) = True := eq_true (by omega)
    have w3 := wrapIdx (i := j) (by omega)
    have hil : j < row.length := by omega
    obtain ⟨x, hx⟩ : ∃ x, x = row[j] := ⟨_, rfl⟩
    rw [List.drop_eq_getElem_cons hil, ← hx] at hok
    obtain ⟨H2, fs2, ix, hs, h2, a2, -⟩ := step_at h hI (by omega) x
    have hb2 := hb.around a2
    have hre := reach_mix h2 [b] [] (by intro c hc; simp at hc; subst hc; exact ⟨_, hb2.get, rfl⟩) (by simp; exact ⟨hb2.out, nodeAt_nodup h2⟩) (by simp)
    have ih2 := ih (j + 1) (by omega) (sweep ([b] ++ fs2 ++ []) 0 H2) fs2 (nxN n x) (nodeAt_sweep h2 (by intro i hi; simp [hi])) (inv_next hI x) (by have := k_next n x hI.mode; omega) (ext_sweep hb2 (by simp)) P hok.2
    have g0 := hb.get
    have hml : (row.map encLv).length = row.length := by simp
    have hg : (row.map encLv)[j]? = some (encLv x) := by rw [List.getElem?_map, List.getElem?_eq_getElem hil, hx]; rfl
    unfold rowE at g0
    generalize row.map encLv = rows at *
    have hg2 : ∀ (q : j < rows.length), rows[j] = encLv x := fun q => (List.getElem?_eq_some_iff.1 hg).2
    simp at w3 ih2 hre
    simp [go_sem, run_codeL E L7_0.eq_1, w3, hlt, hil, hs, hg, hg2, hml, g0, encLv]
    rw [run_inLoop']
    simp [go_sem, hre]
    exact ih2
set_option maxHeartbeats 4000000 in
theorem ol_loop1 (A : Nat) (hA : A ≤ 100) (mv : Int) (a : Nat) (m : Nd) (k : List Item) (Q : Option (AVal × Heap))
    (hk : ∀ H fs τ, lk 1 τ = .lit (.int .i64 A) → lk 2 τ = .lit (.int .i64 mv) → lk 9 τ = .ptr a 0 → NodeAt H a m fs → finK 0 [.tmp 6] (run E 0 k τ H) = Q) :
    ∀ (d j : Nat), j + d = A → ∀ H fs n, NodeAt H a n fs → n.Inv → n.k ≤ 100 + j → ∀ P, Chk P j n (List.replicate d true) m →
    finK 0 [.tmp 6] (run E 0 (.code L7_1 :: .inLoop [1, 2, 9, 11] L7_1 :: .inBlock 2 :: k) [(1, .lit (.int .i64 A)), (2, .lit (.int .i64 mv)), (9, .ptr a 0), (11, .lit (.int .i64 j))] H) = Q := by
  intro d
  induction d with
  | zero =>
    intro j hj H fs n h hI hkk P hok
    have hlt : ((j : Int) < (A : Int)) = False := eq_false (by omega)
    have : m = n := hok
    subst this
    simp [go_sem, run_codeL E L7_1.eq_1, show ¬ j < A by omega]
    exact hk H fs _ (by simp [lk]) (by simp [lk]) (by simp [lk]) h
  | succ d ih =>
    intro j hj H fs n h hI hkk P hok
    have hlt : j < A := by omega
    have w3 := wrapIdx (i := j) (by omega)
    rw [List.replicate_succ] at hok
    obtain ⟨H2, fs2, ix, hs, h2, a2, -⟩ := step_at h hI (by omega) true
    have hre := reach_mix h2 [] [] (by simp) (by simpa using nodeAt_nodup h2) (by simp)
    have ih2 := ih (j + 1) (by omega) (sweep ([] ++ fs2 ++ []) 0 H2) fs2 (nxN n true) (nodeAt_sweep h2 (by intro i hi; simp [hi])) (inv_next hI true) (by have := k_next n true hI.mode; omega) P hok.2
    simp [lvT] at hs w3 ih2 hre
    simp [go_sem, run_codeL E L7_1.eq_1, w3, hlt, hs]
    rw [run_inLoop']
    simp [go_sem, hre]
    exact ih2
set_option maxHeartbeats 4000000 in
theorem ol_loop2 (M : Nat) (hM : M ≤ 7) (a : Nat) (n : Nd) (hn : ∀ j, j ≤ 13 → (ovN n j).Inv) (k : List Item) (Q : Option (AVal × Heap))
    (hk : ∀ H fs τ, lk 9 τ = .ptr a 0 → NodeAt H a (ovN n (6 + M)) fs → finK 0 [.tmp 6] (run E 0 k τ H) = Q) :
    ∀ (d j : Nat), j + d = 6 + M → ∀ H fs, NodeAt H a (ovN n j) fs →
    finK 0 [.tmp 6] (run E 0 (.code L7_2 :: .inLoop [2, 9, 14] L7_2 :: .inBlock 4 :: k) [(2, .lit (.int .i64 M)), (9, .ptr a 0), (14, .lit (.int .i64 j))] H) = Q := by
  intro d
  induction d with
  | zero =>
    intro j hj H fs h
    have : j = 6 + M := by omega
    subst this
    have w := wrap64 (x := 6 + (M : Int)) (by omega) (by omega)
    simp [go_sem, run_codeL E L7_2.eq_1, w]
    exact hk H fs _ (by simp [lk]) h
  | succ d ih =>
    intro j hj H fs h
    have w := wrap64 (x := 6 + (M : Int)) (by omega) (by omega)
    have hlt : ((j : Int) < 6 + (M : Int)) = True := eq_true (by omega)
    have w3 := wrapIdx (i := j) (by omega)
    have hI := hn j (by omega)
    have hkk : (ovN n j).k ≤ 1000 := by
      unfold ovN; split
      · show j ≤ 1000; omega
      · show j - 6 ≤ 1000; omega
    obtain ⟨H1, hd, h1, a1⟩ := drive_at h hI
    obtain ⟨H2, fs2, ix, hs, h2, a2, -⟩ := step_at h1 hI (by omega) false
    obtain ⟨e1, e2⟩ := ov_step n j (by omega)
    rw [e2] at h2
    rw [e1] at hs
    rw [ov_dr] at hd
    have hre := reach_mix h2 [] [] (by simp) (by simpa using nodeAt_nodup h2) (by simp)
    have ih2 := ih (j + 1) (by omega) (sweep ([] ++ fs2 ++ []) 0 H2) fs2 (nodeAt_sweep h2 (by intro i hi; simp [hi]))
    simp [lvF, evV] at hs w3 ih2 hre
    by_cases h6 : j < 6
    · have h6i : ((j : Int) < 6) = True := eq_true (by omega)
      simp [h6, lvF] at hd
      simp [go_sem, run_codeL E L7_2.eq_1, w, w3, hlt, hd, hs, h6i, nilS]
      rw [run_inLoop']
      simp [go_sem, hre]
      exact ih2
    · have h6i : ((j : Int) < 6) = False := eq_false (by omega)
      simp [h6, lvT] at hd
      simp [go_sem, run_codeL E L7_2.eq_1, w, w3, hlt, hd, hs, h6i, nilS]
      rw [run_inLoop']
      simp [go_sem, hre]
      exact ih2
def c0N (n : Nd) (j : Nat) : Nd := if j = 0 then n else clN n j
theorem c0_step {n : Nd} (hm : n.mode = 6) (ht : n.tx = false) (j : Nat) (hj : j < 11) : evN (c0N n j) true = [] ∧ nxN (c0N n j) true = clN n (j + 1) := by
  unfold c0N
  by_cases h : j = 0
  · rw [if_pos h, h]; exact wait_true hm
  · rw [if_neg h]; exact cl_step n ht j (by omega) hj
theorem c0_inv {n : Nd} (hm : n.mode = 6) (ht : n.tx = false) (hI : n.Inv) : ∀ j, j ≤ 11 → (c0N n j).Inv
  | 0, _ => hI
  | j + 1, h => by
    have := inv_next (c0_inv hm ht hI j (by omega)) true
    rw [(c0_step hm ht j (by omega)).2] at this
    exact this
set_option maxHeartbeats 4000000 in
theorem ol_loop3 (a : Nat) (n : Nd) (hm : n.mode = 6) (ht : n.tx = false) (hq : n.q = []) (hI : n.Inv) (hkn : n.k ≤ 100) (k : List Item) (Q : Option (AVal × Heap))
    (hk : ∀ H fs τ, lk 9 τ = .ptr a 0 → NodeAt H a (c0N n 11) fs → finK 0 [.tmp 6] (run E 0 k τ H) = Q) :
    ∀ (d j : Nat), j + d = 11 → ∀ H fs, NodeAt H a (c0N n j) fs →
    finK 0 [.tmp 6] (run E 0 (.code L7_3 :: .inLoop [9, 17] L7_3 :: .inBlock 6 :: k) [(9, .ptr a 0), (17, .lit (.int .i64 j))] H) = Q := by
  intro d
  induction d with
  | zero =>
    intro j hj H fs h
    have : j = 11 := by omega
    subst this
    simp [go_sem, run_codeL E L7_3.eq_1]
    exact hk H fs _ (by simp [lk]) h
  | succ d ih =>
    intro j hj H fs h
    have hlt : ((j : Int) < 11) = True := eq_true (by omega)
    have w3 := wrapIdx (i := j) (by omega)
    have hIj := c0_inv hm ht hI j (by omega)
    have hkk : (c0N n j).k ≤ 1000 := by
      unfold c0N clN; repeat' split
      · omega
      · show j ≤ 1000; omega
      · show j - 8 ≤ 1000; omega
      · exact Nat.zero_le _
    obtain ⟨H1, fs1, ix, hs, h1, a1, -⟩ := step_at h hIj (by omega) true
    obtain ⟨e1, e2⟩ := c0_step hm ht j (by omega)
    rw [e2] at h1
    rw [e1] at hs
    have hc : clN n (j + 1) = c0N n (j + 1) := rfl
    have hI2 : (clN n (j + 1)).Inv := c0_inv hm ht hI (j + 1) (by omega)
    obtain ⟨H2, hd, h2, a2⟩ := drive_at h1 hI2
    obtain ⟨H3, hl, h3, a3⟩ := look_at h2 hI2.ok
    rw [cl_dr n hq] at hd
    have hre := reach_mix h3 [] [] (by simp) (by simpa using nodeAt_nodup h3) (by simp)
    have ih2 := ih (j + 1) (by omega) (sweep ([] ++ fs1 ++ []) 0 H3) fs1 (nodeAt_sweep h3 (by intro i hi; simp [hi]))
    have hmo := cl_mode n (j + 1)
    simp only [lookC] at hl
    simp [lvT, evV] at hs hd w3 ih2 hre
    by_cases h7 : j < 7
    · rw [if_pos (by omega)] at hmo
      have h7i : ((7 : Int) ≤ (j : Int)) = False := eq_false (by omega)
      simp [hmo] at hl
      simp [go_sem, run_codeL E L7_3.eq_1, w3, hlt, hd, hs, hl, h7i, nilS]
      rw [run_inLoop']
      simp [go_sem, hre]
      exact ih2
    · have h7i : ((7 : Int) ≤ (j : Int)) = True := eq_true (by omega)
      by_cases h10 : j < 10
      · rw [if_neg (by omega), if_pos (by omega)] at hmo
        have h10i : ((j : Int) < 10) = True := eq_true (by omega)
        simp [hmo] at hl
        simp [go_sem, run_codeL E L7_3.eq_1, w3, hlt, hd, hs, hl, h7i, h10i, nilS]
        rw [run_inLoop']
        simp [go_sem, hre]
        exact ih2
      · rw [if_neg (by omega), if_neg (by omega)] at hmo
        have h10i : ((j : Int) < 10) = False := eq_false (by omega)
        simp [hmo] at hl
        simp [go_sem, run_codeL E L7_3.eq_1, w3, hlt, hd, hs, hl, h7i, h10i, nilS]
        rw [run_inLoop']
        simp [go_sem, hre]
        exact ih2
/-- So many levels 1 of a pause. -/
theorem ahead_chk : ∀ (d : Nat) (n : Nd), n.mode = 8 → n.k + d ≤ 2 → Chk Any n.k n (List.replicate d true) { n with k := n.k + d }
  | 0, n, _, _ => rfl
  | d + 1, n, hm, h2 => by
    rw [List.replicate_succ]
    refine ⟨trivial, ?_⟩
    rw [(pause_true hm (by omega)).2]
    have := ahead_chk d { n with k := n.k + 1 } hm (by show n.k + 1 + d ≤ 2; omega)
    rw [show n.k + (d + 1) = n.k + 1 + d by omega]
    exact this
set_option maxHeartbeats 8000000 in
theorem ctlOverloads_spec (f : Fr) (hf : f.Ok) (av mv : Int) :
    call E (.func (.func 7) [] []) [.agg (encFr f), .lit (.int .i64 av), .lit (.int .i64 mv)] [] = some (.lit (.bool true), []) := by
  have ha := awake10
  obtain ⟨F, hj⟩ := joined_nil
  rw [call_func E E7]
  by_cases hc : checkP f = 0
  · have hE := encode_spec f hf hc true
    obtain ⟨c, hrow⟩ := rcv_row hf hc (n := nd1) rfl rfl
    have hl5 : (encodeP f true).length ≤ 100000 := by
      have h1 : (encodeP f true).length = (stuffP (sentP f)).length + 10 := by rw [encodeP_parts]; simp
      have h2 := addS_len (sentP f) [] 0
      have h3 : (stuffP (sentP f)).length = (addS [] 0 (sentP f)).length := rfl
      have h5 := bitsP_length f
      have h6 : (sentP f).length = (bitsP f).length + 15 := (sentP_sum f hc []).2.2
      simp only [List.length_nil] at h2
      omega
    have hrI := chk_inv _ nd1_inv hrow
    have hr1 : (rcvN f nd1 c).mode = 8 := rfl
    have hr2 : (rcvN f nd1 c).k = 0 := rfl
    have hr3 : (rcvN f nd1 c).tx = false := rfl
    have hr4 : (rcvN f nd1 c).q = [] := rfl
    have hr5 : (rcvN f nd1 c).ct = Ct.zero := rfl
    generalize rcvN f nd1 c = n at *
    generalize encodeP f true = row at *
    by_cases b1 : av < 0
    · simp [encFr, u8v] at hE
      simp [go_sem, ir7, encFr, u8v, hE, b1, ha, nilS]
    by_cases b2 : 2 < av
    · simp [encFr, u8v] at hE
      simp [go_sem, ir7, encFr, u8v, hE, b1, b2, ha, nilS]
    by_cases b3 : mv < 0
    · simp [encFr, u8v] at hE
      simp [go_sem, ir7, encFr, u8v, hE, b1, b2, b3, ha, nilS]
    by_cases b4 : 7 < mv
    · simp [encFr, u8v] at hE
      simp [go_sem, ir7, encFr, u8v, hE, b1, b2, b3, b4, ha, nilS]
    obtain ⟨A, rfl⟩ : ∃ A : Nat, av = A := ⟨av.toNat, by omega⟩
    obtain ⟨M, rfl⟩ : ∃ M : Nat, mv = M := ⟨mv.toNat, by omega⟩
    have hA : A ≤ 2 := by omega
    have hM : M ≤ 7 := by omega
    have hrr := rowsLv row
    obtain ⟨X, hX⟩ : ∃ X : Heap, X = [.box (encFr f), rowE row false] := ⟨_, rfl⟩
    have hXl : X.length = 2 := by rw [hX]; rfl
    obtain ⟨fs0, h0, hfs⟩ := nodeAt_ndS X nd1 F
    have hb0 : Ext (X ++ ndS nd1 F X.length) fs0 1 (rowE row false) := ext_pre hfs (by rw [hX]; rfl)
    have hbk := back_node X nd1 F
    rw [hXl] at h0 hb0 hbk
    generalize X ++ ndS nd1 F 2 = H0 at h0 hb0 hbk
    rw [hX] at hbk
    have hre := reach_mix h0 [1] [] (by intro c hc; simp at hc; subst hc; exact ⟨_, hb0.get, rfl⟩) (by simp; exact ⟨hb0.out, nodeAt_nodup h0⟩) (by simp)
    have hl0 := fun k hk => ol_loop0 A M row hl5 2 1 false n k (some (.lit (.bool true), [])) hk row.length 0 (by omega) _ _ nd1 (nodeAt_sweep h0 (R := [1] ++ fs0 ++ []) (by intro i hi; simp [hi])) nd1_inv (by decide) (ext_sweep hb0 (by simp)) _ hrow
    unfold rowE at *
    generalize row.map encLv = rows at *
    simp [encFr, u8v, nilS] at hE hl0 hre hj hbk
    simp [go_sem, ir7, encFr, u8v, hE, hj, hbk, nilS, b1, b2, b3, b4, show ¬ 2 < A by omega, show ¬ 7 < M by omega]
    rw [run_inLoop']
    simp [go_sem, hre]
    refine hl0 _ ?_
    intro H fs τ t1 t2 t9 h
    have hch : Chk Any 0 n (List.replicate A true) { n with k := A } := by
      have := ahead_chk A n hr1 (by omega)
      rw [hr2, Nat.zero_add] at this
      exact this
    have hre1 := reach_mix h [] [] (by simp) (by simpa using nodeAt_nodup h) (by simp)
    have hl1 := fun k hk => ol_loop1 A (by omega) M 2 { n with k := A } k (some (.lit (.bool true), [])) hk A 0 (by omega) _ _ n (nodeAt_sweep h (R := [] ++ fs ++ []) (by intro i hi; simp [hi])) hrI (by omega) _ hch
    simp at hl1 hre1
    simp [go_sem, t1, t2, t9]
    rw [run_inLoop']
    simp [go_sem, t1, t2, t9, hre1]
    refine hl1 _ ?_
    have hmI := chk_inv _ hrI hch
    have m1 : ({ n with k := A } : Nd).mode = 8 := hr1
    have m2 : ({ n with k := A } : Nd).k = A := rfl
    have m3 : ({ n with k := A } : Nd).tx = false := hr3
    have m4 : ({ n with k := A } : Nd).q = [] := hr4
    have m5 : ({ n with k := A } : Nd).ct = Ct.zero := hr5
    generalize ({ n with k := A } : Nd) = m at *
    intro H fs τ t1 t2 t9 h
    obtain ⟨H1, fs1, ix, hs, h1, a1, hix⟩ := step_at h hmI (by omega) false
    have hI1 := inv_next hmI false
    by_cases hA2 : A = 2
    · obtain ⟨e1, e2⟩ := pause_start m1 (by omega) m4
      rw [e2] at h1 hI1
      rw [e1] at hs
      have hdr : drN (startN m false) = true := by
        have : frL (startN m false) = true := by
          show (if false = true then _ else !(decide ((nextF [false]).1 = 6) && rightF [false])) = true
          rfl
        unfold drN
        rw [if_neg (show ¬ (startN m false).mode = 1 from by show ¬ 2 = 1; omega), if_neg (show ¬ ((startN m false).mode = 3 ∨ (startN m false).mode = 5) from by show ¬ (2 = 3 ∨ 2 = 5); omega), if_pos (show (startN m false).mode = 2 from rfl)]
        exact this
      obtain ⟨H2, hl, h2, a2⟩ := look_at h1 hI1.ok
      obtain ⟨H3, hd, h3, a3⟩ := drive_at h2 hI1
      rw [hdr] at hd
      have hmo : (startN m false).mode = 2 := rfl
      simp only [lookC, hmo] at hl
      have hAi : ((A : Int) = 2) = True := eq_true (by omega)
      simp [lvF, lvT, evV] at hs hd hl
      simp [go_sem, t1, t2, t9, hs, hd, hl, ha, hAi, nilS]
    · obtain ⟨e1, e2⟩ := pause_over m1 (by omega)
      rw [e2] at h1 hI1
      have hx := (hix (by rw [e1]; simp)).1
      have hAi : ((A : Int) = 2) = False := eq_false (by omega)
      rw [e1] at hs hx
      simp [lvF, evV, encEv, Fr.zero] at hs hx
      have hov : ∀ j, j ≤ 13 → (ovN m j).Inv := by
        intro j
        induction j with
        | zero => intro _; exact hI1
        | succ j ih =>
          intro hj
          have := inv_next (ih (by omega)) false
          rwa [(ov_step m j (by omega)).2] at this
      have hre2 := reach_mix h1 [] [] (by simp) (by simpa using nodeAt_nodup h1) (by simp)
      have hl2 := fun k hk => ol_loop2 M hM 2 m hov k (some (.lit (.bool true), [])) hk (6 + M) 0 (by omega) _ fs1 (nodeAt_sweep h1 (R := [] ++ fs1 ++ []) (by intro i hi; simp [hi]))
      simp at hre2 hl2
      simp [go_sem, t1, t2, t9, hs, hx, hAi]
      rw [run_inLoop']
      simp [go_sem, t1, t2, t9, hre2]
      refine hl2 _ ?_
      intro H fs τ t9 h
      have o1 : (ovN m (6 + M)).mode = 6 := by unfold ovN; rw [if_neg (by omega)]
      have o2 : (ovN m (6 + M)).tx = false := by unfold ovN; rw [if_neg (by omega)]; exact m3
      have o3 : (ovN m (6 + M)).q = [] := by unfold ovN; rw [if_neg (by omega)]; exact m4
      have o4 : (ovN m (6 + M)).k ≤ 100 := by unfold ovN; rw [if_neg (by omega)]; show 6 + M - 6 ≤ 100; omega
      have o5 : (ovN m (6 + M)).ct = Ct.zero := by unfold ovN; rw [if_neg (by omega)]; exact m5
      have o6 := hov (6 + M) (by omega)
      generalize ovN m (6 + M) = o at *
      have hre3 := reach_mix h [] [] (by simp) (by simpa using nodeAt_nodup h) (by simp)
      have hl3 := fun k hk => ol_loop3 2 o o1 o2 o3 o6 o4 k (some (.lit (.bool true), [])) hk 11 0 (by omega) _ fs (nodeAt_sweep h (R := [] ++ fs ++ []) (by intro i hi; simp [hi]))
      simp at hre3 hl3
      simp [go_sem, t9]
      rw [run_inLoop']
      simp [go_sem, t9, hre3]
      refine hl3 _ ?_
      intro H fs τ t9 h
      obtain ⟨H1, hl, h1, -⟩ := look_at h (c0_inv o1 o2 o6 11 (by omega)).ok
      have p1 : (c0N o 11).mode = 1 := rfl
      have p2 : (c0N o 11).ct = Ct.zero := o5
      simp only [lookC, p1, p2] at hl
      simp [Ct.zero] at hl
      simp [go_sem, t9, hl, ha]
  · have hE := encode_err f hc true
    simp [encFr, u8v] at hE
    simp [go_sem, ir7, encFr, u8v, hE, hc, ha, nilS]
end Go.AM.R1
open Go Go.AM Go.AM.R1 Go.Proofs
namespace Go.Proofs.YtkmacpimokhpgaaGreat
open Go.ChangeShapes Go.WideShapes Go.ChangeAt Go.RowKit
namespace ctlOverloads
theorem own : ownKnob Tryz.prog.godebug = none := by kernel_rfl
theorem laidOut : laidOutB Tryz.prog = true := by kernel_rfl
theorem mixed : Tryz.prog.follows .mixedOrders = true := by kernel_rfl
set_option maxRecDepth 100000 in
theorem contract (H : Type) (enc : TypeId × Value → H) (W : World) (base : Nat) (args : Array Value) (ds gs : List (DataW H)) (before : List MemPlace)
    (hval : ∀ (j : Nat) t v, Tryz.f7.params[j]? = some t → args[j]? = some v → Value.okWide Tryz.prog W .any base t v)
    (hW : DataW.Whole enc Tryz.prog Tryz.f7.params.toList Rows.ctlOverloadsSpec.vars false W args.toList ds gs before) :
    Calls Tryz.prog 7 args W fun e W' => ∃ v, e = .returned v ∧ Rows.ctlOverloadsSpec.post enc Tryz.prog Tryz.f7 false true false false W args v W' := by
  refine law_contract (id := 7) (f := Tryz.f7) (s := Rows.ctlOverloadsSpec) (k := 7) (nargs := 3) (base := base) (ds := ds) (gs := gs) (before := before) mixed libs_ok R1.hE laidOut ?e1 ?e2 (tb := 4) ?e3 Tryz.underlying4 ?e4 ?e5 ?e7 ?e8 ?e6
  case e7 => exact hval
  case e8 => exact hW
  case e1 => rfl
  case e3 => kernel_rfl
  case e4 => rw [Tryz.params7]; rfl
  · rw [Tryz.params7]; decide +kernel
  · intro ds h
    match ds, h with
    | [d1, d2, d3], _ => rfl
  · intro cs hA
    rw [Tryz.params7] at hA
    obtain ⟨d1, r1, a1, s1, rfl, rfl, h1, hA⟩ := decArgs_cons hA
    obtain ⟨d2, r2, a2, s2, rfl, rfl, h2, hA⟩ := decArgs_cons hA
    obtain ⟨d3, r3, a3, s3, rfl, rfl, h3, hA⟩ := decArgs_cons hA
    obtain ⟨rfl, rfl⟩ := decArgs_nil hA
    obtain ⟨f, rfl, hf⟩ := decV_frame (n := 4) ⟨Tryz.underlying32, Tryz.underlying3, Tryz.underlying4, Tryz.underlying4, Tryz.underlying3, Tryz.underlying30, Tryz.underlying5⟩ h1
    obtain ⟨av, -, hw1, rfl⟩ := decV_int (n := 6) Tryz.underlying3 h2
    obtain ⟨mv, -, hw2, rfl⟩ := decV_int (n := 6) Tryz.underlying3 h3
    obtain ⟨n, hn⟩ := (call_iff R1.E).1 (ctlOverloads_spec f hf av mv)
    exact ⟨n, _, hn⟩

set_option maxRecDepth 100000 in
theorem lifted (os : Os) (started : os.Started) (H : Type) (enc : TypeId × Value → H) :
    ReturnsInHanded {} Tryz.checked os 7 .any (Rows.ctlOverloadsSpec.pre6 enc Tryz.prog Tryz.f7 Rows.ctlOverloadsRow.domain false) (Rows.ctlOverloadsSpec.post enc Tryz.prog Tryz.f7 false true false false) := by
  refine returnsInHanded_of_change (C := Tryz.checked) own started (by kernel_rfl) Tryz.func7
    (ChangeSpec.witness6 (enc := enc) (C := Tryz.checked) false ⟨#[], #[.agg #[.int .i64 0, .bool false, .bool false, .int .i64 0, .int .u8 0, .int .u8 0, .int .u8 0, .int .u8 0, .int .u8 0, .int .u8 0, .int .u8 0, .int .u8 0], .int .i64 0, .int .i64 0], []⟩ 8 (by kernel_rfl) (by kernel_rfl) (by kernel_rfl) (by kernel_rfl)) ?_
  intro W base args ds gs before hval hW _ _
  exact contract H enc W base args ds gs before hval hW

theorem proved : Rows.CtlOverloadsSaid :=
  OpenClaim.holds_of_wide 7 Tryz.f7 rfl rfl rfl rfl rfl rfl rfl ⟨rfl, rfl, rfl, rfl, rfl⟩ rfl rfl rfl rfl rfl (by kernel_rfl) Tryz.func7 (by kernel_rfl)
    (of_decide_eq_true (by kernel_rfl)) (by unfold Func.isWrapper; first | (rw [if_pos (by decide +kernel)]; kernel_rfl) | (rw [if_neg (by decide +kernel)]; exact ⟨rfl, rfl⟩))
    (fun os started H enc _ => lifted os started H enc)
end ctlOverloads
theorem ctlOverloadsProved : Rows.CtlOverloadsSaid := ctlOverloads.proved
end Go.Proofs.YtkmacpimokhpgaaGreat
