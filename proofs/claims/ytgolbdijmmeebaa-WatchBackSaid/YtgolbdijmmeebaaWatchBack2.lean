/- The law WatchBack of package magnetolaw19 returns true for every input, and its arguments read as before. -/
import Derived.Test.YtgolbdijmmeebaaWatchBack1
import Derived.ProofKit
set_option linter.unusedVariables false
set_option linter.unusedSimpArgs false
open Go Go.AM
namespace Go.AM.R1
/-! ### What holds of a watcher -/
def RawIn (m : List Bool) : Prop := dataF m ≤ m.length → m.length ≤ sumF m + 23
theorem RawIn.ok {m : List Bool} (h : RawIn m) : RawOk m := by
  have h1 := sumF_ge m
  have h2 : dataF m ≤ m.length → m.length ≤ sumF m + 23 := h
  refine ⟨?_, fun q => by have := h2 q; omega⟩
  rcases Nat.lt_or_ge m.length (dataF m) with q | q
  · omega
  · have := h2 q; omega
theorem extF_append {m : List Bool} (h : 14 ≤ m.length) (r : List Bool) : extF (m ++ r) = extF m := by
  unfold extF; rw [List.getElem?_append_left (by omega)]
theorem dataF_append {m : List Bool} (h : dataF m ≤ m.length) (r : List Bool) : dataF (m ++ r) = dataF m := by
  have h1 := sumF_ge m
  unfold dataF; rw [extF_append (by omega)]
theorem sumF_append {m : List Bool} (h : dataF m ≤ m.length) (r : List Bool) : sumF (m ++ r) = sumF m := by
  have h1 := sumF_ge m
  have hx : extF (m ++ r) = extF m := extF_append (by omega) r
  have hd := dataF_append h r
  have hd2 : extF m = true → dataF m = 39 := fun q => by unfold dataF; rw [if_pos q]
  have hr : rtrF (m ++ r) = rtrF m := by
    unfold rtrF; rw [hx, List.getElem?_append_left (by split; rename_i q; have := hd2 q; omega; omega)]
  have hs : sizeF (m ++ r) = sizeF m := by
    unfold sizeF; rw [hd, List.take_append_of_le_length h]
  unfold sumF; rw [hr, hd, hs]
theorem rawIn_one (b : Bool) : RawIn [b] := by
  intro h
  have := (sumF_ge [b]).2.2
  simp at h; omega
theorem rawIn_append {m : List Bool} (h : RawIn m) (hn : ¬ (dataF m ≤ m.length ∧ m.length = sumF m + 23)) (b : Bool) : RawIn (m ++ [b]) := by
  intro q
  rcases Nat.lt_or_ge m.length (dataF m) with h1 | h1
  · have h2 := sumF_ge (m ++ [b])
    rw [List.length_append] at q ⊢
    simp only [List.length_singleton] at *
    rcases Nat.lt_or_ge m.length 14 with h3 | h3
    · have := (sumF_ge (m ++ [b])).2.2; omega
    · have hx : dataF (m ++ [b]) = dataF m := by unfold dataF; rw [extF_append h3]
      rw [hx] at q h2
      omega
  · have h2 := h h1
    rw [sumF_append h1]
    simp; omega
theorem nextF_end {m : List Bool} (h : dataF m ≤ m.length) (h2 : m.length = sumF m + 23) : nextF m = (8, 5) := by
  have h3 := sumF_ge m
  unfold nextF
  rw [if_neg (by omega), if_neg (by
    rintro (q | ⟨q1, q2⟩)
    · omega
    · have : dataF m = 39 := by unfold dataF; rw [if_pos q1]
      omega), if_neg (by omega), if_neg (by omega), if_neg (by omega), if_neg (by omega), if_neg (by omega), if_neg (by omega), if_pos (by omega)]
  congr 1; omega
structure WI (i : Nat) (w : Wt) : Prop where
  run : w.run ≤ 5
  tick : w.tick = i
  ones : w.ones ≤ i
  raw : w.on = true → w.raw ≠ [] ∧ w.raw[0]? = some false ∧ RawIn w.raw
theorem WI.ok {i : Nat} {w : Wt} (h : WI i w) (hi : i ≤ 1000000) : WOk w := by
  obtain ⟨h1, h2, h3, h4⟩ := h
  exact ⟨h1, by omega, by omega, fun q => ⟨(h4 q).1, (h4 q).2.1, (h4 q).2.2.ok⟩⟩
theorem takeP_run (w : Wt) (b : Bool) (h : w.run ≤ 5) : (takeP w b).2.run ≤ 5 := by
  have h1 : ∀ (c d : Prop) [Decidable c] [Decidable d] (x y z : Wt), (c → x.run ≤ 5) → (d → y.run ≤ 5) → z.run ≤ 5 → (if c then x else if d then y else z).run ≤ 5 := by
    intro c d _ _ x y z hx hy hz
    split
    · rename_i q; exact hx q
    · split
      · rename_i q; exact hy q
      · exact hz
  unfold takeP
  split
  · split
    · exact h
    · show 1 ≤ 5; omega
  · rename_i hn
    have : ∀ x y z : Wt, x.run = 0 → y.run = w.run + 1 → z.run = 1 → (if 4 < (nextF w.raw).1 then x else if 0 < w.run ∧ b = w.last then y else z).run ≤ 5 := fun x y z hx hy hz => h1 _ _ _ _ _ (fun _ => by omega) (fun _ => by omega) (by omega)
    simp only []
    split
    · exact this _ _ _ rfl rfl rfl
    · split
      · exact this _ _ _ rfl rfl rfl
      · split
        · exact this _ _ _ rfl rfl rfl
        · exact this _ _ _ rfl rfl rfl
theorem takeP_app (w : Wt) (b : Bool) : (takeP w b).2.raw = w.raw ∨ ((takeP w b).1 = 0 ∧ (takeP w b).2.raw = w.raw ++ [b] ∧ nextF w.raw ≠ (8, 5)) := by
  have h1 : ∀ (c d : Prop) [Decidable c] [Decidable d] (x y z : Wt), x.raw = w.raw → y.raw = w.raw → z.raw = w.raw → (if c then x else if d then y else z).raw = w.raw := by
    intro c d _ _ x y z hx hy hz
    split
    · exact hx
    · split
      · exact hy
      · exact hz
  unfold takeP
  split
  · split <;> exact .inl rfl
  · simp only []
    split
    · rename_i q
      exact .inr ⟨rfl, rfl, fun e => by rw [e] at q; simp at q⟩
    · split
      · exact .inl (h1 _ _ _ _ _ rfl rfl rfl)
      · split
        · exact .inl (h1 _ _ _ _ _ rfl rfl rfl)
        · rename_i q
          exact .inr ⟨rfl, rfl, fun e => q ⟨by rw [e], by rw [e]⟩⟩
theorem WI.see {i : Nat} {w : Wt} (h : WI i w) (b : Bool) : WI (i + 1) (seeP w b).2 := by
  obtain ⟨h1, h2, h3, h4⟩ := h
  by_cases hst : w.on = false ∧ b = false ∧ 10 ≤ w.ones
  · have e : startP w b = { w with on := true, frm := w.tick, raw := [], last := false, run := 0, acked := false } := by unfold startP; rw [if_pos hst]
    obtain ⟨q1, q2, q3⟩ := hst
    subst q2
    unfold seeP
    rw [e]
    simp only [countP, endP, takeP, show nextF [] = (0, 0) from rfl]
    simp
    exact ⟨by simp, by simp [h2], by simp, by intro _; exact ⟨by simp, rfl, rawIn_one false⟩⟩
  · have e : startP w b = w := by unfold startP; rw [if_neg hst]
    unfold seeP
    rw [e]
    have ho : (countP w b).ones ≤ i + 1 := by
      unfold countP; simp only []; split <;> omega
    by_cases hon : w.on = false
    · rw [if_pos hon]
      exact ⟨h1, by show w.tick + 1 = i + 1; omega, ho, fun q => by have : w.on = true := q; rw [hon] at this; cases this⟩
    · rw [if_neg hon]
      have hon : w.on = true := by simpa using hon
      obtain ⟨r1, r2, r3⟩ := h4 hon
      have hk := takeP_keep (countP w b) b
      have hr := takeP_run (countP w b) b h1
      have ha := takeP_app (countP w b) b
      have hne := takeP_raw (countP w b) b r1
      have hraw : (takeP (countP w b) b).2.raw[0]? = some false ∧ RawIn (takeP (countP w b) b).2.raw := by
        rcases ha with e | ⟨-, e, en⟩
        · rw [e]; exact ⟨r2, r3⟩
        · rw [e]
          refine ⟨?_, rawIn_append r3 (fun q => en (nextF_end q.1 q.2)) b⟩
          show (w.raw ++ [b])[0]? = _
          rw [List.getElem?_append_left (List.length_pos_iff.2 r1)]; exact r2
      have ht : (countP w b).tick = i + 1 := by show w.tick + 1 = i + 1; omega
      unfold endP
      split
      · exact ⟨hr, by rw [hk.2.1]; exact ht, by rw [hk.2.2.2]; exact ho, fun _ => ⟨hne, hraw⟩⟩
      · split
        · exact ⟨hr, by show (takeP (countP w b) b).2.tick = _; rw [hk.2.1]; exact ht, by show (takeP (countP w b) b).2.ones ≤ _; rw [hk.2.2.2]; exact ho, fun q => by cases q⟩
        · exact ⟨hr, by show (takeP (countP w b) b).2.tick = _; rw [hk.2.1]; exact ht, by show (takeP (countP w b) b).2.ones ≤ _; rw [hk.2.2.2]; exact ho, fun q => by cases q⟩
def wat0 : Wt := ⟨[], false, 0, false, 0, 0, false, 0⟩
theorem wi0 : WI 0 wat0 := ⟨by simp [wat0], rfl, by simp [wat0], fun q => by cases q⟩
/-- What is seen of levels. -/
def sgGo (w : Wt) : List Bool → List Sg
  | [] => []
  | b :: m => (match (seeP w b).1 with | none => [] | some s => [s]) ++ sgGo (seeP w b).2 m
def watAt (w : Wt) : List Bool → Wt
  | [] => w
  | b :: m => watAt (seeP w b).2 m
def sgAll (m : List Bool) : List Sg := sgGo wat0 m
end Go.AM.R1
open Go Go.AM
namespace Go.AM.R1
/-! ### All that is seen -/
def outV (ix : Nat) (n : Nat) : AVal := if n = 0 then nilS else .own ix n 16 0 n
def outH (out : List Sg) : Heap := if out = [] then [] else [.arr true false false 16 (out.map encSg)]
def ixW (w : Wt) : Nat := if w.raw = [] then 1 else 2
theorem rowsSg (l : List Sg) : rowsOk 16 (l.map encSg) = true := rowsOk_map (f := encSg) (fun _ => rfl) l
theorem wnew_spec : call E (.func (.func 50) [] []) [] [] = some (.ptr 0 0, wH false wat0) := by
  rw [call_func E E50]
  simp [go_sem, ir50, wH, wat0, Wt.cells, lv, nilS, purse_eq, List.range_succ]
theorem seeP_on (w : Wt) (b : Bool) (hon : w.on = true) : (seeP w b).2.raw = [] → w.raw = [] := by
  intro h
  apply Classical.byContradiction
  intro hr
  have hst : startP w b = w := by unfold startP; rw [if_neg (by rw [hon]; simp)]
  have hse : seeP w b = endP (takeP (countP w b) b) := by unfold seeP; rw [hst, if_neg (by rw [hon]; simp)]
  have := takeP_raw (countP w b) b hr
  rw [hse] at h
  unfold endP at h
  split at h
  · exact this h
  · split at h
    · exact this h
    · exact this h
set_option maxHeartbeats 8000000 in
theorem wall_step (w : Wt) (i : Nat) (hi : i ≤ 1000000) (hW : WI i w) (b lk : Bool) (out : List Sg) (hout : out.length ≤ 1000000) (nl fu : Bool) (rows : List (List AVal)) (N : Int) (hN : (i : Int) < N) (hb : rows[i]? = some (encLv b)) (hbl : i < rows.length) (k : List Item) (Q : Option (AVal × Heap))
    (ih : ∀ lk', finK 0 [.tmp 2, .tmp 3] (run E 0 (.code L46_0 :: .inLoop [1000000, 4, 5, 11, 12, 13] L46_0 :: .inBlock 0 :: k) [(4, .ptr 0 0), (5, outV (ixW (seeP w b).2) (out ++ (match (seeP w b).1 with | none => [] | some s => [s])).length), (11, .imm nl fu true rows), (12, .lit (.int .i64 N)), (13, .lit (.int .i64 ((i + 1 : Nat) : Int)))] (wH lk' (seeP w b).2 ++ outH (out ++ (match (seeP w b).1 with | none => [] | some s => [s])))) = Q) :
    finK 0 [.tmp 2, .tmp 3] (run E 0 (.code L46_0 :: .inLoop [1000000, 4, 5, 11, 12, 13] L46_0 :: .inBlock 0 :: k) [(4, .ptr 0 0), (5, outV (ixW w) out.length), (11, .imm nl fu true rows), (12, .lit (.int .i64 N)), (13, .lit (.int .i64 i))] (wH lk w ++ outH out)) = Q := by
  have hok := hW.ok hi
  have wi := wrapIdx (i := i) (by omega)
  have hbi : rows[i] = encLv b := by rw [List.getElem?_eq_getElem hbl] at hb; exact Option.some.inj hb
  have hrs := rowsSg out
  have hsz : ¬ (70368744177664 < (out.length + 1) * 64) := by omega
  have hol : out.length = 0 ↔ out = [] := List.length_eq_zero_iff
  by_cases hon : w.on = false
  · by_cases hst : b = false ∧ 10 ≤ w.ones
    · obtain ⟨rfl, h10⟩ := hst
      have D := see_B w hok lk hon h10
      have hp : (seeP w false).1 = none ∧ (seeP w false).2.raw = [false] := by
        have e : startP w false = { w with on := true, frm := w.tick, raw := [], last := false, run := 0, acked := false } := by unfold startP; rw [if_pos ⟨hon, rfl, h10⟩]
        unfold seeP
        rw [e]
        simp [countP, endP, takeP, show nextF [] = (0, 0) from rfl]
      have ih := ih false
      rw [hp.1] at ih
      obtain ⟨w2, hw2⟩ : ∃ w2, w2 = (seeP w false).2 := ⟨_, rfl⟩
      rw [← hw2] at D ih hp
      have hr2 : w2.raw = [false] := hp.2
      simp [hr2, wH, ixW] at ih
      by_cases hr : w.raw = []
      · simp [wH, hr, hr2] at D
        by_cases ho : out = []
        · subst ho
          simp [outV, outH, Wt.cells, nilS, lv] at ih D
          simp [go_sem, run_codeL E L46_0.eq_1, hN, hb, hbi, hbl, encLv, lv, D, wH, hr, outV, outH, ixW, Wt.cells, wi, nilS, purse_eq, List.range_succ]
          rw [run_inLoop']
          simp [go_sem, purse_eq, List.range_succ]
          exact ih
        · simp [outV, outH, ho, Wt.cells, nilS, lv] at ih D
          simp [go_sem, run_codeL E L46_0.eq_1, hN, hb, hbi, hbl, encLv, lv, D, wH, hr, ho, outV, outH, ixW, Wt.cells, wi, nilS, purse_eq, List.range_succ]
          rw [run_inLoop']
          simp [go_sem, purse_eq, List.range_succ]
          exact ih
      · simp [wH, hr, hr2] at D
        by_cases ho : out = []
        · subst ho
          simp [outV, outH, Wt.cells, nilS, lv] at ih D
          simp [go_sem, run_codeL E L46_0.eq_1, hN, hb, hbi, hbl, encLv, lv, D, wH, hr, outV, outH, ixW, Wt.cells, wi, nilS, purse_eq, List.range_succ]
          rw [run_inLoop']
          simp [go_sem, purse_eq, List.range_succ]
          exact ih
        · simp [outV, outH, ho, Wt.cells, nilS, lv] at ih D
          simp [go_sem, run_codeL E L46_0.eq_1, hN, hb, hbi, hbl, encLv, lv, D, wH, hr, ho, outV, outH, ixW, Wt.cells, wi, nilS, purse_eq, List.range_succ]
          rw [run_inLoop']
          simp [go_sem, purse_eq, List.range_succ]
          exact ih
    · have D := see_A w hok b lk hon hst
      have hp : (seeP w b).1 = none ∧ (seeP w b).2.raw = w.raw := by
        have e : startP w b = w := by unfold startP; rw [if_neg (by rintro ⟨-, q⟩; exact hst q)]
        unfold seeP; rw [e, if_pos hon]; exact ⟨rfl, rfl⟩
      have ih := ih lk
      rw [hp.1] at ih
      obtain ⟨w2, hw2⟩ : ∃ w2, w2 = (seeP w b).2 := ⟨_, rfl⟩
      rw [← hw2] at D ih hp
      have hr2 : w2.raw = w.raw := hp.2
      by_cases hr : w.raw = []
      · simp [wH, hr, hr2] at D
        by_cases ho : out = []
        · subst ho
          simp [outV, outH, wH, ixW, hr2, hr, Wt.cells, nilS, lv] at ih D
          simp [go_sem, run_codeL E L46_0.eq_1, hN, hb, hbi, hbl, encLv, lv, D, wH, hr, outV, outH, ixW, Wt.cells, wi, nilS, purse_eq, List.range_succ]
          rw [run_inLoop']
          simp [go_sem, purse_eq, List.range_succ]
          exact ih
        · simp [outV, outH, wH, ixW, hr2, hr, ho, Wt.cells, nilS, lv] at ih D
          simp [go_sem, run_codeL E L46_0.eq_1, hN, hb, hbi, hbl, encLv, lv, D, wH, hr, ho, outV, outH, ixW, Wt.cells, wi, nilS, purse_eq, List.range_succ]
          rw [run_inLoop']
          simp [go_sem, purse_eq, List.range_succ]
          exact ih
      · simp [wH, hr, hr2] at D
        by_cases ho : out = []
        · subst ho
          simp [outV, outH, wH, ixW, hr2, hr, Wt.cells, nilS, lv] at ih D
          simp [go_sem, run_codeL E L46_0.eq_1, hN, hb, hbi, hbl, encLv, lv, D, wH, hr, outV, outH, ixW, Wt.cells, wi, nilS, purse_eq, List.range_succ]
          rw [run_inLoop']
          simp [go_sem, purse_eq, List.range_succ]
          exact ih
        · simp [outV, outH, wH, ixW, hr2, hr, ho, Wt.cells, nilS, lv] at ih D
          simp [go_sem, run_codeL E L46_0.eq_1, hN, hb, hbi, hbl, encLv, lv, D, wH, hr, ho, outV, outH, ixW, Wt.cells, wi, nilS, purse_eq, List.range_succ]
          rw [run_inLoop']
          simp [go_sem, purse_eq, List.range_succ]
          exact ih
  · have hon : w.on = true := by simpa using hon
    have hr : w.raw ≠ [] := (hW.raw hon).1
    obtain ⟨lk', D⟩ := see_C w hok b lk hon
    have hr2 : (seeP w b).2.raw ≠ [] := fun q => hr (seeP_on w b hon q)
    have ih := ih lk'
    generalize seeP w b = sp at *
    obtain ⟨so, w2⟩ := sp
    simp only [] at D ih hr2
    cases so with
    | none =>
      by_cases ho : out = []
      · subst ho
        simp [outV, outH, wH, ixW, hr2, hr, Wt.cells, nilS, lv] at ih D
        simp [go_sem, run_codeL E L46_0.eq_1, hN, hb, hbi, hbl, encLv, lv, D, wH, hr, outV, outH, ixW, Wt.cells, wi, nilS, purse_eq, List.range_succ]
        rw [run_inLoop']
        simp [go_sem, purse_eq, List.range_succ]
        exact ih
      · simp [outV, outH, wH, ixW, hr2, hr, ho, Wt.cells, nilS, lv] at ih D
        simp [go_sem, run_codeL E L46_0.eq_1, hN, hb, hbi, hbl, encLv, lv, D, wH, hr, ho, outV, outH, ixW, Wt.cells, wi, nilS, purse_eq, List.range_succ]
        rw [run_inLoop']
        simp [go_sem, purse_eq, List.range_succ]
        exact ih
    | some s =>
      have hr16 : rowsOk 16 [encSg s] = true := rowsSg [s]
      by_cases ho : out = []
      · subst ho
        simp [outV, outH, wH, ixW, hr2, hr, Wt.cells, nilS, lv] at ih D
        simp [go_sem, run_codeL E L46_0.eq_1, hN, hb, hbi, hbl, encLv, lv, D, wH, hr, outV, outH, ixW, Wt.cells, wi, nilS, hr16, purse_eq, List.range_succ]
        rw [run_inLoop']
        simp [go_sem, purse_eq, List.range_succ]
        exact ih
      · simp [outV, outH, wH, ixW, hr2, hr, ho, Wt.cells, nilS, lv] at ih D
        simp [go_sem, run_codeL E L46_0.eq_1, hN, hb, hbi, hbl, encLv, lv, D, wH, hr, ho, outV, outH, ixW, Wt.cells, wi, nilS, hr16, hrs, hsz, purse_eq, List.range_succ]
        rw [run_inLoop']
        simp [go_sem, purse_eq, List.range_succ]
        exact ih
end Go.AM.R1
open Go Go.AM
namespace Go.AM.R1
theorem sgGo_len : ∀ (m : List Bool) (w : Wt), (sgGo w m).length ≤ m.length
  | [], _ => by simp [sgGo]
  | b :: m, w => by
    have := sgGo_len m (seeP w b).2
    rw [sgGo, List.length_append, List.length_cons]
    split <;> simp <;> omega
theorem wall_loop (m : List Bool) (hl : m.length ≤ 500000) (nl fu : Bool) (rows : List (List AVal)) (N : Int) (hN : (m.length : Int) ≤ N) (hrows : ∀ (i : Nat) (h : i < m.length), rows[i]? = some (encLv m[i])) (hrl : m.length ≤ rows.length) (k : List Item) (Q : Option (AVal × Heap))
    (hk : ∀ w lk, WI m.length w → finK 0 [.tmp 2, .tmp 3] (run E 0 (.code L46_0 :: .inLoop [1000000, 4, 5, 11, 12, 13] L46_0 :: .inBlock 0 :: k) [(4, .ptr 0 0), (5, outV (ixW w) (sgAll m).length), (11, .imm nl fu true rows), (12, .lit (.int .i64 N)), (13, .lit (.int .i64 m.length))] (wH lk w ++ outH (sgAll m))) = Q) :
    ∀ (d i : Nat) (w : Wt) (lk : Bool) (out : List Sg), i + d = m.length → WI i w → out ++ sgGo w (m.drop i) = sgAll m → out.length ≤ i →
    finK 0 [.tmp 2, .tmp 3] (run E 0 (.code L46_0 :: .inLoop [1000000, 4, 5, 11, 12, 13] L46_0 :: .inBlock 0 :: k) [(4, .ptr 0 0), (5, outV (ixW w) out.length), (11, .imm nl fu true rows), (12, .lit (.int .i64 N)), (13, .lit (.int .i64 i))] (wH lk w ++ outH out)) = Q := by
  intro d
  induction d with
  | zero =>
    intro i w lk out hi hw ho hol
    have : i = m.length := by omega
    subst this
    rw [List.drop_length, sgGo, List.append_nil] at ho
    rw [ho]
    exact hk w lk hw
  | succ d ih =>
    intro i w lk out hi hw ho hol
    have hlt : i < m.length := by omega
    refine wall_step w i (by omega) hw m[i] lk out (by omega) nl fu rows N (by omega) (hrows i hlt) (by omega) k Q ?_
    intro lk'
    refine ih (i + 1) _ lk' _ (by omega) (hw.see _) ?_ ?_
    · rw [List.drop_eq_getElem_cons hlt, sgGo] at ho
      (rw [List.append_assoc, ← ho]) <;> rfl
    · rw [List.length_append]; split <;> simp <;> omega
theorem wall_loop0 (m : List Bool) (hl : m.length ≤ 500000) (nl fu : Bool) (rows : List (List AVal)) (N : Int) (hN : (m.length : Int) ≤ N) (hrows : ∀ (i : Nat) (h : i < m.length), rows[i]? = some (encLv m[i])) (hrl : m.length ≤ rows.length) (k : List Item) (Q : Option (AVal × Heap))
    (hk : ∀ w lk, WI m.length w → finK 0 [.tmp 2, .tmp 3] (run E 0 (.code L46_0 :: .inLoop [1000000, 4, 5, 11, 12, 13] L46_0 :: .inBlock 0 :: k) [(4, .ptr 0 0), (5, outV (ixW w) (sgAll m).length), (11, .imm nl fu true rows), (12, .lit (.int .i64 N)), (13, .lit (.int .i64 m.length))] (wH lk w ++ outH (sgAll m))) = Q) :
    finK 0 [.tmp 2, .tmp 3] (run E 0 (.code L46_0 :: .inLoop [1000000, 4, 5, 11, 12, 13] L46_0 :: .inBlock 0 :: k) [(4, .ptr 0 0), (5, .imm true true true []), (11, .imm nl fu true rows), (12, .lit (.int .i64 N)), (13, .lit (.int .i64 0))] [.box [.imm true true true [], .lit (.int .i64 0), .lit (.int .i64 0), .lit (.bool false), .lit (.int .i64 0), .lit (.int .i64 0), .lit (.bool false), .lit (.int .i64 0)]]) = Q :=
  wall_loop m hl nl fu rows N hN hrows hrl k Q hk m.length 0 wat0 false [] (by omega) wi0 rfl (by simp)
theorem wall_spec (m : List Bool) (hl : m.length ≤ 500000) (nl fu : Bool) : call E (.func (.func 46) [] []) [.imm nl fu true (m.map encLv)] [] = some (.tup [outV 0 (sgAll m).length, .lit (.int .i64 0)], outH (sgAll m)) := by
  rw [call_func E E46]
  have hw := wnew_spec
  simp [wH, wat0, Wt.cells, nilS, lv] at hw
  simp [go_sem, ir46, hw, nilS, purse_eq, List.range_succ]
  rw [run_inLoop']
  simp [go_sem, purse_eq, List.range_succ]
  refine wall_loop0 m hl nl fu (m.map encLv) m.length (by omega) (fun i hi => by rw [List.getElem?_map, List.getElem?_eq_getElem hi]; rfl) (by simp) _ _ ?_
  intro w lk hW
  by_cases hr : w.raw = []
  · by_cases ho : sgAll m = []
    · simp [go_sem, run_codeL E L46_0.eq_1, wH, Wt.cells, outV, outH, ixW, nilS, hr, ho, purse_eq, List.range_succ]
    · simp [go_sem, run_codeL E L46_0.eq_1, wH, Wt.cells, outV, outH, ixW, nilS, hr, ho, purse_eq, List.range_succ]
  · by_cases ho : sgAll m = []
    · simp [go_sem, run_codeL E L46_0.eq_1, wH, Wt.cells, outV, outH, ixW, nilS, hr, ho, purse_eq, List.range_succ]
    · simp [go_sem, run_codeL E L46_0.eq_1, wH, Wt.cells, outV, outH, ixW, nilS, hr, ho, purse_eq, List.range_succ]
theorem see_err (w : Wt) (x : Int) (hx : x ≠ 0 ∧ x ≠ 1) (lk : Bool) : call E (.func (.func 48) [] []) [.ptr 0 0, .lit (.int .i64 x)] (wH lk w) = some (.tup [nilS, .lit (.int .i64 10)], wH lk w) := by
  rw [call_func E E48]
  by_cases hr : w.raw = [] <;> simp [go_sem, ir48, wH, Wt.cells, nilS, hr, hx.1, hx.2, purse_eq, List.range_succ]
theorem wall_bad (m : List Bool) (hl : m.length ≤ 500000) (x : Int) (hx : x ≠ 0 ∧ x ≠ 1) (r : List Int) (nl fu : Bool) : call E (.func (.func 46) [] []) [.imm nl fu true ((m.map lv ++ x :: r).map encI)] [] = some (.tup [nilS, .lit (.int .i64 10)], []) := by
  rw [call_func E E46]
  have hw := wnew_spec
  have hrows : ∀ (i : Nat) (h : i < m.length), ((m.map lv ++ x :: r).map encI)[i]? = some (encLv m[i]) := fun i hi => by
    rw [List.getElem?_map, List.getElem?_append_left (by simpa using hi), List.getElem?_map, List.getElem?_eq_getElem hi]; rfl
  have hg : ((m.map lv ++ x :: r).map encI)[m.length]? = some [.lit (.int .i64 x)] := by
    rw [List.getElem?_map, List.getElem?_append_right (by simp)]; simp [encI]
  have hgl : m.length < ((m.map lv ++ x :: r).map encI).length := by simp
  have hge : ((m.map lv ++ x :: r).map encI)[m.length] = [.lit (.int .i64 x)] := by rw [List.getElem?_eq_getElem hgl] at hg; exact Option.some.inj hg
  have hlt : (m.length : Int) < (((m.map lv ++ x :: r).map encI).length : Int) := by omega
  generalize (m.map lv ++ x :: r).map encI = rows at *
  simp [wH, wat0, Wt.cells, nilS, lv] at hw
  simp [go_sem, ir46, hw, nilS, purse_eq, List.range_succ]
  rw [run_inLoop']
  simp [go_sem, purse_eq, List.range_succ]
  refine wall_loop0 m hl nl fu rows rows.length (by omega) hrows (by omega) _ _ ?_
  intro w lk hW
  have hS := see_err w x hx lk
  by_cases hr : w.raw = []
  · simp [wH, hr, Wt.cells, nilS, lv] at hS
    by_cases ho : sgAll m = []
    · simp [go_sem, run_codeL E L46_0.eq_1, wH, Wt.cells, lv, outV, outH, ixW, hr, ho, hlt, hg, hgl, hge, hS, nilS, purse_eq, List.range_succ]
    · simp [go_sem, run_codeL E L46_0.eq_1, wH, Wt.cells, lv, outV, outH, ixW, hr, ho, hlt, hg, hgl, hge, hS, nilS, purse_eq, List.range_succ]
  · simp [wH, hr, Wt.cells, nilS, lv] at hS
    by_cases ho : sgAll m = []
    · simp [go_sem, run_codeL E L46_0.eq_1, wH, Wt.cells, lv, outV, outH, ixW, hr, ho, hlt, hg, hgl, hge, hS, nilS, purse_eq, List.range_succ]
    · simp [go_sem, run_codeL E L46_0.eq_1, wH, Wt.cells, lv, outV, outH, ixW, hr, ho, hlt, hg, hgl, hge, hS, nilS, purse_eq, List.range_succ]
/-! ### The frames of what is seen -/
def frV (ix : Nat) (n : Nat) : AVal := if n = 0 then nilS else .own ix n 12 0 n
def frH (out : List Fr) : Heap := if out = [] then [] else [.arr true false false 12 (out.map encFr)]
theorem rowsFr (l : List Fr) : rowsOk 12 (l.map encFr) = true := rowsOk_map (f := encFr) (fun _ => rfl) l
def frOf1 (s : Sg) : List Fr := if s.kind = 1 then [s.frame] else []
def frAll (l : List Sg) : List Fr := l.flatMap frOf1
theorem encFr_eq (f : Fr) : encFr f = [.lit (.int .i64 f.id), .lit (.bool f.ext), .lit (.bool f.rtr), .lit (.int .i64 f.len), u8v f.d0, u8v f.d1, u8v f.d2, u8v f.d3, u8v f.d4, u8v f.d5, u8v f.d6, u8v f.d7] := rfl
theorem wfr_loop (l : List Sg) (hl0 : l ≠ []) (hl : l.length ≤ 500000) (k : List Item) (R : List Fr → Option (AVal × Heap))
    (hk : ∀ τ out, lk 6 τ = frV 0 out.length → finK 0 [.tmp 2, .tmp 3] (run E 0 k τ (frH out ++ outH l)) = R out) :
    ∀ (d i : Nat) (out : List Fr), i + d = l.length → out.length ≤ i →
    finK 0 [.tmp 2, .tmp 3] (run E 0 (.code L51_0 :: .inLoop [1000000, 6, 17, 18, 19] L51_0 :: .inBlock 0 :: k) [(6, frV 0 out.length), (17, outV (if out = [] then 0 else 1) l.length), (18, .lit (.int .i64 l.length)), (19, .lit (.int .i64 i))] (frH out ++ outH l)) = R (out ++ frAll (l.drop i)) := by
  have hln : ¬ l.length = 0 := by have := List.length_pos_iff.2 hl0; omega
  intro d
  induction d with
  | zero =>
    intro i out hi ho
    have : i = l.length := by omega
    subst this
    rw [List.drop_length, show frAll [] = [] from rfl, List.append_nil]
    simp [go_sem, run_codeL E L51_0.eq_1]
    exact hk _ out rfl
  | succ d ih =>
    intro i out hi ho
    have hlt : i < l.length := by omega
    have wi := wrapIdx (i := i) (by omega)
    have hsz : ¬ (70368744177664 < (out.length + 1) * 32) := by omega
    have hrs := rowsFr out
    have ih2 := ih (i + 1) (out ++ frOf1 l[i]) (by omega) (by rw [List.length_append]; unfold frOf1; split <;> simp <;> omega)
    rw [List.drop_eq_getElem_cons hlt, show frAll (l[i] :: l.drop (i + 1)) = frOf1 l[i] ++ frAll (l.drop (i + 1)) from rfl, ← List.append_assoc]
    generalize R _ = Q at ih2 ⊢
    have hlg : (l.map encSg)[i]? = some (encSg l[i]) := by rw [List.getElem?_map, List.getElem?_eq_getElem hlt]; rfl
    have hr12 : rowsOk 12 [encFr l[i].frame] = true := rowsFr [l[i].frame]
    by_cases h1 : l[i].kind = 1
    · have h1i : (l[i].kind : Int) = 1 := by omega
      by_cases ho0 : out = []
      · subst ho0
        simp [frOf1, h1, frV, frH, outV, outH, hl0, hln, nilS, encFr, u8v] at ih2 hr12
        simp [go_sem, run_codeL E L51_0.eq_1, hlt, List.getElem?_eq_getElem hlt, frV, frH, outV, outH, hl0, hln, encSg, u8v, h1i, wi, nilS, hr12, purse_eq, List.range_succ]
        rw [run_inLoop']
        simp [go_sem, purse_eq, List.range_succ]
        exact ih2
      · simp [frOf1, h1, ho0, frV, frH, outV, outH, hl0, hln, nilS, encFr_eq, u8v] at ih2 hr12
        simp [go_sem, run_codeL E L51_0.eq_1, hlt, List.getElem?_eq_getElem hlt, ho0, frV, frH, outV, outH, hl0, hln, encSg, u8v, h1i, wi, nilS, hr12, hrs, hsz, purse_eq, List.range_succ]
        rw [run_inLoop']
        simp [go_sem, purse_eq, List.range_succ]
        exact ih2
    · have h1i : ¬ (l[i].kind : Int) = 1 := by omega
      by_cases ho0 : out = []
      · subst ho0
        simp [frOf1, h1, frV, frH, outV, outH, hl0, hln, nilS] at ih2
        simp [go_sem, run_codeL E L51_0.eq_1, hlt, List.getElem?_eq_getElem hlt, frV, frH, outV, outH, hl0, hln, encSg, u8v, h1i, wi, nilS, purse_eq, List.range_succ]
        rw [run_inLoop']
        simp [go_sem, purse_eq, List.range_succ]
        exact ih2
      · simp [frOf1, h1, ho0, frV, frH, outV, outH, hl0, hln, nilS] at ih2
        simp [go_sem, run_codeL E L51_0.eq_1, hlt, List.getElem?_eq_getElem hlt, ho0, frV, frH, outV, outH, hl0, hln, encSg, u8v, h1i, wi, nilS, purse_eq, List.range_succ]
        rw [run_inLoop']
        simp [go_sem, purse_eq, List.range_succ]
        exact ih2
theorem wfr_loop0 (l : List Sg) (hl0 : l ≠ []) (hl : l.length ≤ 500000) (k : List Item)
    (hk : ∀ τ out, lk 6 τ = frV 0 out.length → finK 0 [.tmp 2, .tmp 3] (run E 0 k τ (frH out ++ outH l)) = some (.tup [frV 0 out.length, .lit (.int .i64 0)], frH out)) :
    finK 0 [.tmp 2, .tmp 3] (run E 0 (.code L51_0 :: .inLoop [1000000, 6, 17, 18, 19] L51_0 :: .inBlock 0 :: k) [(6, .imm true true true []), (17, .own 0 l.length 16 0 l.length), (18, .lit (.int .i64 l.length)), (19, .lit (.int .i64 0))] [.arr true false false 16 (l.map encSg)]) = some (.tup [frV 0 (frAll l).length, .lit (.int .i64 0)], frH (frAll l)) := by
  have hln : ¬ l.length = 0 := by have := List.length_pos_iff.2 hl0; omega
  have h := wfr_loop l hl0 hl k (fun out => some (.tup [frV 0 out.length, .lit (.int .i64 0)], frH out)) hk l.length 0 [] (by omega) (by simp)
  simp only [List.drop_zero, List.nil_append, frH, outV, outH, hl0, hln, if_true, if_false] at h
  exact h
theorem wfr_spec (m : List Bool) (hl : m.length ≤ 500000) (nl fu : Bool) : call E (.func (.func 51) [] []) [.imm nl fu true (m.map encLv)] [] = some (.tup [frV 0 (frAll (sgAll m)).length, .lit (.int .i64 0)], frH (frAll (sgAll m))) := by
  rw [call_func E E51]
  have hA := wall_spec m hl nl fu
  have hln : (sgAll m).length ≤ 500000 := by have := sgGo_len m wat0; show (sgGo wat0 m).length ≤ _; omega
  generalize sgAll m = l at *
  by_cases hl0 : l = []
  · subst hl0
    simp [outV, outH, nilS] at hA
    simp [go_sem, ir51, hA, nilS, purse_eq, List.range_succ]
    rw [run_inLoop']
    simp [go_sem, run_codeL E L51_0.eq_1, frV, frH, frAll, nilS, purse_eq, List.range_succ]
  · have hln0 : ¬ l.length = 0 := by have := List.length_pos_iff.2 hl0; omega
    simp [outV, outH, hl0, hln0, nilS] at hA
    simp [go_sem, ir51, hA, nilS, purse_eq, List.range_succ]
    rw [run_inLoop']
    simp [go_sem, purse_eq, List.range_succ]
    refine wfr_loop0 l hl0 hln _ ?_
    intro τ out t6
    by_cases ho : out = []
    · simp [go_sem, t6, ho, frV, frH, outH, hl0, nilS, purse_eq, List.range_succ]
    · simp [go_sem, t6, ho, frV, frH, outH, hl0, nilS, purse_eq, List.range_succ]
end Go.AM.R1
open Go Go.AM
namespace Go.AM.R1

/-! ### log.Scan: the walk -/
abbrev Bk := Int × List Run
def encBk (x : Bk) : List AVal := [.lit (.int .i64 x.1), .imm false false true (x.2.map encRun)]
/-- The blocks from a place, and a tick, on; and where they end. -/
def scanGo : Nat → List Nat → Nat → Int → List Bk → List Bk × Nat × Int
  | 0, _, p, t, acc => (acc, p, t)
  | d + 1, b, p, t, acc =>
    if (getB (b.drop p)).2.2 = 0 ∧ (getB (b.drop p)).1.1 = t then
      scanGo d b (p + (getB (b.drop p)).2.1.toNat) (t + sumN (getB (b.drop p)).1.2) (acc ++ [(getB (b.drop p)).1])
    else (acc, p, t)
def scanB (b : List Nat) : List Bk × Nat × Int := scanGo (b.length + 1) b 0 0 []

theorem get_good {b : List Nat} (hb : ∀ c ∈ b, c < 256) (h : (getB b).2.2 = 0) :
    chkB (getB b).1.1 (getB b).1.2 = 0 ∧ (∀ r ∈ (getB b).1.2, 0 ≤ r.Drive ∧ r.Drive ≤ 4294967295) ∧ 1 ≤ (getB b).2.1 ∧ (getB b).2.1 ≤ b.length ∧ b.take (getB b).2.1.toNat = wholeB (numsN (getB b).1.1 (getB b).1.2) := by
  obtain ⟨f, R, n, e, h1, h2, h3, h4, h5⟩ := put_of_get hb h
  rw [e]
  exact ⟨h1, h2, by simp; omega, by simp; omega, by simpa using h3⟩

/-- Where the place is. -/
def atI (acc : List Bk) : Nat := if acc = [] then 4 else 5
end Go.AM.R1
open Go Go.AM
namespace Go.AM.R1

def bkV (i : Nat) (l : List Bk) : AVal := if l = [] then nilS else .own i l.length 2 0 l.length
def bkH (l : List Bk) : Heap := if l = [] then [] else [.arr true false false 2 (l.map encBk)]
end Go.AM.R1
open Go Go.AM
namespace Go.AM.R1

/-! ### The document's Scan -/
theorem get_nil : (getB []).2.2 ≠ 0 := by decide
end Go.AM.R1
open Go Go.AM
namespace Go.AM.R1

/-! ### The blocks of bytes -/
def putBk (x : Bk) : List Nat := wholeB (numsN x.1 x.2)
def blksB (l : List Bk) : List Nat := l.flatMap putBk
def totB (l : List Bk) : Int := match l with | [] => 0 | x :: r => sumN x.2 + totB r
def Good : Int → List Bk → Prop
  | _, [] => True
  | t, x :: r => x.1 = t ∧ chkB x.1 x.2 = 0 ∧ (∀ r ∈ x.2, 0 ≤ r.Drive ∧ r.Drive ≤ 4294967295) ∧ Good (t + sumN x.2) r
theorem blksB_cons (x : Bk) (l : List Bk) : blksB (x :: l) = putBk x ++ blksB l := rfl
theorem blksB_append (l m : List Bk) : blksB (l ++ m) = blksB l ++ blksB m := by simp [blksB]
theorem totB_append : ∀ (l m : List Bk), totB (l ++ m) = totB l + totB m
  | [], m => by simp [totB]
  | x :: l, m => by simp only [List.cons_append, totB]; rw [totB_append l m]; omega
theorem good_append : ∀ (l m : List Bk) (t : Int), Good t (l ++ m) ↔ Good t l ∧ Good (t + totB l) m
  | [], m, t => by simp [Good, totB]
  | x :: l, m, t => by
    simp only [List.cons_append, Good, totB]
    rw [good_append l m (t + sumN x.2), Int.add_assoc]
    simp only [and_assoc]
theorem good_tot : ∀ (l : List Bk) (t : Int), 0 ≤ t → t ≤ 1073741824 → Good t l → 0 ≤ totB l ∧ t + totB l ≤ 1073741824
  | [], t, h0, h, _ => by simp [totB]; omega
  | x :: l, t, h0, h, g => by
    obtain ⟨g1, g2, g3, g4⟩ := g
    have gk := chkB_ok g2
    have hs := (chk_right gk.2.2.2.1).2
    have := good_tot l (t + sumN x.2) (by omega) (by omega) g4
    simp only [totB]
    omega
theorem putBk_len {x : Bk} (h : chkB x.1 x.2 = 0) : 6 ≤ (putBk x).length ∧ (putBk x).length ≤ 42000 := by
  have h1 := inside_65536 h
  have h2 := whole_len (numsN x.1 x.2)
  have h3 := putN_len64 (n := (bytesN (numsN x.1 x.2)).length) (by omega)
  have h4 := List.length_pos_iff.2 (putN_pos (bytesN (numsN x.1 x.2)).length)
  have h5 : 1 ≤ (bytesN (numsN x.1 x.2)).length := by
    simp only [numsN, bytesN, List.flatMap_cons, List.length_append]
    have := List.length_pos_iff.2 (putN_pos x.1.toNat)
    omega
  unfold putBk
  omega
theorem good_len : ∀ (l : List Bk) (t : Int), Good t l → 6 * l.length ≤ (blksB l).length
  | [], _, _ => by simp
  | x :: l, t, g => by
    have := putBk_len g.2.1
    have := good_len l _ g.2.2.2
    rw [blksB_cons, List.length_append, List.length_cons]
    omega
theorem scan_facts (b : List Nat) (hb : ∀ c ∈ b, c < 256) : ∀ (d p : Nat) (t : Int) (acc : List Bk), p ≤ b.length →
    ∃ l, (scanGo d b p t acc).1 = acc ++ l ∧ Good t l ∧ (scanGo d b p t acc).2.1 = p + (blksB l).length ∧ p + (blksB l).length ≤ b.length ∧ (b.drop p).take (blksB l).length = blksB l ∧ (scanGo d b p t acc).2.2 = t + totB l := by
  intro d
  induction d with
  | zero => intro p t acc hp; exact ⟨[], by simp [scanGo, Good, blksB, totB, hp]⟩
  | succ d ih =>
    intro p t acc hp
    rw [scanGo]
    split
    · rename_i h
      obtain ⟨g1, g2, g3, g4, g5⟩ := get_good (fun c hc => hb c (List.mem_of_mem_drop hc)) h.1
      simp at g4
      generalize hg : getB (b.drop p) = g at *
      obtain ⟨⟨f, R⟩, m, e⟩ := g
      simp only [] at *
      obtain ⟨l, e1, e2, e3, e4, e5, e6⟩ := ih (p + m.toNat) (t + sumN R) (acc ++ [(f, R)]) (by omega)
      have hlen : (wholeB (numsN f R)).length = m.toNat := by rw [← g5]; simp; omega
      refine ⟨(f, R) :: l, by rw [e1]; simp, ⟨h.2, g1, g2, e2⟩, ?_, ?_, ?_, ?_⟩
      · rw [e3, blksB_cons, List.length_append]; show _ = p + ((wholeB (numsN f R)).length + _); omega
      · rw [blksB_cons, List.length_append]; show p + ((wholeB (numsN f R)).length + _) ≤ _; omega
      · rw [blksB_cons, List.length_append, List.take_add]
        show List.take (wholeB (numsN f R)).length _ ++ List.take _ (List.drop (wholeB (numsN f R)).length _) = wholeB (numsN f R) ++ _
        rw [hlen, g5, List.drop_drop, e5]
      · rw [e6]; simp only [totB]; omega
    · exact ⟨[], by simp [Good, blksB, totB, hp]⟩
theorem scanB_facts {b : List Nat} (hb : ∀ c ∈ b, c < 256) : Good 0 (scanB b).1 ∧ (scanB b).2.1 = (blksB (scanB b).1).length ∧ (scanB b).2.1 ≤ b.length ∧ b.take (scanB b).2.1 = blksB (scanB b).1 ∧ (scanB b).2.2 = totB (scanB b).1 := by
  obtain ⟨l, e1, e2, e3, e4, e5, e6⟩ := scan_facts b hb (b.length + 1) 0 0 [] (by omega)
  rw [show scanGo (b.length + 1) b 0 0 [] = scanB b from rfl] at *
  simp at e1 e3 e4 e5 e6
  rw [e1, e3]
  exact ⟨e2, rfl, e4, e5, e6⟩
/-- Blocks that are put one behind the other are found. -/
theorem scan_put (b : List Nat) : ∀ (l : List Bk) (d p : Nat) (t : Int) (acc : List Bk), l.length + 1 ≤ d → Good t l → (b.drop p) = blksB l → scanGo d b p t acc = (acc ++ l, p + (blksB l).length, t + totB l) := by
  intro l
  induction l with
  | nil =>
    intro d p t acc hd hg hp
    obtain ⟨d, rfl⟩ : ∃ e, d = e + 1 := ⟨d - 1, by simp at hd; omega⟩
    rw [scanGo, hp, if_neg (by intro q; exact get_nil q.1)]
    simp [blksB, totB]
  | cons x l ih =>
    intro d p t acc hd hg hp
    obtain ⟨d, rfl⟩ : ∃ e, d = e + 1 := ⟨d - 1, by simp at hd; omega⟩
    obtain ⟨g1, g2, g3, g4⟩ := hg
    have hG := get_of_put g2 g3 (blksB l)
    rw [scanGo, hp, blksB_cons]
    show (if (getB (wholeB (numsN x.1 x.2) ++ blksB l)).2.2 = 0 ∧ (getB (wholeB (numsN x.1 x.2) ++ blksB l)).1.1 = t then _ else _) = _
    rw [show putBk x = wholeB (numsN x.1 x.2) from rfl, hG]
    simp only []
    rw [if_pos ⟨trivial, g1⟩]
    rw [ih d (p + ((wholeB (numsN x.1 x.2)).length : Int).toNat) (t + sumN x.2) _ (by simp at hd; omega) g4 (by
      rw [Int.toNat_natCast, ← List.drop_drop, hp, blksB_cons]; show List.drop (wholeB (numsN x.1 x.2)).length (wholeB (numsN x.1 x.2) ++ _) = _; rw [List.drop_left])]
    simp [totB, List.length_append]
    omega
theorem scanB_put {l : List Bk} (h : Good 0 l) : scanB (blksB l) = (l, (blksB l).length, totB l) := by
  have := good_len l 0 h
  have := scan_put (blksB l) l ((blksB l).length + 1) 0 0 [] (by omega) h rfl
  simpa [scanB] using this
end Go.AM.R1
open Go Go.AM
namespace Go.AM.R1

/-! ### What the machine does that was not needed before -/
def appZK (fl : Bool) (sz bytes : Nat) (zero : List AVal) (H : Heap) (s : AVal) : AVal → Option (AVal × Heap)
  | .lit (.int .i64 l) => if 0 ≤ l ∧ l ≤ 2 ^ 46 ∧ l * bytes ≤ 2 ^ 46 then aadd fl sz bytes H s (flatL zero) (List.replicate l.toNat zero) else none
  | _ => none
theorem aop_appendZ {c : Callee} {ρ : Opd → AVal} {H : Heap} (fl sz b z s n) : aop c ρ H (.appendZ fl sz b z s n) = appZK fl sz b z H (ρ s) (ρ n) := by
  unfold aop appZK; rfl
theorem appZK_int (fl : Bool) (sz bytes : Nat) (zero : List AVal) (H : Heap) (s : AVal) (l : Int) : appZK fl sz bytes zero H s (.lit (.int .i64 l)) = if 0 ≤ l ∧ l ≤ 2 ^ 46 ∧ l * bytes ≤ 2 ^ 46 then aadd fl sz bytes H s (flatL zero) (List.replicate l.toNat zero) else none := rfl
def capK (H : Heap) : AVal → Option (AVal × Heap)
  | .imm _ true _ es => some (vint .i64 es.length, H)
  | _ => none
theorem aop_cap {c : Callee} {ρ : Opd → AVal} {H : Heap} (x) : aop c ρ H (.cap x) = capK H (ρ x) := by
  unfold aop capK; rfl
theorem capK_imm (H : Heap) (n fl es) : capK H (.imm n true fl es) = some (vint .i64 es.length, H) := rfl
def cutK (sz : Nat) (H : Heap) (i len off n lo h m : Nat) : Option Entry → Option (AVal × Heap)
  | some (.arr fl lk _ se es) => if es.length = len ∧ se = sz ∧ off = 0 ∧ n = len ∧ lo = 0 ∧ h = m ∧ m ≤ n then
      some (.own H.length h sz 0 h, H.set i .dead ++ [.arr fl lk true sz (es.take h)]) else none
  | _ => none
theorem aslice_own_mx (sz : Nat) (H : Heap) (i len so off n lo h m : Nat) : aslice sz H (.own i len so off n) lo (some h) (some m) = if so ≠ sz then none else cutK sz H i len off n lo h m H[i]? := by
  simp only [aslice]
  split
  · rfl
  · cases H[i]? with
    | none => rfl
    | some e => cases e <;> rfl
theorem cutK_arr (sz : Nat) (H : Heap) (i len off n lo h m : Nat) (fl lk fu se es) : cutK sz H i len off n lo h m (some (.arr fl lk fu se es)) = if es.length = len ∧ se = sz ∧ off = 0 ∧ n = len ∧ lo = 0 ∧ h = m ∧ m ≤ n then
      some (.own H.length h sz 0 h, H.set i .dead ++ [.arr fl lk true sz (es.take h)]) else none := rfl
attribute [go_sem] aop_appendZ appZK_int aop_cap capK_imm aslice_own_mx cutK_arr

theorem rowsR (l : List Run) : rowsOk 3 (l.map encRun) = true := rowsOk_map (f := encRun) (fun _ => rfl) l
theorem noImm_encRun (l : List Run) : noImmLL (l.map encRun) = true := noImmLL_map (fun _ => rfl) l

end Go.AM.R1
open Go Go.AM
namespace Go.AM.R1
/-! ### slices.Grow and Concat of levels -/
theorem growL_nil (n : Nat) (hn : n ≤ 1000000) (h : n ≠ 0) : call E (.func (.func 131) [] []) [nilS, .lit (.int .i64 n)] []
    = some (.own 0 n 1 0 0, [.arr true false false 1 (List.replicate n [.lit (.int .i64 0)])]) := by
  rw [call_func E E131]
  have h0 : ¬ (n : Int) < 0 := by omega
  have w0 : IntKind.wrap .i64 0 = 0 := rfl
  have w1 : IntKind.wrap .i64 (n : Int) = n := wrap64 (by omega) (by omega)
  have h1 : 0 < (n : Int) := by omega
  have h1' : 0 < n := by omega
  have h2 : (n : Int) ≤ 70368744177664 := by omega
  have h3 : (n : Int) * 8 ≤ 70368744177664 := by omega
  have h4 : ¬ (70368744177664 < n * 8) := by omega
  have hr : rowsOk 1 (List.replicate n [AVal.lit (.int .i64 0)]) = true := by
    simp [rowsOk]
  simp [go_sem, ir131, h, h0, h1, h1', h2, h3, h4, hr, w0, w1, purse_eq, flatL, flatV]
set_option maxHeartbeats 2000000 in
theorem concatL3 (X Y Z : List Bool) (hX : X ≠ []) (hY : Y ≠ []) (hZ : Z ≠ []) (hl : X.length + Y.length + Z.length ≤ 1000000) (fu xn xf yn yf zn zf : Bool) :
    call E (.func (.func 95) [] []) [.imm false fu true [[.imm xn xf true (X.map encLv)], [.imm yn yf true (Y.map encLv)], [.imm zn zf true (Z.map encLv)]]] []
      = some (.own 0 (X ++ Y ++ Z).length 1 0 (X ++ Y ++ Z).length, [.arr true false false 1 ((X ++ Y ++ Z).map encLv)]) := by
  rw [call_func E E95]
  have pX := List.length_pos_iff.2 hX
  have pY := List.length_pos_iff.2 hY
  have pZ := List.length_pos_iff.2 hZ
  have hG := growL_nil (X.length + Y.length + Z.length) hl (by omega)
  have wx : IntKind.wrap .i64 (X.length : Int) = X.length := wrap64 (by omega) (by omega)
  have wxy : IntKind.wrap .i64 ((X.length : Int) + (Y.length : Int)) = (X.length : Int) + Y.length := wrap64 (by omega) (by omega)
  have wxyz : IntKind.wrap .i64 ((X.length : Int) + (Y.length : Int) + (Z.length : Int)) = (X.length : Int) + Y.length + Z.length := wrap64 (by omega) (by omega)
  have w1 : IntKind.wrap .i64 1 = 1 := rfl
  have w2 : IntKind.wrap .i64 2 = 2 := rfl
  have w3 : IntKind.wrap .i64 3 = 3 := rfl
  have h0 : ¬ (X.length : Int) < 0 := by omega
  have h1 : ¬ (X.length : Int) + (Y.length : Int) < 0 := by omega
  have h2 : ¬ (X.length : Int) + (Y.length : Int) + (Z.length : Int) < 0 := by omega
  have rX := rowsLv X
  have rY := rowsLv Y
  have rZ := rowsLv Z
  have b1 : ¬ (70368744177664 < X.length * 8) := by omega
  have b2 : ¬ (70368744177664 < (X.length + Y.length) * 8) := by omega
  have b3 : ¬ (70368744177664 < (X.length + (Y.length + Z.length)) * 8) := by omega
  have hne : ¬ (0 = X.length + (Y.length + Z.length)) := by omega
  simp [nilS] at hG
  simp [go_sem, ir95, run_codeL E L95_0.eq_1, run_codeL E L95_1.eq_1, run_inLoop', hG, wx, wxy, wxyz, w1, w2, w3, h0, h1, h2, rX, rY, rZ, b1, b2, b3, hX, hY, hZ, hne, nilS, purse_eq, List.range_succ, Nat.add_assoc]
set_option maxHeartbeats 2000000 in
theorem concatL4 (X Y Z V : List Bool) (hX : X ≠ []) (hY : Y ≠ []) (hZ : Z ≠ []) (hV : V ≠ []) (hl : X.length + Y.length + Z.length + V.length ≤ 1000000) (fu xn xf yn yf zn zf vn vf : Bool) :
    call E (.func (.func 95) [] []) [.imm false fu true [[.imm xn xf true (X.map encLv)], [.imm yn yf true (Y.map encLv)], [.imm zn zf true (Z.map encLv)], [.imm vn vf true (V.map encLv)]]] []
      = some (.own 0 (X ++ Y ++ Z ++ V).length 1 0 (X ++ Y ++ Z ++ V).length, [.arr true false false 1 ((X ++ Y ++ Z ++ V).map encLv)]) := by
  rw [call_func E E95]
  have pX := List.length_pos_iff.2 hX
  have pY := List.length_pos_iff.2 hY
  have pZ := List.length_pos_iff.2 hZ
  have pV := List.length_pos_iff.2 hV
  have hG := growL_nil (X.length + Y.length + Z.length + V.length) hl (by omega)
  have wx : IntKind.wrap .i64 (X.length : Int) = X.length := wrap64 (by omega) (by omega)
  have wxy : IntKind.wrap .i64 ((X.length : Int) + (Y.length : Int)) = (X.length : Int) + Y.length := wrap64 (by omega) (by omega)
  have wxyz : IntKind.wrap .i64 ((X.length : Int) + (Y.length : Int) + (Z.length : Int)) = (X.length : Int) + Y.length + Z.length := wrap64 (by omega) (by omega)
  have wv : IntKind.wrap .i64 ((X.length : Int) + (Y.length : Int) + (Z.length : Int) + (V.length : Int)) = (X.length : Int) + Y.length + Z.length + V.length := wrap64 (by omega) (by omega)
  have w1 : IntKind.wrap .i64 1 = 1 := rfl
  have w2 : IntKind.wrap .i64 2 = 2 := rfl
  have w3 : IntKind.wrap .i64 3 = 3 := rfl
  have w4 : IntKind.wrap .i64 4 = 4 := rfl
  have h0 : ¬ (X.length : Int) < 0 := by omega
  have h1 : ¬ (X.length : Int) + (Y.length : Int) < 0 := by omega
  have h2 : ¬ (X.length : Int) + (Y.length : Int) + (Z.length : Int) < 0 := by omega
  have h3 : ¬ (X.length : Int) + (Y.length : Int) + (Z.length : Int) + (V.length : Int) < 0 := by omega
  have rX := rowsLv X
  have rY := rowsLv Y
  have rZ := rowsLv Z
  have rV := rowsLv V
  have b1 : ¬ (70368744177664 < X.length * 8) := by omega
  have b2 : ¬ (70368744177664 < (X.length + Y.length) * 8) := by omega
  have b3 : ¬ (70368744177664 < (X.length + (Y.length + Z.length)) * 8) := by omega
  have b4 : ¬ (70368744177664 < (X.length + (Y.length + (Z.length + V.length))) * 8) := by omega
  have hne : ¬ (0 = X.length + (Y.length + (Z.length + V.length))) := by omega
  simp [nilS] at hG
  simp [go_sem, ir95, run_codeL E L95_0.eq_1, run_codeL E L95_1.eq_1, run_inLoop', hG, wx, wxy, wxyz, wv, w1, w2, w3, w4, h0, h1, h2, h3, rX, rY, rZ, rV, b1, b2, b3, b4, hX, hY, hZ, hV, hne, nilS, purse_eq, List.range_succ, Nat.add_assoc]
/-! ### The greatest byte -/
def maxL (a : Nat) : List Nat → Nat
  | [] => a
  | x :: l => maxL (max a x) l
theorem maxL_zero : ∀ (l : List Nat) (a : Nat), (maxL a l = 0 ↔ a = 0 ∧ ∀ x ∈ l, x = 0)
  | [], a => by simp [maxL]
  | x :: l, a => by
    rw [maxL, maxL_zero l]
    constructor
    · rintro ⟨h1, h2⟩
      refine ⟨by omega, fun y hy => ?_⟩
      rcases List.mem_cons.1 hy with e | e
      · omega
      · exact h2 y e
    · rintro ⟨h1, h2⟩
      have := h2 x (by simp)
      exact ⟨by omega, fun y hy => h2 y (by simp [hy])⟩
theorem max_loop (l : List Nat) (hl : l.length ≤ 1000000) (nl fu : Bool) (k : List Item) (R : Nat → Option (AVal × Heap))
    (hk : ∀ (τ : Tmps) (a : Nat), lk 3 τ = .lit (.int .u8 (a : Int)) → finK 0 [.tmp 2] (run E 0 k τ []) = R a) :
    ∀ (d i a : Nat), i + d = l.length →
   finK 0 [.tmp 2] (run E 0 (.code L90_0 :: .inLoop [0, 3, 4] L90_0 :: .inBlock 0 :: k) [(0, .imm nl fu true (l.map encB)), (3, .lit (.int .u8 a)), (4, .lit (.int .i64 i))] []) = R (maxL a (l.drop i)) := by
  intro d
  induction d with
  | zero =>
    intro i a hi
    have : i = l.length := by omega
    subst this
    simp [go_sem, run_codeL E L90_0.eq_1, maxL]
    exact hk _ _ rfl
  | succ d ih =>
    intro i a hi
    have hlt : i < l.length := by omega
    have w := wrapIdx (i := i) (by omega)
    rw [List.drop_eq_getElem_cons hlt, maxL]
    have ih2 := ih (i + 1) (max a l[i]) (by omega)
    have hm : (if (a : Int) < (l[i] : Int) then (l[i] : Int) else (a : Int)) = ((max a l[i] : Nat) : Int) := by split <;> omega
    have hm2 : (if a < l[i] then (l[i] : Int) else (a : Int)) = ((max a l[i] : Nat) : Int) := by split <;> omega
    generalize R _ = Q at ih2 ⊢
    generalize max a l[i] = mx at *
    simp at ih2 w
    simp [go_sem, run_codeL E L90_0.eq_1, hlt, List.getElem?_eq_getElem hlt, encB, w, hm, hm2, purse_eq]
    rw [run_inLoop']
    simp [go_sem, purse_eq]
    exact ih2
theorem max_spec (x : Nat) (l : List Nat) (hl : l.length ≤ 100000) (nl fu : Bool) : call E (.func (.func 90) [] []) [.imm nl fu true ((x :: l).map encB)] [] = some (.lit (.int .u8 (maxL x l)), []) := by
  rw [call_func E E90]
  have h1 : ¬ ((l.length : Int) + 1 < 1) := by omega
  have h := fun k hk => max_loop (x :: l) (by simp; omega) nl fu k (fun n => some (.lit (.int .u8 n), [])) hk l.length 1 x (by simp; omega)
  simp at h
  simp [go_sem, ir90, h1, encB, purse_eq]
  rw [run_inLoop']
  simp [go_sem, purse_eq]
  simp [encB] at h
  refine h _ ?_
  intro τ n t3
  simp [go_sem, t3]
theorem ones10 : call E (.func (.func 96) [] []) [.imm false true true [[.lit (.int .i64 1)]], .lit (.int .i64 10)] [] = some (.own 0 10 1 0 10, [.arr true false false 1 (List.replicate 10 [.lit (.int .i64 1)])]) :=
  (call_iff E).2 ⟨400, by kernel_rfl⟩
end Go.AM.R1
open Go Go.AM
namespace Go.AM.R1
def slArrK (n sz : Nat) (H : Heap) : AVal → Option Nat → Option Nat → Option (AVal × Heap)
  | .ptr i k, some l, some h => if l ≤ h ∧ h ≤ n then some (.asl i (k + l * sz) sz (h - l), H) else none
  | _, _, _ => none
theorem aop_sliceArr {c : Callee} {ρ : Opd → AVal} {H : Heap} (n sz x lo hi) : aop c ρ H (.sliceArr n sz x lo hi) = slArrK n sz H (ρ x) (optNat ρ 0 lo) (optNat ρ n hi) := by
  simp only [aop]
  cases optNat ρ 0 lo with
  | none => cases ρ x <;> rfl
  | some l => cases optNat ρ n hi with
    | none => cases ρ x <;> rfl
    | some h => cases ρ x <;> rfl
theorem slArrK_ptr (n sz : Nat) (H : Heap) (i k l h : Nat) : slArrK n sz H (.ptr i k) (some l) (some h) = if l ≤ h ∧ h ≤ n then some (.asl i (k + l * sz) sz (h - l), H) else none := rfl
def appAslK (fl : Bool) (sz bytes : Nat) (H : Heap) (s : AVal) (k sa n : Nat) : Option Entry → Option (AVal × Heap)
  | some (.box cs) => if k + n * sa ≤ cs.length then aadd fl sz bytes H s (flatL cs) (chunks (cs.drop k) sa n) else none
  | _ => none
theorem aappend_asl (fl : Bool) (sz bytes : Nat) (H : Heap) (s : AVal) (i k sa n : Nat) : aappend fl sz bytes H s (.asl i k sa n) = appAslK fl sz bytes H s k sa n H[i]? := by
  simp only [aappend, content]
  cases H[i]? with
  | none => rfl
  | some e => cases e with
    | box cs =>
      simp only [appAslK]
      split <;> rfl
    | _ => rfl
theorem appAslK_box (fl : Bool) (sz bytes : Nat) (H : Heap) (s : AVal) (k sa n : Nat) (cs) : appAslK fl sz bytes H s k sa n (some (.box cs)) = if k + n * sa ≤ cs.length then aadd fl sz bytes H s (flatL cs) (chunks (cs.drop k) sa n) else none := rfl
attribute [go_sem] aop_sliceArr slArrK_ptr aappend_asl appAslK_box
/-! ### Which frames are right, and their levels -/
def Fr.bytes (f : Fr) : List Nat := [f.d0, f.d1, f.d2, f.d3, f.d4, f.d5, f.d6, f.d7]
structure Fr.Ok (f : Fr) : Prop where
  id1 : -9223372036854775808 ≤ f.id
  id2 : f.id ≤ 9223372036854775807
  len1 : -9223372036854775808 ≤ f.len
  len2 : f.len ≤ 9223372036854775807
  byte : ∀ c ∈ f.bytes, c < 256
def checkP (f : Fr) : Int :=
  if f.id < 0 ∨ (if f.ext = true then 536870911 else 2047) < f.id then 14
  else if f.len < 0 ∨ 8 < f.len then 14
  else if maxL 0 (f.bytes.drop (if f.rtr = true then 0 else f.len.toNat)) = 0 then 0 else 14
set_option maxHeartbeats 8000000 in
theorem fcheck_spec (f : Fr) : call E (.func (.func 53) [] []) [.agg (encFr f)] [] = some (.lit (.int .i64 (checkP f)), []) := by
  rw [call_func E E53]
  obtain ⟨id, ext, rtr, len, d0, d1, d2, d3, d4, d5, d6, d7⟩ := f
  by_cases h1 : id < 0
  · have : checkP ⟨id, ext, rtr, len, d0, d1, d2, d3, d4, d5, d6, d7⟩ = 14 := by unfold checkP; rw [if_pos (.inl h1)]
    rw [this]
    cases ext <;> cases rtr <;> simp [go_sem, ir53, encFr, u8v, h1, purse_eq, List.range_succ]
  · by_cases h2 : (if ext = true then 536870911 else 2047) < id
    · have : checkP ⟨id, ext, rtr, len, d0, d1, d2, d3, d4, d5, d6, d7⟩ = 14 := by unfold checkP; rw [if_pos (.inr h2)]
      rw [this]
      cases ext <;> cases rtr <;> simp at h2 <;> simp [go_sem, ir53, encFr, u8v, h1, h2, purse_eq, List.range_succ]
    · by_cases h3 : len < 0
      · have : checkP ⟨id, ext, rtr, len, d0, d1, d2, d3, d4, d5, d6, d7⟩ = 14 := by unfold checkP; rw [if_neg (by rintro (q | q); exact h1 q; exact h2 q), if_pos (.inl h3)]
        rw [this]
        have h2 : ¬ (if ext = true then 536870911 else 2047) < id := h2
        cases ext <;> cases rtr <;> simp at h2 <;> (have h2' := Int.not_lt.2 h2) <;> simp [go_sem, ir53, encFr, u8v, h1, h2', h3, purse_eq, List.range_succ]
      · by_cases h4 : 8 < len
        · have : checkP ⟨id, ext, rtr, len, d0, d1, d2, d3, d4, d5, d6, d7⟩ = 14 := by unfold checkP; rw [if_neg (by rintro (q | q); exact h1 q; exact h2 q), if_pos (.inr h4)]
          rw [this]
          cases ext <;> cases rtr <;> simp at h2 <;> (have h2' := Int.not_lt.2 h2) <;> simp [go_sem, ir53, encFr, u8v, h1, h2', h3, h4, purse_eq, List.range_succ]
        · have hc : checkP ⟨id, ext, rtr, len, d0, d1, d2, d3, d4, d5, d6, d7⟩ = if maxL 0 (([d0, d1, d2, d3, d4, d5, d6, d7] : List Nat).drop (if rtr = true then 0 else len.toNat)) = 0 then 0 else 14 := by unfold checkP; rw [if_neg (by rintro (q | q); exact h1 q; exact h2 q), if_neg (by rintro (q | q); exact h3 q; exact h4 q)]; rfl
          rw [hc]
          clear hc
          have hm := fun (l : List Nat) (hl : l.length ≤ 100000) (fu : Bool) => max_spec 0 l hl false fu
          cases rtr
          · have hcase : len = 0 ∨ len = 1 ∨ len = 2 ∨ len = 3 ∨ len = 4 ∨ len = 5 ∨ len = 6 ∨ len = 7 ∨ len = 8 := by omega
            rcases hcase with rfl | rfl | rfl | rfl | rfl | rfl | rfl | rfl | rfl
            · have hM := hm (([d0, d1, d2, d3, d4, d5, d6, d7] : List Nat).drop 0) (by simp) false
              simp [encB] at hM
              cases ext <;> simp at h2 <;> (have h2' := Int.not_lt.2 h2) <;> simp [go_sem, ir53, encFr, u8v, h1, h2', h3, h4, hM, chunks, rowsOk, purse_eq, List.range_succ] <;> (first | done | (generalize maxL 0 _ = mx at *; rcases Nat.eq_zero_or_pos mx with hz | hz; (simp [go_sem, hz, purse_eq]); (have hz' : ¬ mx = 0 := by omega); (simp [go_sem, hz, hz', purse_eq])))
            · have hM := hm (([d0, d1, d2, d3, d4, d5, d6, d7] : List Nat).drop 1) (by simp) false
              simp [encB] at hM
              cases ext <;> simp at h2 <;> (have h2' := Int.not_lt.2 h2) <;> simp [go_sem, ir53, encFr, u8v, h1, h2', h3, h4, hM, chunks, rowsOk, purse_eq, List.range_succ] <;> (first | done | (generalize maxL 0 _ = mx at *; rcases Nat.eq_zero_or_pos mx with hz | hz; (simp [go_sem, hz, purse_eq]); (have hz' : ¬ mx = 0 := by omega); (simp [go_sem, hz, hz', purse_eq])))
            · have hM := hm (([d0, d1, d2, d3, d4, d5, d6, d7] : List Nat).drop 2) (by simp) false
              simp [encB] at hM
              cases ext <;> simp at h2 <;> (have h2' := Int.not_lt.2 h2) <;> simp [go_sem, ir53, encFr, u8v, h1, h2', h3, h4, hM, chunks, rowsOk, purse_eq, List.range_succ] <;> (first | done | (generalize maxL 0 _ = mx at *; rcases Nat.eq_zero_or_pos mx with hz | hz; (simp [go_sem, hz, purse_eq]); (have hz' : ¬ mx = 0 := by omega); (simp [go_sem, hz, hz', purse_eq])))
            · have hM := hm (([d0, d1, d2, d3, d4, d5, d6, d7] : List Nat).drop 3) (by simp) false
              simp [encB] at hM
              cases ext <;> simp at h2 <;> (have h2' := Int.not_lt.2 h2) <;> simp [go_sem, ir53, encFr, u8v, h1, h2', h3, h4, hM, chunks, rowsOk, purse_eq, List.range_succ] <;> (first | done | (generalize maxL 0 _ = mx at *; rcases Nat.eq_zero_or_pos mx with hz | hz; (simp [go_sem, hz, purse_eq]); (have hz' : ¬ mx = 0 := by omega); (simp [go_sem, hz, hz', purse_eq])))
            · have hM := hm (([d0, d1, d2, d3, d4, d5, d6, d7] : List Nat).drop 4) (by simp) false
              simp [encB] at hM
              cases ext <;> simp at h2 <;> (have h2' := Int.not_lt.2 h2) <;> simp [go_sem, ir53, encFr, u8v, h1, h2', h3, h4, hM, chunks, rowsOk, purse_eq, List.range_succ] <;> (first | done | (generalize maxL 0 _ = mx at *; rcases Nat.eq_zero_or_pos mx with hz | hz; (simp [go_sem, hz, purse_eq]); (have hz' : ¬ mx = 0 := by omega); (simp [go_sem, hz, hz', purse_eq])))
            · have hM := hm (([d0, d1, d2, d3, d4, d5, d6, d7] : List Nat).drop 5) (by simp) false
              simp [encB] at hM
              cases ext <;> simp at h2 <;> (have h2' := Int.not_lt.2 h2) <;> simp [go_sem, ir53, encFr, u8v, h1, h2', h3, h4, hM, chunks, rowsOk, purse_eq, List.range_succ] <;> (first | done | (generalize maxL 0 _ = mx at *; rcases Nat.eq_zero_or_pos mx with hz | hz; (simp [go_sem, hz, purse_eq]); (have hz' : ¬ mx = 0 := by omega); (simp [go_sem, hz, hz', purse_eq])))
            · have hM := hm (([d0, d1, d2, d3, d4, d5, d6, d7] : List Nat).drop 6) (by simp) false
              simp [encB] at hM
              cases ext <;> simp at h2 <;> (have h2' := Int.not_lt.2 h2) <;> simp [go_sem, ir53, encFr, u8v, h1, h2', h3, h4, hM, chunks, rowsOk, purse_eq, List.range_succ] <;> (first | done | (generalize maxL 0 _ = mx at *; rcases Nat.eq_zero_or_pos mx with hz | hz; (simp [go_sem, hz, purse_eq]); (have hz' : ¬ mx = 0 := by omega); (simp [go_sem, hz, hz', purse_eq])))
            · have hM := hm (([d0, d1, d2, d3, d4, d5, d6, d7] : List Nat).drop 7) (by simp) false
              simp [encB] at hM
              cases ext <;> simp at h2 <;> (have h2' := Int.not_lt.2 h2) <;> simp [go_sem, ir53, encFr, u8v, h1, h2', h3, h4, hM, chunks, rowsOk, purse_eq, List.range_succ] <;> (first | done | (generalize maxL 0 _ = mx at *; rcases Nat.eq_zero_or_pos mx with hz | hz; (simp [go_sem, hz, purse_eq]); (have hz' : ¬ mx = 0 := by omega); (simp [go_sem, hz, hz', purse_eq])))
            · have hM := hm (([d0, d1, d2, d3, d4, d5, d6, d7] : List Nat).drop 8) (by simp) true
              simp [encB] at hM
              cases ext <;> simp at h2 <;> (have h2' := Int.not_lt.2 h2) <;> simp [go_sem, ir53, encFr, u8v, h1, h2', h3, h4, hM, chunks, rowsOk, purse_eq, List.range_succ] <;> (first | done | (generalize maxL 0 _ = mx at *; rcases Nat.eq_zero_or_pos mx with hz | hz; (simp [go_sem, hz, purse_eq]); (have hz' : ¬ mx = 0 := by omega); (simp [go_sem, hz, hz', purse_eq])))
          · have hM := hm (([d0, d1, d2, d3, d4, d5, d6, d7] : List Nat).drop 0) (by simp) false
            simp [encB] at hM
            cases ext <;> simp at h2 <;> (have h2' := Int.not_lt.2 h2) <;> simp [go_sem, ir53, encFr, u8v, h1, h2', h3, h4, hM, chunks, rowsOk, purse_eq, List.range_succ] <;> (first | done | (generalize maxL 0 _ = mx at *; rcases Nat.eq_zero_or_pos mx with hz | hz; (simp [go_sem, hz, purse_eq]); (have hz' : ¬ mx = 0 := by omega); (simp [go_sem, hz, hz', purse_eq])))
end Go.AM.R1
open Go Go.AM
namespace Go.AM.R1
def arbP (f : Fr) : List Bool :=
  if f.ext = true then bitsOf 11 (f.id.toNat / 262144) ++ [true, true] ++ bitsOf 18 f.id.toNat ++ [f.rtr] else bitsOf 11 f.id.toNat ++ [f.rtr, false]
theorem checkP_ok {f : Fr} (h : checkP f = 0) : 0 ≤ f.id ∧ f.id ≤ 536870911 ∧ (f.ext = false → f.id ≤ 2047) ∧ 0 ≤ f.len ∧ f.len ≤ 8 ∧ maxL 0 (f.bytes.drop (if f.rtr = true then 0 else f.len.toNat)) = 0 := by
  unfold checkP at h
  by_cases h1 : f.id < 0 ∨ (if f.ext = true then 536870911 else 2047) < f.id
  · rw [if_pos h1] at h; cases h
  · rw [if_neg h1] at h
    by_cases h2 : f.len < 0 ∨ 8 < f.len
    · rw [if_pos h2] at h; cases h
    · rw [if_neg h2] at h
      have a1 : ¬ f.id < 0 := fun q => h1 (.inl q)
      have a2 : ¬ (if f.ext = true then 536870911 else 2047) < f.id := fun q => h1 (.inr q)
      have a3 : ¬ f.len < 0 := fun q => h2 (.inl q)
      have a4 : ¬ 8 < f.len := fun q => h2 (.inr q)
      refine ⟨by omega, by split at a2 <;> omega, ?_, by omega, by omega, ?_⟩
      · intro q
        rw [q] at a2
        simp at a2; omega
      · by_cases h3 : maxL 0 (f.bytes.drop (if f.rtr = true then 0 else f.len.toNat)) = 0
        · exact h3
        · rw [if_neg h3] at h; cases h
theorem lvl_spec (b : Bool) : call E (.func (.func 151) [] []) [.lit (.bool b)] [] = some (.lit (.int .i64 (lv b)), []) := by
  rw [call_func E E151]
  cases b <;> simp [go_sem, ir151, lv]
theorem farb_err (f : Fr) (h : checkP f ≠ 0) : call E (.func (.func 125) [] []) [.agg (encFr f)] [] = some (.tup [nilS, .lit (.int .i64 (checkP f))], []) := by
  rw [call_func E E125]
  have hC := fcheck_spec f
  generalize checkP f = c at *
  simp [encFr, u8v] at hC
  simp [go_sem, ir125, encFr, u8v, hC, h, nilS, purse_eq, List.range_succ]
theorem farb_spec (f : Fr) (h : checkP f = 0) : call E (.func (.func 125) [] []) [.agg (encFr f)] [] = some (.tup [.own 0 (arbP f).length 1 0 (arbP f).length, .lit (.int .i64 0)], [.arr true false false 1 ((arbP f).map encLv)]) := by
  rw [call_func E E125]
  have hC := fcheck_spec f
  rw [h] at hC
  obtain ⟨c1, c2, c3, c4, c5, c6⟩ := checkP_ok h
  have hl := lvl_spec f.rtr
  obtain ⟨n, hn⟩ := Int.eq_ofNat_of_zero_le c1
  have wn : IntKind.wrap .u64 (n : Int) = n := wrap_u64 (by omega)
  cases hx : f.ext
  · have e : arbP f = bitsOf 11 n ++ [f.rtr, false] := by unfold arbP; rw [hx, hn]; rfl
    have hb := bof_spec n 11 (by omega) (by omega)
    have hlen := bitsOf_length 11 n
    have hr : rowsOk 1 ((bitsOf 11 n).map encLv) = true := rowsLv _
    rw [e]
    generalize bitsOf 11 n = B at *
    simp [encFr, u8v, hx, hn] at hC hb
    simp [go_sem, ir125, encFr, u8v, hC, hx, hn, hl, wn, hb, hlen, hr, encLv, show lv false = 0 from rfl, rowsOk, nilS, purse_eq, List.range_succ]
  · have e : arbP f = bitsOf 11 (n / 262144) ++ [true, true] ++ bitsOf 18 n ++ [f.rtr] := by unfold arbP; rw [hx, hn]; rfl
    have hb := bof_spec (n / 262144) 11 (by omega) (by omega)
    have hb2 := bof_spec n 18 (by omega) (by omega)
    have hlen := bitsOf_length 11 (n / 262144)
    have hlen2 := bitsOf_length 18 n
    have hne1 : bitsOf 11 (n / 262144) ≠ [] := by intro q; rw [q] at hlen; simp at hlen
    have hne2 : bitsOf 18 n ≠ [] := by intro q; rw [q] at hlen2; simp at hlen2
    have hfd : (n : Int).fdiv 262144 = ((n / 262144 : Nat) : Int) := by rw [Int.fdiv_eq_ediv_of_nonneg _ (by omega)]; simp
    have hr : rowsOk 1 ((bitsOf 11 (n / 262144)).map encLv) = true := rowsLv _
    have hr2 : rowsOk 1 ((bitsOf 18 n).map encLv) = true := rowsLv _
    have hCC := concatL4 (bitsOf 11 (n / 262144)) [true, true] (bitsOf 18 n) [f.rtr] hne1 (by simp) hne2 (by simp) (by simp; omega) true false false false true false false false true
    rw [e]
    generalize bitsOf 11 (n / 262144) = B at *
    generalize bitsOf 18 n = B2 at *
    generalize n / 262144 = nq at *
    have c11 : cutE (B.map encLv) 0 11 = B.map encLv := cutE_whole (by simp [hlen])
    have c18 : cutE (B2.map encLv) 0 18 = B2.map encLv := cutE_whole (by simp [hlen2])
    simp [encFr, u8v, hx, hn] at hC hb hb2
    simp [encLv, hlen, hlen2, show lv true = 1 from rfl] at hCC
    simp [go_sem, ir125, encFr, u8v, hC, hx, hn, hl, wn, hfd, hb, hb2, hlen, hlen2, hr, hr2, c11, c18, hCC, encLv, show lv true = 1 from rfl, rowsOk, nilS, purse_eq, List.range_succ]
end Go.AM.R1
open Go Go.AM
namespace Go.AM.R1
/-! ### All levels of a frame -/
theorem put_spec4 (n w : Nat) (hn : n < 18446744073709551616) (hw : w ≤ 64) (hw0 : w ≠ 0) (X : List Bool) (hX : X.length ≤ 1000000) (lk : Bool) :
    call E (.func (.func 126) [] [.ptr 0 0, .ptr 1 0]) [.lit (.int .u64 n), .lit (.int .i64 w)] [.box [.lit (.int .i64 0)], .box [.own 2 X.length 1 0 X.length], .arr true lk false 1 (X.map encLv)]
      = some (.tup [], [.box [.lit (.int .i64 0)], .box [.own 2 (X ++ bitsOf w n).length 1 0 (X ++ bitsOf w n).length], .arr true lk false 1 ((X ++ bitsOf w n).map encLv)]) := by
  rw [call_func E E126]
  have hb := bof_spec n w hn hw
  have hlen := bitsOf_length w n
  have hr := rowsLv (bitsOf w n)
  have hr2 := rowsLv X
  have hsz : ¬ (70368744177664 < (X.length + w) * 8) := by omega
  generalize bitsOf w n = B at *
  have hcw : cutE (B.map encLv) 0 w = B.map encLv := cutE_whole (by simp [hlen])
  have hB0 : B ≠ [] := by intro q; rw [q] at hlen; simp at hlen; omega
  simp [go_sem, ir126, hb, hlen, hr, hr2, hsz, hcw, hw0, hB0, purse_eq, List.range_succ]
def bytesP (bs : List Nat) : List Bool := bs.flatMap fun c => bitsOf 8 c
theorem bits_loop4 (cs : List AVal) (hcr : refsL cs = []) (bs : List Nat) (hb : ∀ c ∈ bs, c < 256) (hb8 : bs.length ≤ 8) (hcs : ∀ (i : Nat) (h : i < bs.length), cs[4 + i]? = some (u8v bs[i])) (k : List Item) (R : List Bool → Option (AVal × Heap))
    (hk : ∀ τ X, lk 6 τ = .ptr 3 0 → lk 7 τ = .ptr 4 0 → finK 0 [.tmp 2, .tmp 3] (run E 0 k τ [.box cs, .dead, .arr true false false 1 (X.map encLv), .box [.own 2 X.length 1 0 X.length], .box [.lit (.int .i64 0)]]) = R X) :
    ∀ (d i : Nat) (X : List Bool), i + d = bs.length → X.length ≤ 100 + 8 * i →
   finK 0 [.tmp 2, .tmp 3] (run E 0 (.code L92_0 :: .inLoop [6, 7, 8, 39, 40, 41] L92_0 :: .inBlock 0 :: k) [(6, .ptr 3 0), (7, .ptr 4 0), (8, .func (.func 126) [] [.ptr 4 0, .ptr 3 0]), (39, .asl 0 4 1 bs.length), (40, .lit (.int .i64 bs.length)), (41, .lit (.int .i64 i))] [.box cs, .dead, .arr true false false 1 (X.map encLv), .box [.own 2 X.length 1 0 X.length], .box [.lit (.int .i64 0)]]) = R (X ++ bytesP (bs.drop i)) := by
  intro d
  induction d with
  | zero =>
    intro i X hi hX
    have : i = bs.length := by omega
    subst this
    rw [List.drop_length, show bytesP [] = [] from rfl, List.append_nil]
    simp [go_sem, run_codeL E L92_0.eq_1]
    exact hk _ X rfl rfl
  | succ d ih =>
    intro i X hi hX
    have hlt : i < bs.length := by omega
    have w := wrapIdx (i := i) (by omega)
    have hlen := bitsOf_length 8 bs[i]
    have hbi := hb _ (List.getElem_mem hlt)
    have wu : IntKind.wrap .u64 (bs[i] : Int) = bs[i] := wrap_u64 (by omega)
    rw [List.drop_eq_getElem_cons hlt, show bytesP (bs[i] :: bs.drop (i + 1)) = bitsOf 8 bs[i] ++ bytesP (bs.drop (i + 1)) from rfl, ← List.append_assoc]
    have ih2 := ih (i + 1) (X ++ bitsOf 8 bs[i]) (by omega) (by rw [List.length_append, hlen]; omega)
    have hP := put_spec4 bs[i] 8 (by omega) (by omega) (by omega) X (by omega) false
    have hc := hcs i hlt
    generalize R _ = Q at ih2 ⊢
    generalize X ++ bitsOf 8 bs[i] = X2 at *
    generalize bs[i] = c at *
    simp only [u8v] at hc
    simp at ih2 w hP
    simp [go_sem, run_codeL E L92_0.eq_1, hlt, w, hcr, wu, hP, hc, purse_eq, List.range_succ]
    rw [run_inLoop']
    simp [go_sem, hcr, purse_eq, List.range_succ]
    exact ih2
def bitsP (f : Fr) : List Bool := [false] ++ arbP f ++ bitsOf (if f.ext = true then 6 else 5) f.len.toNat ++ (if f.rtr = true then [] else bytesP (f.bytes.take f.len.toNat))
theorem arbP_length (f : Fr) : (arbP f).length = if f.ext = true then 32 else 13 := by
  unfold arbP; split <;> simp [bitsOf_length]
theorem fbits_err (f : Fr) (h : checkP f ≠ 0) : call E (.func (.func 92) [] []) [.agg (encFr f)] [] = some (.tup [nilS, .lit (.int .i64 (checkP f))], []) := by
  rw [call_func E E92]
  have hA := farb_err f h
  generalize checkP f = c at *
  simp [encFr, u8v, nilS] at hA
  simp [go_sem, ir92, encFr, u8v, hA, h, nilS, purse_eq, List.range_succ]
set_option maxHeartbeats 2000000 in
theorem fbits_spec (f : Fr) (hf : f.Ok) (h : checkP f = 0) : call E (.func (.func 92) [] []) [.agg (encFr f)] [] = some (.tup [.own 0 (bitsP f).length 1 0 (bitsP f).length, .lit (.int .i64 0)], [.arr true false false 1 ((bitsP f).map encLv)]) := by
  rw [call_func E E92]
  have hA := farb_spec f h
  obtain ⟨c1, c2, c3, c4, c5, c6⟩ := checkP_ok h
  obtain ⟨n, hn⟩ := Int.eq_ofNat_of_zero_le c4
  have wn : IntKind.wrap .u64 (n : Int) = n := wrap_u64 (by omega)
  have hal := arbP_length f
  have hr := rowsLv (arbP f)
  have hane : arbP f ≠ [] := by intro q; rw [q] at hal; simp at hal; split at hal <;> omega
  have hsz : ¬ (70368744177664 < (1 + (arbP f).length) * 8) := by rw [hal]; split <;> omega
  have hsz2 : ¬ (70368744177664 < ((arbP f).length + 1) * 8) := by rw [hal]; split <;> omega
  have hP := put_spec4 n (if f.ext = true then 6 else 5) (by omega) (by split <;> omega) (by split <;> omega) ([false] ++ arbP f) (by simp; rw [hal]; split <;> omega) false
  have hbl : ([false] ++ arbP f ++ bitsOf (if f.ext = true then 6 else 5) n).length ≤ 100 := by simp [bitsOf_length, hal]; split <;> omega
  have hcsl : ∀ (bs : List Nat), bs = f.bytes.take n → ∀ (i : Nat) (hi : i < bs.length), (encFr f)[4 + i]? = some (u8v bs[i]) := by
    intro bs e i hi
    subst e
    have hi8 : i < 8 := by simp [Fr.bytes] at hi; omega
    rw [List.getElem_take]
    have : i = 0 ∨ i = 1 ∨ i = 2 ∨ i = 3 ∨ i = 4 ∨ i = 5 ∨ i = 6 ∨ i = 7 := by omega
    rcases this with rfl | rfl | rfl | rfl | rfl | rfl | rfl | rfl <;> rfl
  have hcs := hcsl _ rfl
  have hbt : (f.bytes.take n).length = n := by simp [Fr.bytes]; omega
  have e : bitsP f = [false] ++ arbP f ++ bitsOf (if f.ext = true then 6 else 5) n ++ (if f.rtr = true then [] else bytesP (f.bytes.take n)) := by unfold bitsP; rw [hn]; rfl
  have hnl : n ≤ 8 := by omega
  rw [e]
  have hloop := fun k hk => bits_loop4 (encFr f) rfl (f.bytes.take n) (fun c hc => hf.byte c (List.mem_of_mem_take hc)) (by omega) hcs k (fun X => some (.tup [.own 0 X.length 1 0 X.length, .lit (.int .i64 0)], [.arr true false false 1 (X.map encLv)])) hk n 0 ([false] ++ arbP f ++ bitsOf (if f.ext = true then 6 else 5) n) (by omega) (by omega)
  rw [hbt, List.drop_zero] at hloop
  clear hcs hcsl hbt
  generalize f.bytes.take n = bs at *
  have hr1 : rowsOk 1 [[AVal.lit (.int .i64 0)]] = true := rfl
  have hcm : 1 + (arbP f).length = (arbP f).length + 1 := Nat.add_comm _ _
  cases hrt : f.rtr
  · simp only [Bool.false_eq_true, if_false]
    cases hx : f.ext
    · simp only [hx, Bool.false_eq_true, if_false, if_true] at hP hloop ⊢
      generalize hX : [false] ++ arbP f ++ bitsOf 5 n = X at *
      simp [encFr, u8v, hx, hrt, hn, encLv, hcm, show lv false = 0 from rfl] at hA hP
      simp [go_sem, ir92, encFr, u8v, hA, hx, hrt, hn, wn, hr, hane, hsz, hsz2, hP, hnl, hr1, hcm, show IntKind.wrap .i64 5 = 5 from rfl, show IntKind.wrap .i64 6 = 6 from rfl, nilS, purse_eq, List.range_succ]
      rw [run_inLoop']
      simp [go_sem, purse_eq, List.range_succ]
      simp [encFr, u8v, hx, hrt, hn] at hloop
      refine hloop _ ?_
      intro τ Y t6 t7
      simp [go_sem, t6, t7, purse_eq, List.range_succ]
    · simp only [hx, Bool.false_eq_true, if_false, if_true] at hP hloop ⊢
      generalize hX : [false] ++ arbP f ++ bitsOf 6 n = X at *
      simp [encFr, u8v, hx, hrt, hn, encLv, hcm, show lv false = 0 from rfl] at hA hP
      simp [go_sem, ir92, encFr, u8v, hA, hx, hrt, hn, wn, hr, hane, hsz, hsz2, hP, hnl, hr1, hcm, show IntKind.wrap .i64 5 = 5 from rfl, show IntKind.wrap .i64 6 = 6 from rfl, nilS, purse_eq, List.range_succ]
      rw [run_inLoop']
      simp [go_sem, purse_eq, List.range_succ]
      simp [encFr, u8v, hx, hrt, hn] at hloop
      refine hloop _ ?_
      intro τ Y t6 t7
      simp [go_sem, t6, t7, purse_eq, List.range_succ]
  · simp only [if_true, List.append_nil]
    cases hx : f.ext
    · simp only [hx, Bool.false_eq_true, if_false, if_true] at hP hloop ⊢
      generalize hX : [false] ++ arbP f ++ bitsOf 5 n = X at *
      simp [encFr, u8v, hx, hrt, hn, encLv, hcm, show lv false = 0 from rfl] at hA hP
      simp [go_sem, ir92, encFr, u8v, hA, hx, hrt, hn, wn, hr, hane, hsz, hsz2, hP, hnl, hr1, hcm, show IntKind.wrap .i64 5 = 5 from rfl, show IntKind.wrap .i64 6 = 6 from rfl, nilS, purse_eq, List.range_succ]
    · simp only [hx, Bool.false_eq_true, if_false, if_true] at hP hloop ⊢
      generalize hX : [false] ++ arbP f ++ bitsOf 6 n = X at *
      simp [encFr, u8v, hx, hrt, hn, encLv, hcm, show lv false = 0 from rfl] at hA hP
      simp [go_sem, ir92, encFr, u8v, hA, hx, hrt, hn, wn, hr, hane, hsz, hsz2, hP, hnl, hr1, hcm, show IntKind.wrap .i64 5 = 5 from rfl, show IntKind.wrap .i64 6 = 6 from rfl, nilS, purse_eq, List.range_succ]
end Go.AM.R1
open Go Go.AM
namespace Go.AM.R1
theorem bytesP_length : ∀ bs : List Nat, (bytesP bs).length = 8 * bs.length
  | [] => rfl
  | c :: bs => by
    show (bitsOf 8 c ++ bytesP bs).length = _
    rw [List.length_append, bitsOf_length, bytesP_length bs, List.length_cons]; omega
theorem bitsP_length (f : Fr) : (bitsP f).length ≤ 103 ∧ 19 ≤ (bitsP f).length := by
  unfold bitsP
  have h : (f.bytes.take f.len.toNat).length ≤ 8 := by simp [Fr.bytes]; omega
  have h2 := bytesP_length (f.bytes.take f.len.toNat)
  simp only [List.length_append, arbP_length, bitsOf_length, List.length_singleton]
  constructor
  · split <;> split <;> simp <;> omega
  · split <;> split <;> simp <;> omega
def allP (f : Fr) : List Bool := bitsP f ++ bitsOf 15 (c15L (bitsP f)) ++ List.replicate 10 true
theorem fall_err (f : Fr) (h : checkP f ≠ 0) : call E (.func (.func 58) [] []) [.agg (encFr f)] [] = some (.tup [nilS, .lit (.int .i64 (checkP f))], []) := by
  rw [call_func E E58]
  have hA := fbits_err f h
  generalize checkP f = c at *
  simp [encFr, u8v, nilS] at hA
  simp [go_sem, ir58, encFr, u8v, hA, h, nilS, purse_eq, List.range_succ]
theorem fall_spec (f : Fr) (hf : f.Ok) (h : checkP f = 0) : call E (.func (.func 58) [] []) [.agg (encFr f)] [] = some (.tup [.own 0 (allP f).length 1 0 (allP f).length, .lit (.int .i64 0)], [.arr true false false 1 ((allP f).map encLv)]) := by
  rw [call_func E E58]
  have hB := fbits_spec f hf h
  obtain ⟨hl1, hl2⟩ := bitsP_length f
  have hS := csum_spec (bitsP f) (by omega) false false
  have hBt := cbits_spec (c15L (bitsP f)) (c15L_lt _)
  have hO := ones10
  have hbl := bitsOf_length 15 (c15L (bitsP f))
  have hne : bitsP f ≠ [] := by intro q; rw [q] at hl2; simp at hl2
  have hne2 : bitsOf 15 (c15L (bitsP f)) ≠ [] := by intro q; rw [q] at hbl; simp at hbl
  have hC := concatL3 (bitsP f) (bitsOf 15 (c15L (bitsP f))) (List.replicate 10 true) hne hne2 (by simp) (by simp; omega) true false false false false false false
  unfold allP
  generalize bitsOf 15 (c15L (bitsP f)) = S at *
  generalize c15L (bitsP f) = s at *
  generalize bitsP f = B at *
  have c15 : cutE (S.map encLv) 0 15 = S.map encLv := cutE_whole (by simp [hbl])
  have hr := List.map_replicate (f := encLv) (n := 10) (a := true)
  rw [hr] at hC
  rw [show encLv true = [.lit (.int .i64 1)] from rfl] at hC
  generalize hRR : List.replicate 10 [AVal.lit (.int .i64 1)] = RR at *
  have hRl : RR.length = 10 := by rw [← hRR]; simp
  have c10 : cutE RR 0 10 = RR := cutE_whole hRl
  simp [encFr, u8v, nilS] at hB
  simp [hbl, hRR] at hC
  simp [go_sem, ir58, encFr, u8v, hB, hS, hBt, hO, hC, hbl, c15, c10, hRl, nilS, purse_eq, List.range_succ]
/-! ### Levels that are added -/
def tellR (out : List Bool) (run : Nat) (b : Bool) : Nat := if out.getLast? = some b then run + 1 else 1
def addS (out : List Bool) (run : Nat) : List Bool → List Bool
  | [] => out
  | x :: l => if tellR out run x = 5 then addS (out ++ [x, !x]) 1 l else addS (out ++ [x]) (tellR out run x) l
theorem tell_spec (out : List Bool) (ho : out.length ≤ 1000000) (run : Nat) (hr : run ≤ 1000000) (b : Bool) :
    call E (.func (.func 98) [] [.ptr 0 0, .ptr 2 0]) [.lit (.int .i64 (lv b))] [.box [.own 1 out.length 1 0 out.length], .arr true false false 1 (out.map encLv), .box [.lit (.int .i64 run)]]
      = some (.lit (.bool (decide (tellR out run b = 5))), [.box [.own 1 (out ++ [b]).length 1 0 (out ++ [b]).length], .arr true false false 1 ((out ++ [b]).map encLv), .box [.lit (.int .i64 (tellR out run b))]]) := by
  rw [call_func E E98]
  have w1 : IntKind.wrap .i64 ((run : Int) + 1) = run + 1 := wrap64 (by omega) (by omega)
  have hsz : ¬ (70368744177664 < (out.length + 1) * 8) := by omega
  have hrl := rowsLv out
  have hr1 : ∀ x, rowsOk 1 [[AVal.lit (.int .i64 x)]] = true := fun _ => rfl
  rcases List.eq_nil_or_concat out with rfl | ⟨o, c, rfl⟩
  · simp [go_sem, ir98, tellR, hr1, encLv, nilS, purse_eq, List.range_succ]
  · rw [List.concat_eq_append] at *
    have hg : (o ++ [c]).getLast? = some c := by simp
    have w2 : IntKind.wrap .i64 (((o ++ [c]).length : Int) - 1) = (o.length : Int) := by rw [wrap64 (by omega) (by omega)]; simp
    have hgi : ((o ++ [c]).map encLv)[o.length]? = some (encLv c) := by simp
    have hgl : o.length < (o ++ [c]).length := by simp
    have hpos : (0 : Int) < ((o ++ [c]).length : Int) := by simp
    have hpos' : 0 < (o ++ [c]).length := by simp
    have hml : ((o ++ [c]).map encLv).length = (o ++ [c]).length := by simp
    have hge : ∀ h : o.length < ((o ++ [c]).map encLv).length, ((o ++ [c]).map encLv)[o.length]'h = encLv c := fun h => Option.some.inj ((List.getElem?_eq_getElem h).symm.trans hgi)
    unfold tellR
    rw [hg]
    have hmb : (o ++ [c] ++ [b]).map encLv = (o ++ [c]).map encLv ++ [encLv b] := by simp
    have hlb : (o ++ [c] ++ [b]).length = (o ++ [c]).length + 1 := by simp
    rw [hmb, hlb]
    generalize hB : (o ++ [c]).map encLv = B at *
    generalize hN : (o ++ [c]).length = N at *
    by_cases hcb : c = b
    · subst hcb
      have hlv : encLv c = [.lit (.int .i64 (lv c))] := rfl
      by_cases h5 : run + 1 = 5
      · have h5i : (run : Int) + 1 = 5 := by omega
        simp [go_sem, ir98, hr1, hlv, w1, w2, hgi, hgl, hml, hpos, hpos', hge, h5, h5i, show IntKind.wrap .i64 5 = 5 from rfl, hrl, hsz, nilS, purse_eq, List.range_succ]
      · have h5i : ¬ (run : Int) + 1 = 5 := by omega
        simp [go_sem, ir98, hr1, hlv, w1, w2, hgi, hgl, hml, hpos, hpos', hge, h5, h5i, hrl, hsz, nilS, purse_eq, List.range_succ]
    · have hlv : encLv c = [.lit (.int .i64 (lv c))] := rfl
      have hlv2 : encLv b = [.lit (.int .i64 (lv b))] := rfl
      have hne : ¬ lv c = lv b := by cases c <;> cases b <;> simp_all [lv]
      simp [go_sem, ir98, hr1, hlv, hlv2, w1, w2, hgi, hgl, hml, hpos, hpos', hge, hcb, hne, hrl, hsz, nilS, purse_eq, List.range_succ]
theorem other_spec (b : Bool) : call E (.func (.func 99) [] []) [.lit (.int .i64 (lv b))] [] = some (.lit (.int .i64 (lv (!b))), []) := by
  rw [call_func E E99]
  cases b <;> simp [go_sem, ir99, lv] <;> rfl
theorem tellR_le (out : List Bool) (run : Nat) (b : Bool) : tellR out run b ≤ run + 1 := by unfold tellR; split <;> omega
theorem tellR_other (out : List Bool) (run : Nat) (b : Bool) : tellR (out ++ [b]) run (!b) = 1 := by
  unfold tellR; rw [if_neg (by simp)]
theorem add_loop5 (m : List Bool) (hl : m.length ≤ 100000) (nl fu : Bool) (k : List Item) (R : List Bool → Option (AVal × Heap))
    (hk : ∀ τ (out : List Bool) (rn : Nat), lk 3 τ = .ptr 1 0 → finK 0 [.tmp 2] (run E 0 k τ [.arr true false false 1 (out.map encLv), .box [.own 0 out.length 1 0 out.length], .box [.lit (.int .i64 rn)]]) = R out) :
    ∀ (d i : Nat) (out : List Bool) (rn : Nat), i + d = m.length → out.length ≤ 2 * i → rn ≤ 4 →
   finK 0 [.tmp 2] (run E 0 (.code L59_0 :: .inLoop [3, 5, 19, 20, 21] L59_0 :: .inBlock 0 :: k) [(3, .ptr 1 0), (5, .func (.func 98) [] [.ptr 1 0, .ptr 2 0]), (19, .imm nl fu true (m.map encLv)), (20, .lit (.int .i64 m.length)), (21, .lit (.int .i64 i))] [.arr true false false 1 (out.map encLv), .box [.own 0 out.length 1 0 out.length], .box [.lit (.int .i64 rn)]]) = R (addS out rn (m.drop i)) := by
  intro d
  induction d with
  | zero =>
    intro i out rn hi ho hrn
    have : i = m.length := by omega
    subst this
    rw [List.drop_length, addS]
    simp [go_sem, run_codeL E L59_0.eq_1]
    exact hk _ out rn rfl
  | succ d ih =>
    intro i out rn hi ho hrn
    have hlt : i < m.length := by omega
    have w := wrapIdx (i := i) (by omega)
    have hT := tell_spec out (by omega) rn (by omega) m[i]
    have hle := tellR_le out rn m[i]
    rw [List.drop_eq_getElem_cons hlt, addS]
    by_cases h5 : tellR out rn m[i] = 5
    · rw [if_pos h5]
      have hO := other_spec m[i]
      have hT2 := tell_spec (out ++ [m[i]]) (by simp; omega) 5 (by omega) (!m[i])
      rw [tellR_other, List.append_assoc, show [m[i]] ++ [!m[i]] = [m[i], !m[i]] from rfl] at hT2
      have ih2 := ih (i + 1) (out ++ [m[i], !m[i]]) 1 (by omega) (by simp; omega) (by omega)
      generalize R _ = Q at ih2 ⊢
      generalize out ++ [m[i], !m[i]] = out2 at *
      rw [h5] at hT
      generalize out ++ [m[i]] = out1 at *
      simp at ih2 w hT hT2
      simp [go_sem, run_codeL E L59_0.eq_1, hlt, List.getElem?_eq_getElem hlt, encLv, w, hT, hO, hT2, purse_eq, List.range_succ]
      rw [run_inLoop']
      simp [go_sem, purse_eq, List.range_succ]
      exact ih2
    · rw [if_neg h5]
      have ih2 := ih (i + 1) (out ++ [m[i]]) (tellR out rn m[i]) (by omega) (by simp; omega) (by omega)
      generalize R _ = Q at ih2 ⊢
      generalize out ++ [m[i]] = out1 at *
      generalize tellR out rn m[i] = r1 at *
      have hlg : (m.map encLv)[i]? = some (encLv m[i]) := by rw [List.getElem?_map, List.getElem?_eq_getElem hlt]; rfl
      simp [h5] at ih2 w hT
      simp [go_sem, run_codeL E L59_0.eq_1, hlt, List.getElem?_eq_getElem hlt, encLv, w, hT, purse_eq, List.range_succ]
      rw [run_inLoop']
      simp [go_sem, purse_eq, List.range_succ]
      exact ih2
def stuffP (m : List Bool) : List Bool := addS [] 0 m
theorem addS_len : ∀ (m out : List Bool) (rn : Nat), (addS out rn m).length ≤ out.length + 2 * m.length
  | [], out, rn => by simp [addS]
  | x :: m, out, rn => by
    rw [addS]
    split
    · have := addS_len m (out ++ [x, !x]) 1
      simp at this ⊢; omega
    · have := addS_len m (out ++ [x]) (tellR out rn x)
      simp at this ⊢; omega
theorem add_spec5 (m : List Bool) (hl : m.length ≤ 100000) (nl fu : Bool) : call E (.func (.func 59) [] []) [.imm nl fu true (m.map encLv)] [] = some (.own 0 (stuffP m).length 1 0 (stuffP m).length, [.arr true false false 1 ((stuffP m).map encLv)]) := by
  rw [call_func E E59]
  have hc := check_lv m (by omega) nl fu
  have wq : IntKind.wrap .i64 ((m.length : Int).tdiv 4) = ((m.length / 4 : Nat) : Int) := by rw [Int.tdiv_eq_ediv_of_nonneg (by omega), wrap64 (by omega) (by omega)]; omega
  have wq' : IntKind.wrap .i64 ((m.length : Int) / 4) = ((m.length / 4 : Nat) : Int) := by rw [wrap64 (by omega) (by omega)]; omega
  have ws : IntKind.wrap .i64 ((m.length : Int) + ((m.length / 4 : Nat) : Int)) = ((m.length + m.length / 4 : Nat) : Int) := by rw [wrap64 (by omega) (by omega)]; omega
  have hb1 : ((m.length + m.length / 4 : Nat) : Int) ≤ 70368744177664 := by omega
  have hb2 : ((m.length + m.length / 4 : Nat) : Int) * 8 ≤ 70368744177664 := by omega
  have hloop := fun k hk => add_loop5 m hl nl fu k (fun out => some (.own 0 out.length 1 0 out.length, [.arr true false false 1 (out.map encLv)])) hk m.length 0 [] 0 (by omega) (by simp) (by omega)
  rw [List.drop_zero, show addS [] 0 m = stuffP m from rfl] at hloop
  generalize stuffP m = S at *
  generalize m.length + m.length / 4 = q at *
  generalize m.length / 4 = q4 at *
  simp at hloop
  simp [go_sem, ir59, hc, wq, wq', ws, hb1, hb2, nilS, purse_eq, List.range_succ]
  rw [run_inLoop']
  simp [go_sem, purse_eq, List.range_succ]
  refine hloop _ ?_
  intro τ out rn t3
  simp [go_sem, t3, purse_eq, List.range_succ]
/-! ### A frame on the bus -/
def rowP (f : Fr) : List Bool := stuffP (bitsP f ++ bitsOf 15 (c15L (bitsP f))) ++ List.replicate 10 true
def encodeP (f : Fr) (ack : Bool) : List Bool := if ack = true then (rowP f).set ((rowP f).length - 9) false else rowP f
theorem encode_err (f : Fr) (h : checkP f ≠ 0) (ack : Bool) : call E (.func (.func 13) [] []) [.agg (encFr f), .lit (.bool ack)] [] = some (.tup [nilS, .lit (.int .i64 (checkP f))], []) := by
  rw [call_func E E13]
  have hA := fall_err f h
  generalize checkP f = c at *
  simp [encFr, u8v, nilS] at hA
  simp [go_sem, ir13, encFr, u8v, hA, h, nilS, purse_eq, List.range_succ]
theorem encode_spec (f : Fr) (hf : f.Ok) (h : checkP f = 0) (ack : Bool) : call E (.func (.func 13) [] []) [.agg (encFr f), .lit (.bool ack)] [] = some (.tup [.own 0 (encodeP f ack).length 1 0 (encodeP f ack).length, .lit (.int .i64 0)], [.arr true false false 1 ((encodeP f ack).map encLv)]) := by
  rw [call_func E E13]
  have hA := fall_spec f hf h
  obtain ⟨hl1, hl2⟩ := bitsP_length f
  have hbl := bitsOf_length 15 (c15L (bitsP f))
  have hlen : (allP f).length = (bitsP f ++ bitsOf 15 (c15L (bitsP f))).length + 10 := by unfold allP; simp; omega
  have hlen2 : (bitsP f ++ bitsOf 15 (c15L (bitsP f))).length ≤ 118 := by simp; omega
  have htk : List.take (bitsP f ++ bitsOf 15 (c15L (bitsP f))).length ((allP f).map encLv) = (bitsP f ++ bitsOf 15 (c15L (bitsP f))).map encLv := by
    unfold allP; rw [List.map_append, ← List.length_map (f := encLv), List.take_left]
  have hdk : List.drop (bitsP f ++ bitsOf 15 (c15L (bitsP f))).length ((allP f).map encLv) = (List.replicate 10 true).map encLv := by
    unfold allP; rw [List.map_append, ← List.length_map (f := encLv), List.drop_left]
  have hAd := add_spec5 (bitsP f ++ bitsOf 15 (c15L (bitsP f))) (by omega) false false
  have hsl := addS_len (bitsP f ++ bitsOf 15 (c15L (bitsP f))) [] 0
  rw [show addS [] 0 (bitsP f ++ bitsOf 15 (c15L (bitsP f))) = stuffP (bitsP f ++ bitsOf 15 (c15L (bitsP f))) from rfl] at hsl
  have hrow : rowP f = stuffP (bitsP f ++ bitsOf 15 (c15L (bitsP f))) ++ List.replicate 10 true := rfl
  unfold encodeP
  rw [hrow]
  generalize stuffP (bitsP f ++ bitsOf 15 (c15L (bitsP f))) = S at *
  generalize bitsP f ++ bitsOf 15 (c15L (bitsP f)) = B at *
  generalize allP f = A at *
  have hct : cutE (A.map encLv) 0 B.length = B.map encLv := by unfold cutE; simp only [Nat.zero_add, List.drop_zero]; exact htk
  have hcd : cutE (A.map encLv) B.length (A.length - B.length) = (List.replicate 10 true).map encLv := by unfold cutE; rw [Nat.add_sub_cancel' (by omega), List.take_of_length_le (by simp)]; exact hdk
  rw [List.map_replicate, show encLv true = [.lit (.int .i64 1)] from rfl] at hcd
  have w1 : IntKind.wrap .i64 ((A.length : Int) - 10) = (B.length : Int) := by rw [wrap64 (by omega) (by omega)]; omega
  have hle : B.length ≤ A.length := by omega
  have hsub : A.length - B.length = 10 := by omega
  have hrS := rowsLv S
  have hr10 : rowsOk 1 (List.replicate 10 [AVal.lit (.int .i64 1)]) = true := rfl
  have hsz : ¬ (70368744177664 < (S.length + 10) * 8) := by simp at hsl; omega
  have hmap : (S ++ List.replicate 10 true).map encLv = S.map encLv ++ List.replicate 10 [.lit (.int .i64 1)] := by rw [List.map_append, List.map_replicate]; rfl
  have hSl : S.length ≤ 300 := by simp at hsl; omega
  clear htk hdk hsl hrow
  rw [hsub] at hcd
  simp [encFr, u8v, nilS] at hA
  cases ack
  · simp only [Bool.false_eq_true, if_false]
    rw [hmap]
    generalize hRR : List.replicate 10 [AVal.lit (.int .i64 1)] = RR at *
    have hRl : RR.length = 10 := by rw [← hRR]; simp
    have hRn : RR ≠ [] := by intro q; rw [q] at hRl; simp at hRl
    simp [go_sem, ir13, encFr, u8v, hA, w1, hle, hct, hcd, hAd, hsub, hrS, hr10, hsz, hRl, hRn, nilS, purse_eq, List.range_succ]
  · simp only [if_true]
    have hle9 : (S ++ List.replicate 10 true).length - 9 = S.length + 1 := by simp
    have hm2 : ((S ++ List.replicate 10 true).set ((S ++ List.replicate 10 true).length - 9) false).map encLv = (S.map encLv ++ List.replicate 10 [AVal.lit (.int .i64 1)]).set (S.length + 1) [AVal.lit (.int .i64 0)] := by
      rw [List.map_set, hmap, hle9]; rfl
    rw [hm2, List.length_set]
    have hg1 : (S.map encLv ++ List.replicate 10 [AVal.lit (.int .i64 1)])[S.length + 1]? = some [.lit (.int .i64 1)] := by
      rw [List.getElem?_append_right (by simp)]; simp
    have hw9 : IntKind.wrap .i64 ((S.length : Int) + 10 - 10) = S.length := by rw [wrap64 (by omega) (by omega)]; omega
    have hw8 : IntKind.wrap .i64 ((S.length : Int) + 1) = ((S.length + 1 : Nat) : Int) := by rw [wrap64 (by omega) (by omega)]; omega
    have hw7 : IntKind.wrap .i64 (S.length : Int) = S.length := wrap64 (by omega) (by omega)
    generalize hRR : List.replicate 10 [AVal.lit (.int .i64 1)] = RR at *
    have hRl : RR.length = 10 := by rw [← hRR]; simp
    have hRn : RR ≠ [] := by intro q; rw [q] at hRl; simp at hRl
    have hEl : (S.map encLv ++ RR).length = S.length + 10 := by simp [hRl]
    have hlt1 : S.length + 1 < S.length + 10 := by omega
    have hge : ∀ q : S.length + 1 < (S.map encLv ++ RR).length, (S.map encLv ++ RR)[S.length + 1]'q = [.lit (.int .i64 1)] := fun q => Option.some.inj ((List.getElem?_eq_getElem q).symm.trans hg1)
    have h01 : (0 : Int) ≤ (S.length : Int) + 1 := by omega
    generalize hEE : S.map encLv ++ RR = EE at *
    simp [go_sem, ir13, encFr, u8v, hA, w1, hle, hct, hcd, hAd, hsub, hrS, hr10, hsz, hRl, hRn, hw9, hw8, hw7, hg1, hEl, hEE, h01, hlt1, hge, nilS, purse_eq, List.range_succ]
end Go.AM.R1
open Go Go.AM
namespace Go.AM.R1
/-! ### What the law's helpers tell -/
def lvV (ix n : Nat) : AVal := if n = 0 then nilS else .own ix n 1 0 n
def lvH (m : List Bool) : Heap := if m = [] then [] else [.arr true false false 1 (m.map encLv)]
theorem ones_loop (n : Nat) (hn : n ≤ 100) (k : List Item) (R : Option (AVal × Heap))
    (hk : ∀ τ, lk 3 τ = lvV 0 n → finK 0 [.tmp 2] (run E 0 k τ (lvH (List.replicate n true))) = R) :
    ∀ (d i : Nat), i + d = n →
    finK 0 [.tmp 2] (run E 0 (.code L45_0 :: .inLoop [1000000, 0, 3, 4] L45_0 :: .inBlock 0 :: k) [(0, .lit (.int .i64 n)), (3, lvV 0 i), (4, .lit (.int .i64 i))] (lvH (List.replicate i true))) = R := by
  intro d
  induction d with
  | zero =>
    intro i hi
    have : i = n := by omega
    subst this
    simp [go_sem, run_codeL E L45_0.eq_1]
    exact hk _ rfl
  | succ d ih =>
    intro i hi
    have h1 : (i : Int) < n := by omega
    have h1' : i < n := by omega
    have h2 : (i : Int) < 100 := by omega
    have w := wrapIdx (i := i) (by omega)
    have hr1 : rowsOk 1 [[AVal.lit (.int .i64 1)]] = true := rfl
    have hrr := rowsLv (List.replicate i true)
    have hsz : ¬ (70368744177664 < (i + 1) * 8) := by omega
    have ih2 := ih (i + 1) (by omega)
    have hmr : (List.replicate (i + 1) true).map encLv = (List.replicate i true).map encLv ++ [[.lit (.int .i64 1)]] := by rw [List.replicate_succ', List.map_append]; rfl
    by_cases h0 : i = 0
    · subst h0
      simp [lvV, lvH, nilS, encLv, lv] at ih2 w
      simp [go_sem, run_codeL E L45_0.eq_1, h1, h1', lvV, lvH, nilS, hr1, w, purse_eq, List.range_succ]
      rw [run_inLoop']
      simp [go_sem, purse_eq, List.range_succ]
      exact ih2
    · have hne : ¬ List.replicate i true = [] := by simp [h0]
      have hne2 : ¬ List.replicate (i + 1) true = [] := by simp
      simp only [lvV, lvH, hne, hne2, h0, hmr, if_false] at ih2 ⊢
      have hml : ((List.replicate i true).map encLv).length = i := by simp
      generalize (List.replicate i true).map encLv = B at *
      simp at ih2 w
      simp [go_sem, run_codeL E L45_0.eq_1, h1, h1', h2, hml, nilS, hr1, hrr, hsz, w, purse_eq, List.range_succ]
      rw [run_inLoop']
      simp [go_sem, purse_eq, List.range_succ]
      exact ih2
theorem ones_spec (n : Nat) (hn : n ≤ 100) : call E (.func (.func 45) [] []) [.lit (.int .i64 n)] [] = some (lvV 0 n, lvH (List.replicate n true)) := by
  rw [call_func E E45]
  have h := fun k hk => ones_loop n hn k (some (lvV 0 n, lvH (List.replicate n true))) hk n 0 (by omega)
  simp only [lvV, lvH, List.replicate_zero, nilS, if_true, Int.natCast_zero] at h
  simp [go_sem, ir45, nilS, purse_eq, List.range_succ]
  rw [run_inLoop']
  simp [go_sem, purse_eq, List.range_succ]
  simp only [lvV, lvH, nilS]
  refine h _ ?_
  intro τ t3
  by_cases h0 : n = 0 <;> simp [go_sem, t3, h0, nilS, purse_eq, List.range_succ]
set_option maxRecDepth 100000 in
theorem sg_first : sgAll (List.replicate 11 true ++ encodeP Fr.zero true) = [⟨1, 11, 60, Fr.zero, true⟩] := by decide +kernel
theorem encode_zero_len : (encodeP Fr.zero true).length = 50 := by decide +kernel
theorem zero_ok : Fr.zero.Ok := ⟨by simp [Fr.zero], by simp [Fr.zero], by simp [Fr.zero], by simp [Fr.zero], by simp [Fr.zero, Fr.bytes]⟩
theorem awake19 : call E (.func (.func 44) [] []) [] [] = some (.lit (.bool true), []) := by
  rw [call_func E E44]
  have hE := encode_spec Fr.zero zero_ok (by decide +kernel) true
  have hO := ones_spec 11 (by omega)
  have hA := wall_spec (List.replicate 11 true ++ encodeP Fr.zero true) (by rw [List.length_append, encode_zero_len]; simp) false false
  rw [sg_first] at hA
  rw [encode_zero_len] at hE
  have hrl := rowsLv (encodeP Fr.zero true)
  have hml : ((encodeP Fr.zero true).map encLv).length = 50 := by rw [List.length_map, encode_zero_len]
  rw [List.map_append] at hA
  generalize (encodeP Fr.zero true).map encLv = B at *
  have hB : B ≠ [] := by intro q; rw [q] at hml; simp at hml
  simp only [lvV, lvH] at hO
  generalize hR : (List.replicate 11 true).map encLv = RR at *
  have hRl : RR.length = 11 := by rw [← hR]; simp
  simp [encFr, Fr.zero, u8v] at hE
  simp at hO
  simp [outV, outH, encSg, Fr.zero, u8v] at hA
  have hcB : cutE B 0 50 = B := cutE_whole hml
  simp [go_sem, ir44, hE, hO, hA, hrl, hRl, hml, hB, hcB, nilS, purse_eq, List.range_succ]
/-- Levels, as a list of them. -/
theorem levels_map : ∀ (l : List Int), (l.all fun x => decide (x = 0 ∨ x = 1)) = true → ∃ m : List Bool, l = m.map lv
  | [], _ => ⟨[], rfl⟩
  | x :: l, h => by
    rw [List.all_cons, Bool.and_eq_true, decide_eq_true_eq] at h
    obtain ⟨m, hm⟩ := levels_map l h.2
    rcases h.1 with e | e
    · exact ⟨false :: m, by rw [e, hm]; rfl⟩
    · exact ⟨true :: m, by rw [e, hm]; rfl⟩
theorem levels_not : ∀ (l : List Int), (l.all fun x => decide (x = 0 ∨ x = 1)) = false → ∃ (m : List Bool) (x : Int) (r : List Int), l = m.map lv ++ x :: r ∧ x ≠ 0 ∧ x ≠ 1
  | [], h => by simp at h
  | x :: l, h => by
    by_cases hx : x = 0 ∨ x = 1
    · rw [List.all_cons, decide_eq_true hx, Bool.true_and] at h
      obtain ⟨m, y, r, e, h1, h2⟩ := levels_not l h
      rcases hx with q | q
      · exact ⟨false :: m, y, r, by rw [q, e]; rfl, h1, h2⟩
      · exact ⟨true :: m, y, r, by rw [q, e]; rfl, h1, h2⟩
    · exact ⟨[], x, l, rfl, fun q => hx (.inl q), fun q => hx (.inr q)⟩
theorem lv_encI (m : List Bool) : (m.map lv).map encI = m.map encLv := by rw [List.map_map]; rfl
/-- Are two sights one? -/
def sgLs : List (Nat × LeafK) := [(0, .i), (1, .i), (2, .i), (3, .i), (4, .b), (5, .b), (6, .i), (7, .i), (8, .i), (9, .i), (10, .i), (11, .i), (12, .i), (13, .i), (14, .i), (15, .b)]
theorem sgEq (s t : Sg) : aleaves (encSg s) (encSg t) sgLs = some (decide (s = t)) := by
  obtain ⟨k, f, o, ⟨i, e, r, l, d0, d1, d2, d3, d4, d5, d6, d7⟩, a⟩ := s
  obtain ⟨k', f', o', ⟨i', e', r', l', d0', d1', d2', d3', d4', d5', d6', d7'⟩, a'⟩ := t
  have hb : ∀ x y : Bool, (x == y) = decide (x = y) := by decide
  have hn : ∀ x y : Nat, decide ((x : Int) = (y : Int)) = decide (x = y) := fun x y => by rw [decide_eq_decide]; omega
  simp [sgLs, encSg, u8v, aleaves, aleaf, hb, hn, Sg.mk.injEq, Fr.mk.injEq, Bool.decide_and, Bool.and_assoc]
theorem eqSgN (H : Heap) (s t : Sg) : eqK true [(0, .i), (1, .i), (2, .i), (3, .i), (4, .b), (5, .b), (6, .i), (7, .i), (8, .i), (9, .i), (10, .i), (11, .i), (12, .i), (13, .i), (14, .i), (15, .b)] H (.agg (encSg s)) (.agg (encSg t)) = some (.lit (.bool (!decide (s = t))), H) := by
  have h := sgEq s t
  unfold sgLs at h
  simp only [eqK, h, Option.map_some, pairK, vbool, if_true, if_false, Bool.false_eq_true]
theorem eqSgP (H : Heap) (s t : Sg) : eqK false [(0, .i), (1, .i), (2, .i), (3, .i), (4, .b), (5, .b), (6, .i), (7, .i), (8, .i), (9, .i), (10, .i), (11, .i), (12, .i), (13, .i), (14, .i), (15, .b)] H (.agg (encSg s)) (.agg (encSg t)) = some (.lit (.bool (decide (s = t))), H) := by
  have h := sgEq s t
  unfold sgLs at h
  simp only [eqK, h, Option.map_some, pairK, vbool, if_true, if_false, Bool.false_eq_true]
theorem sights_loop (l m : List Sg) (hll : l.length = m.length) (hl : l.length ≤ 1000000) (n1 f1 n2 f2 : Bool) (k : List Item) (R : Bool → Option (AVal × Heap))
    (hk : ∀ τ, finK 0 [.tmp 4] (run E 0 k τ []) = R true) (hR : R false = some (.lit (.bool false), [])) :
    ∀ (d i : Nat), i + d = l.length →
    finK 0 [.tmp 4] (run E 0 (.code L47_0 :: .inLoop [1000000, 0, 1, 5] L47_0 :: .inBlock 0 :: k) [(0, .imm n1 f1 true (l.map encSg)), (1, .imm n2 f2 true (m.map encSg)), (5, .lit (.int .i64 i))] []) = R (decide (l.drop i = m.drop i)) := by
  intro d
  induction d with
  | zero =>
    intro i hi
    have : i = l.length := by omega
    subst this
    have e : decide (l.drop l.length = m.drop l.length) = true := by rw [decide_eq_true_eq, List.drop_length, hll, List.drop_length]
    rw [e]
    simp [go_sem, run_codeL E L47_0.eq_1]
    exact hk _
  | succ d ih =>
    intro i hi
    have hlt : i < l.length := by omega
    have hlt2 : i < m.length := by omega
    have w := wrapIdx (i := i) (by omega)
    have hE := sgEq l[i] m[i]
    unfold sgLs at hE
    rw [List.drop_eq_getElem_cons hlt, List.drop_eq_getElem_cons hlt2]
    have hq1 : ∀ s : Sg, (encSg s).length = 16 := fun _ => rfl
    have hq2 : ∀ s : Sg, (encSg s).take 16 = encSg s := fun _ => rfl
    by_cases h : l[i] = m[i]
    · have e : decide (l[i] :: l.drop (i + 1) = m[i] :: m.drop (i + 1)) = decide (l.drop (i + 1) = m.drop (i + 1)) := decide_eq_decide.2 ⟨fun q => (List.cons.inj q).2, fun q => by rw [h, q]⟩
      rw [e]
      rw [decide_eq_true h] at hE
      have ih2 := ih (i + 1) (by omega)
      generalize R (decide (l.drop (i + 1) = m.drop (i + 1))) = Q at ih2 ⊢
      simp at ih2 w
      simp [go_sem, run_codeL E L47_0.eq_1, hlt, hlt2, List.getElem?_eq_getElem hlt, List.getElem?_eq_getElem hlt2, hq1, hq2, eqSgN, h, w, purse_eq]
      rw [run_inLoop']
      simp [go_sem, purse_eq]
      exact ih2
    · rw [show decide (l[i] :: l.drop (i + 1) = m[i] :: m.drop (i + 1)) = false from decide_eq_false (fun q => h (List.cons.inj q).1), hR]
      simp [go_sem, run_codeL E L47_0.eq_1, hlt, hlt2, List.getElem?_eq_getElem hlt, List.getElem?_eq_getElem hlt2, hq1, hq2, eqSgN, h, w, purse_eq]
theorem sights_spec (l m : List Sg) (hl : l.length ≤ 1000000) (n1 f1 n2 f2 : Bool) : call E (.func (.func 47) [] []) [.imm n1 f1 true (l.map encSg), .imm n2 f2 true (m.map encSg)] [] = some (.lit (.bool (decide (l = m))), []) := by
  rw [call_func E E47]
  by_cases hll : l.length = m.length
  · have h := fun k hk => sights_loop l m hll hl n1 f1 n2 f2 k (fun b => some (.lit (.bool b), [])) hk rfl l.length 0 (by omega)
    simp only [List.drop_zero, Int.natCast_zero] at h
    generalize decide (l = m) = D at *
    simp [go_sem, ir47, hll, purse_eq]
    rw [run_inLoop']
    simp [go_sem, purse_eq]
    refine h _ ?_
    intro τ
    simp [go_sem]
  · have hne : ¬ l = m := fun q => hll (by rw [q])
    have hli : ¬ (l.length : Int) = (m.length : Int) := by omega
    simp [go_sem, ir47, hll, hli, hne, purse_eq]
end Go.AM.R1
open Go Go.AM
namespace Go.AM.R1
/-! ### A frame's levels, read again -/
theorem valGo_bits : ∀ (w a n : Nat), valGo a (bitsOf w n) = a * 2 ^ w + n % 2 ^ w
  | 0, a, n => by simp [bitsOf, valGo, Nat.mod_one]
  | w + 1, a, n => by
    rw [bitsOf, valGo, valGo_bits w]
    have hb : (decide (n / 2 ^ w % 2 = 1)).toNat = n / 2 ^ w % 2 := by
      by_cases q : n / 2 ^ w % 2 = 1
      · rw [decide_eq_true q, q]; rfl
      · rw [decide_eq_false q]
        have : n / 2 ^ w % 2 = 0 := by omega
        rw [this]; rfl
    have hm : n % 2 ^ (w + 1) = 2 ^ w * (n / 2 ^ w % 2) + n % 2 ^ w := by
      rw [Nat.pow_succ, Nat.mod_mul]; omega
    rw [hb, hm, Nat.pow_succ, Nat.add_mul, Nat.mul_comm 2 a, Nat.mul_assoc, Nat.mul_comm 2 (2 ^ w), Nat.mul_comm (n / 2 ^ w % 2)]
    omega
theorem valB_bits (w n : Nat) : valB (bitsOf w n) = n % 2 ^ w := by
  unfold valB; rw [valGo_bits]; omega
theorem bytesP_cons (c : Nat) (l : List Nat) : bytesP (c :: l) = bitsOf 8 c ++ bytesP l := rfl
theorem byte_at : ∀ (bs : List Nat) (j : Nat) (hj : j < bs.length) (r : List Bool), ((bytesP bs ++ r).take (8 * (j + 1))).drop (8 * j) = bitsOf 8 bs[j]
  | c :: bs, 0, _, r => by
    rw [bytesP_cons, List.append_assoc, show 8 * (0 + 1) = 8 from rfl, List.take_append_of_le_length (by rw [bitsOf_length]; omega), List.take_of_length_le (by rw [bitsOf_length]; omega)]
    rfl
  | c :: bs, j + 1, hj, r => by
    have h := byte_at bs j (by simpa using hj) r
    have e1 : 8 * (j + 1 + 1) = (bitsOf 8 c).length + 8 * (j + 1) := by rw [bitsOf_length]; omega
    have e2 : 8 * (j + 1) = (bitsOf 8 c).length + 8 * j := by rw [bitsOf_length]; omega
    rw [bytesP_cons, List.append_assoc, e1, List.take_length_add_append]
    conv => lhs; arg 1; rw [e2]
    rw [List.drop_length_add_append]
    exact h
/-- The levels of a right frame, what is behind them, as parts. -/
def headS (id n : Nat) (rtr : Bool) (X : List Bool) : List Bool := false :: (bitsOf 11 id ++ (rtr :: false :: (bitsOf 5 n ++ X)))
def headE (id n : Nat) (rtr : Bool) (X : List Bool) : List Bool := false :: (bitsOf 11 (id / 262144) ++ (true :: true :: (bitsOf 18 id ++ (rtr :: (bitsOf 6 n ++ X)))))
theorem headS_facts (id n : Nat) (rtr : Bool) (X : List Bool) : extF (headS id n rtr X) = false ∧ dataF (headS id n rtr X) = 19 ∧ rtrF (headS id n rtr X) = rtr ∧ sizeF (headS id n rtr X) = min (n % 16) 8 ∧ ((headS id n rtr X).take 12).drop 1 = bitsOf 11 id := by
  have h1 : extF (headS id n rtr X) = false := rfl
  have h2 : dataF (headS id n rtr X) = 19 := by unfold dataF; rw [h1]; rfl
  refine ⟨h1, h2, ?_, ?_, rfl⟩
  · unfold rtrF; rw [h1]; rfl
  · unfold sizeF; rw [h2]
    rw [show ((headS id n rtr X).take 19).drop (19 - 4) = bitsOf 4 n from rfl, valB_bits]
theorem headE_facts (id n : Nat) (rtr : Bool) (X : List Bool) : extF (headE id n rtr X) = true ∧ dataF (headE id n rtr X) = 39 ∧ rtrF (headE id n rtr X) = rtr ∧ sizeF (headE id n rtr X) = min (n % 16) 8 ∧ ((headE id n rtr X).take 12).drop 1 = bitsOf 11 (id / 262144) ∧ ((headE id n rtr X).take 32).drop 14 = bitsOf 18 id := by
  have h1 : extF (headE id n rtr X) = true := rfl
  have h2 : dataF (headE id n rtr X) = 39 := by unfold dataF; rw [h1]; rfl
  refine ⟨h1, h2, ?_, ?_, rfl, rfl⟩
  · unfold rtrF; rw [h1]; rfl
  · unfold sizeF; rw [h2]
    rw [show ((headE id n rtr X).take 39).drop (39 - 4) = bitsOf 4 n from rfl, valB_bits]
theorem headS_drop (id n : Nat) (rtr : Bool) (X : List Bool) : (headS id n rtr X).drop 19 = X := rfl
theorem headE_drop (id n : Nat) (rtr : Bool) (X : List Bool) : (headE id n rtr X).drop 39 = X := rfl
def dataP (f : Fr) : List Bool := if f.rtr = true then [] else bytesP (f.bytes.take f.len.toNat)
theorem bitsP_head (f : Fr) (r : List Bool) : bitsP f ++ r = if f.ext = true then headE f.id.toNat f.len.toNat f.rtr (dataP f ++ r) else headS f.id.toNat f.len.toNat f.rtr (dataP f ++ r) := by
  unfold bitsP arbP headE headS dataP
  cases f.ext <;> simp
theorem dataP_length (f : Fr) (h : checkP f = 0) : (dataP f).length = if f.rtr = true then 0 else 8 * f.len.toNat := by
  obtain ⟨-, -, -, c4, c5, -⟩ := checkP_ok h
  unfold dataP
  split
  · rfl
  · rw [bytesP_length, List.length_take]
    simp [Fr.bytes]; omega
theorem bitsP_facts (f : Fr) (h : checkP f = 0) (r : List Bool) : extF (bitsP f ++ r) = f.ext ∧ dataF (bitsP f ++ r) = (if f.ext = true then 39 else 19) ∧ rtrF (bitsP f ++ r) = f.rtr ∧ sizeF (bitsP f ++ r) = f.len.toNat ∧ sumF (bitsP f ++ r) = (bitsP f).length := by
  obtain ⟨c1, c2, c3, c4, c5, c6⟩ := checkP_ok h
  have hdl := dataP_length f h
  have hlen : (bitsP f).length = (if f.ext = true then 39 else 19) + (dataP f).length := by
    have := congrArg List.length (bitsP_head f [])
    rw [List.append_nil] at this
    rw [this]
    unfold headE headS
    cases f.ext <;> simp [bitsOf_length] <;> omega
  have hm : min (f.len.toNat % 16) 8 = f.len.toNat := by omega
  have hall : extF (bitsP f ++ r) = f.ext ∧ dataF (bitsP f ++ r) = (if f.ext = true then 39 else 19) ∧ rtrF (bitsP f ++ r) = f.rtr ∧ sizeF (bitsP f ++ r) = f.len.toNat := by
    rw [bitsP_head]
    cases hx : f.ext
    · obtain ⟨q1, q2, q3, q4, -⟩ := headS_facts f.id.toNat f.len.toNat f.rtr (dataP f ++ r)
      exact ⟨q1, q2, q3, q4.trans hm⟩
    · obtain ⟨q1, q2, q3, q4, -⟩ := headE_facts f.id.toNat f.len.toNat f.rtr (dataP f ++ r)
      exact ⟨q1, q2, q3, q4.trans hm⟩
  refine ⟨hall.1, hall.2.1, hall.2.2.1, hall.2.2.2, ?_⟩
  unfold sumF
  rw [hall.2.2.1, hall.2.1, hall.2.2.2, hlen, hdl]
  split <;> rename_i q <;> omega
end Go.AM.R1
open Go Go.AM
namespace Go.AM.R1
/-! ### The document's sum -/
def behP : List Bool → Bool → List Bool
  | [s0, s1, s2, s3, s4, s5, s6, s7, s8, s9, s10, s11, s12, s13, s14], b => [s1 ^^ (s0 ^^ b), s2, s3, s4, s5 ^^ (s0 ^^ b), s6, s7 ^^ (s0 ^^ b), s8 ^^ (s0 ^^ b), s9, s10, s11 ^^ (s0 ^^ b), s12 ^^ (s0 ^^ b), s13, s14, s0 ^^ b]
  | S, _ => S
theorem bits15 (n : Nat) : bitsOf 15 n = [n.testBit 14, n.testBit 13, n.testBit 12, n.testBit 11, n.testBit 10, n.testBit 9, n.testBit 8, n.testBit 7, n.testBit 6, n.testBit 5, n.testBit 4, n.testBit 3, n.testBit 2, n.testBit 1, n.testBit 0] := by
  simp only [bitsOf, Nat.testBit_eq_decide_div_mod_eq]
theorem bit14 {s : Nat} (h : s < 32768) : s.testBit 14 = decide (16384 ≤ s) := by
  rw [Nat.testBit_eq_decide_div_mod_eq, decide_eq_decide]
  show s / 16384 % 2 = 1 ↔ _
  omega
theorem c15Step_bit {s : Nat} (h : s < 32768) (b : Bool) (i : Nat) (hi : i < 15) : (c15Step s b).testBit i = ((decide (1 ≤ i) && s.testBit (i - 1)) ^^ ((s.testBit 14 ^^ b) && (17817 : Nat).testBit i)) := by
  unfold c15Step
  rw [← bit14 h]
  have h2 : (2 * s % 32768).testBit i = (decide (1 ≤ i) && s.testBit (i - 1)) := by
    rw [show 32768 = 2 ^ 15 from rfl, Nat.testBit_mod_two_pow, decide_eq_true hi, Bool.true_and, show 2 * s = 2 ^ 1 * s from rfl, Nat.testBit_two_pow_mul]
  cases hq : (s.testBit 14 != b)
  · rw [if_neg (by simp), h2]
    rw [show (s.testBit 14 ^^ b) = false from hq]; simp
  · rw [if_pos rfl, Nat.testBit_xor, h2]
    rw [show (s.testBit 14 ^^ b) = true from hq]; simp
theorem bitsOf_step {s : Nat} (h : s < 32768) (b : Bool) : bitsOf 15 (c15Step s b) = behP (bitsOf 15 s) b := by
  rw [bits15, bits15]
  have hb := c15Step_bit h b
  rw [hb 14 (by omega), hb 13 (by omega), hb 12 (by omega), hb 11 (by omega), hb 10 (by omega), hb 9 (by omega), hb 8 (by omega), hb 7 (by omega), hb 6 (by omega), hb 5 (by omega), hb 4 (by omega), hb 3 (by omega), hb 2 (by omega), hb 1 (by omega), hb 0 (by omega)]
  simp [behP, show Nat.testBit 17817 14 = true from rfl, show Nat.testBit 17817 13 = false from rfl, show Nat.testBit 17817 12 = false from rfl, show Nat.testBit 17817 11 = false from rfl, show Nat.testBit 17817 10 = true from rfl, show Nat.testBit 17817 9 = false from rfl, show Nat.testBit 17817 8 = true from rfl, show Nat.testBit 17817 7 = true from rfl, show Nat.testBit 17817 6 = false from rfl, show Nat.testBit 17817 5 = false from rfl, show Nat.testBit 17817 4 = true from rfl, show Nat.testBit 17817 3 = true from rfl, show Nat.testBit 17817 2 = false from rfl, show Nat.testBit 17817 1 = false from rfl, show Nat.testBit 17817 0 = true from rfl]
def sumP (S : List Bool) : List Bool → List Bool
  | [] => S
  | b :: m => sumP (behP S b) m
theorem sumP_bits : ∀ (m : List Bool) (s : Nat), s < 32768 → sumP (bitsOf 15 s) m = bitsOf 15 (c15Go s m)
  | [], _, _ => rfl
  | b :: m, s, h => by
    rw [sumP, ← bitsOf_step h b, sumP_bits m _ (c15Step_lt s b)]; rfl
theorem behP_length {S : List Bool} (h : S.length = 15) (b : Bool) : (behP S b).length = 15 := by
  match S, h with
  | [_, _, _, _, _, _, _, _, _, _, _, _, _, _, _], _ => rfl
/-! ### .. and its walk -/
theorem wlv (b : Bool) : IntKind.wrap .i64 (lv b) = lv b := by cases b <;> rfl
theorem wlv2 (a b : Bool) : IntKind.wrap .i64 (lv a + lv b) = lv a + lv b := by cases a <;> cases b <;> rfl
theorem tlv (b : Bool) : (lv b).tmod 2 = lv b := by cases b <;> rfl
theorem tlv2 (a b : Bool) : (lv a + lv b).tmod 2 = lv (a ^^ b) := by cases a <;> cases b <;> rfl
theorem wrap0 : IntKind.wrap .i64 0 = 0 := rfl
end Go.AM.R1
open Go Go.AM
namespace Go.AM.R1
/-! ### The document's fields -/
def encN (x : Nat) : List AVal := [.lit (.int .i64 (x : Int))]
theorem rowsN (l : List Nat) : rowsOk 1 (l.map encN) = true := rowsOk_map (f := encN) (fun _ => rfl) l
def widP (m : List Bool) : List Nat := if m.length < 14 then [1] else if m.length < dataF m then [1, ctrlF m - 1, dataF m - ctrlF m] else [1, ctrlF m - 1, dataF m - ctrlF m, sumF m - dataF m, 15, 1, 1, 1, 7]
/-! ### The field of the next level -/
def nextW : List Nat → Nat → Nat → (Nat × Nat) ⊕ Nat
  | [], _, n => .inr n
  | w :: r, k, n => if n < w then .inl (k, n) else nextW r (k + 1) (n - w)
theorem prN {a b c d : Nat} (h1 : a = c) (h2 : b = d) : (a, b) = (c, d) := by rw [h1, h2]
theorem nextW_fact (m : List Bool) (hl : dataF m ≤ m.length → m.length ≤ sumF m + 25) :
    match nextW (widP m) 0 m.length with
    | .inl q => q = nextF m
    | .inr n => if (widP m).length = 1 then nextF m = (1, n) else n = 0 ∧ nextF m = (9, 0) := by
  obtain ⟨s1, s2, hd⟩ := sumF_ge m
  have hdc : (dataF m = 19 ∧ ctrlF m = 14 ∧ extF m = false) ∨ (dataF m = 39 ∧ ctrlF m = 33 ∧ extF m = true) := by
    unfold dataF ctrlF; cases extF m <;> simp
  unfold widP
  by_cases h1 : m.length < 14
  · rw [if_pos h1]
    simp only [nextW]
    by_cases h0 : m.length = 0
    · rw [if_pos (by omega)]; unfold nextF; rw [if_pos h0, h0]
    · rw [if_neg (by omega)]; simp only [List.length_singleton, if_true]; unfold nextF; rw [if_neg h0, if_pos (by omega)]
  · rw [if_neg h1]
    have hne : ¬ m.length = 0 := by omega
    by_cases h2 : m.length < dataF m
    · rw [if_pos h2]
      simp only [nextW]
      rcases hdc with ⟨c1, c2, c3⟩ | ⟨c1, c2, c3⟩
      · rw [if_neg (by omega), if_neg (by omega), if_pos (by omega)]
        unfold nextF
        rw [if_neg hne, if_neg (by rw [c3]; simp; omega), if_pos h2]
        exact prN (by omega) (by omega)
      · rw [if_neg (by omega)]
        by_cases h3 : m.length ≤ 32
        · rw [if_pos (by omega)]
          unfold nextF
          rw [if_neg hne, if_pos (.inr ⟨c3, h3⟩)]
        · rw [if_neg (by omega), if_pos (by omega)]
          unfold nextF
          rw [if_neg hne, if_neg (by rw [c3]; simp; omega), if_pos h2]
          exact prN (by omega) (by omega)
    · rw [if_neg h2]
      have hl := hl (by omega)
      have hn : nextF m = if m.length < sumF m then (3, m.length - dataF m) else if m.length < sumF m + 15 then (4, m.length - sumF m) else if m.length < sumF m + 16 then (5, 0) else if m.length < sumF m + 17 then (6, 0) else if m.length < sumF m + 18 then (7, 0) else if m.length < sumF m + 25 then (8, m.length - (sumF m + 18)) else (9, 0) := by
        unfold nextF
        rw [if_neg hne, if_neg (by rcases hdc with ⟨c1, c2, c3⟩ | ⟨c1, c2, c3⟩ <;> rw [c3] <;> simp <;> omega), if_neg h2]
      rw [hn]
      simp only [nextW, List.length_cons, List.length_nil]
      rw [if_neg (by omega), if_neg (by omega), if_neg (by omega)]
      by_cases g1 : m.length < sumF m
      · rw [if_pos (by omega), if_pos g1]; exact prN (by omega) (by omega)
      · rw [if_neg (by omega), if_neg g1]
        by_cases g2 : m.length < sumF m + 15
        · rw [if_pos (by omega), if_pos g2]; exact prN (by omega) (by omega)
        · rw [if_neg (by omega), if_neg g2]
          by_cases g3 : m.length < sumF m + 16
          · rw [if_pos (by omega), if_pos g3]; exact prN (by omega) (by omega)
          · rw [if_neg (by omega), if_neg g3]
            by_cases g4 : m.length < sumF m + 17
            · rw [if_pos (by omega), if_pos g4]; exact prN (by omega) (by omega)
            · rw [if_neg (by omega), if_neg g4]
              by_cases g5 : m.length < sumF m + 18
              · rw [if_pos (by omega), if_pos g5]; exact prN (by omega) (by omega)
              · rw [if_neg (by omega), if_neg g5]
                by_cases g6 : m.length < sumF m + 25
                · rw [if_pos (by omega), if_pos g6]; exact prN (by omega) (by omega)
                · rw [if_neg (by omega), if_neg g6]
                  show if 0 + 1 + 1 + 1 + 1 + 1 + 1 + 1 + 1 + 1 = 1 then _ else _
                  rw [if_neg (by decide)]
                  exact ⟨by omega, rfl⟩
theorem widP_le (m : List Bool) : (∀ w ∈ widP m, w ≤ 1000000) ∧ (widP m).length ≤ 100 := by
  obtain ⟨s1, s2, hd⟩ := sumF_ge m
  have hc : ctrlF m ≤ 33 := by unfold ctrlF; split <;> omega
  unfold widP
  split
  · simp
  · split <;> simp <;> omega
end Go.AM.R1
open Go Go.AM
namespace Go.AM.R1
theorem valGo_inj : ∀ (l m : List Bool) (a b : Nat), l.length = m.length → valGo a l = valGo b m → a = b ∧ l = m
  | [], [], a, b, _, h => ⟨h, rfl⟩
  | [], _ :: _, _, _, h, _ => by simp at h
  | _ :: _, [], _, _, h, _ => by simp at h
  | x :: l, y :: m, a, b, hl, h => by
    rw [valGo, valGo] at h
    obtain ⟨h1, h2⟩ := valGo_inj l m _ _ (by simpa using hl) h
    have hx : x.toNat ≤ 1 := by cases x <;> decide
    have hy : y.toNat ≤ 1 := by cases y <;> decide
    refine ⟨by omega, ?_⟩
    rw [h2]
    congr 1
    have : x.toNat = y.toNat := by omega
    cases x <;> cases y <;> simp at this <;> rfl
theorem valB_inj {l m : List Bool} (hl : l.length = m.length) : valB l = valB m ↔ l = m := ⟨fun h => (valGo_inj l m 0 0 hl h).2, fun h => by rw [h]⟩
end Go.AM.R1
open Go Go.AM
namespace Go.AM.R1
/-! ### What the document sees of one frame -/
def onP (w : Wt) (b : Bool) : Option Sg × Wt := endP (takeP (countP w b) b)
theorem seeP_onP {w : Wt} (b : Bool) (h : w.on = true) : seeP w b = onP w b := by
  have hst : startP w b = w := by unfold startP; rw [if_neg (by rw [h]; simp)]
  unfold seeP onP; rw [hst, if_neg (by rw [h]; simp)]
def oneGo (w : Wt) : List Bool → Option Sg
  | [] => none
  | b :: m => match (onP w b).1 with | some s => some s | none => oneGo (onP w b).2 m
def encRs (s : Sg) : List AVal := [.lit (.bool (decide (s.kind = 1))), .lit (.int .i64 s.frm), .lit (.int .i64 s.to), .lit (.int .i64 s.frame.id), .lit (.bool s.frame.ext), .lit (.bool s.frame.rtr), .lit (.int .i64 s.frame.len), u8v s.frame.d0, u8v s.frame.d1, u8v s.frame.d2, u8v s.frame.d3, u8v s.frame.d4, u8v s.frame.d5, u8v s.frame.d6, u8v s.frame.d7, .lit (.bool s.acked)]
def sg0 : Sg := ⟨2, 0, 0, Fr.zero, false⟩
theorem nextF_gt {m : List Bool} (h : 4 < (nextF m).1) : dataF m ≤ m.length ∧ sumF m + 15 ≤ m.length := by
  have hs := sumF_ge m
  unfold nextF at h
  split at h; · simp at h
  split at h; · simp at h
  split at h; · simp at h
  split at h; · simp at h
  split at h; · simp at h
  omega
theorem nextF_gt' {m : List Bool} (h1 : dataF m ≤ m.length) (h2 : sumF m + 15 ≤ m.length) : 4 < (nextF m).1 := by
  have hs := sumF_ge m
  unfold nextF
  rw [if_neg (by omega), if_neg (by
    rintro (q | ⟨q1, q2⟩)
    · omega
    · have : dataF m = 39 := by unfold dataF; rw [if_pos q1]
      omega), if_neg (by omega), if_neg (by omega), if_neg (by omega)]
  repeat (first | split | omega)
theorem nextF_mono {m : List Bool} (h : 4 < (nextF m).1) (b : Bool) : 4 < (nextF (m ++ [b])).1 := by
  obtain ⟨h1, h2⟩ := nextF_gt h
  refine nextF_gt' ?_ ?_
  · rw [dataF_append h1]; simp; omega
  · rw [sumF_append h1]; simp; omega
structure RI (m : List Bool) (frm i : Nat) (w : Wt) : Prop where
  run5 : w.run ≤ 5
  tick : w.tick = i
  from_ : w.frm = frm
  on : w.on = true
  raw : RawIn w.raw
  raw0 : w.raw ≠ [] → w.raw[0]? = some false
  le : frm ≤ i
  init : w.raw = [] → i = frm ∧ w.run = 0
  run0 : w.raw ≠ [] → (nextF w.raw).1 ≤ 4 → 0 < w.run
  later : w.raw ≠ [] → frm < i
  prev : 0 < w.run → m[i - 1]? = some w.last
theorem ri_append {m : List Bool} {frm i : Nat} {w : Wt} (h : RI m frm i w) {b : Bool} (hb : m[i]? = some b) (hb0 : w.raw = [] → b = false) (w' : Wt)
    (e1 : w'.run ≤ 5) (e2 : w'.tick = i + 1) (e3 : w'.frm = w.frm) (e4 : w'.on = true) (e5 : w'.raw = w.raw ++ [b]) (hend : nextF w.raw ≠ (8, 5)) (e6 : (nextF w.raw).1 ≤ 4 → 0 < w'.run) (e7 : 0 < w'.run → w'.last = b) : RI m frm (i + 1) w' := by
  obtain ⟨h1, h2, h3, h4, h5, h6, h7, h8, h9, h10, h11⟩ := h
  have hne : w'.raw ≠ [] := by rw [e5]; simp
  refine ⟨e1, e2, by omega, e4, ?_, ?_, by omega, fun q => absurd q hne, ?_, fun _ => by omega, ?_⟩
  · rw [e5]; exact rawIn_append h5 (fun q => hend (nextF_end q.1 q.2)) b
  · intro _
    rw [e5]
    by_cases q : w.raw = []
    · rw [q, hb0 q]; rfl
    · rw [List.getElem?_append_left (List.length_pos_iff.2 q)]; exact h6 q
  · intro _ hk
    rw [e5] at hk
    apply e6
    apply Classical.byContradiction
    intro q
    have := nextF_mono (m := w.raw) (by omega) b
    omega
  · intro q
    rw [e7 q]; simpa using hb
theorem ri_take {m : List Bool} {frm i : Nat} {w : Wt} (h : RI m frm i w) {b : Bool} (hb : m[i]? = some b) (hb0 : w.raw = [] → b = false) (W : Wt) (e1 : W.raw = w.raw) (e2 : W.run = w.run) (e3 : W.last = w.last) (e4 : W.tick = i + 1) (e5 : W.frm = w.frm) (e6 : W.on = true) (ht2 : (takeP W b).1 = 0) : RI m frm (i + 1) (takeP W b).2 := by
  have hk := takeP_keep W b
  have hr := takeP_run W b (by rw [e2]; exact h.run5)
  have k1 : (takeP W b).2.frm = w.frm := by rw [hk.1, e5]
  have k2 : (takeP W b).2.tick = i + 1 := by rw [hk.2.1, e4]
  have k3 : (takeP W b).2.on = true := by rw [hk.2.2.1, e6]
  clear hk
  unfold takeP at ht2 hr k1 k2 k3 ⊢
  rw [e2, e3, e1] at *
  by_cases h5 : w.run = 5
  · simp only [if_pos h5] at *
    by_cases hbl : b = w.last
    · rw [if_pos hbl] at ht2; cases ht2
    · rw [if_neg hbl] at hr k1 k2 k3 ⊢
      obtain ⟨g1, g2, g3, g4, g5, g6, g7, g8, g9, g10, g11⟩ := h
      have hne : w.raw ≠ [] := fun q => by have := (g8 q).2; omega
      refine ⟨by show 1 ≤ 5; omega, k2, by rw [← g3]; exact k1, k3, g5, g6, by omega, fun q => absurd q hne, fun _ _ => by show 0 < 1; omega, fun _ => by have := g10 hne; omega, fun _ => ?_⟩
      show m[i + 1 - 1]? = some b
      simpa using hb
  · simp only [if_neg h5] at *
    by_cases q6 : (nextF w.raw).1 = 6
    · simp only [if_pos q6] at *
      refine ri_append h hb hb0 _ hr k2 k1 k3 rfl ?_ (fun q => by omega) ?_
      · intro e; rw [e] at q6; simp at q6
      · intro q
        simp only [if_pos (by omega : 4 < (nextF w.raw).1)] at q
        cases q
    · simp only [if_neg q6] at *
      by_cases qb : (nextF w.raw).1 = 5 ∧ rightF w.raw = false ∨ 4 < (nextF w.raw).1 ∧ b = false
      · rw [if_pos qb] at ht2; cases ht2
      · simp only [if_neg qb] at *
        by_cases q8 : (nextF w.raw).1 = 8 ∧ (nextF w.raw).2 = 5
        · rw [if_pos q8] at ht2; cases ht2
        · simp only [if_neg q8] at *
          refine ri_append h hb hb0 _ hr k2 k1 k3 rfl ?_ ?_ ?_
          · intro e; exact q8 ⟨by rw [e], by rw [e]⟩
          · intro q
            simp only [if_neg (by omega : ¬ 4 < (nextF w.raw).1)]
            split <;> simp
          · intro q
            by_cases q4 : 4 < (nextF w.raw).1
            · simp only [if_pos q4] at q; cases q
            · simp only [if_neg q4]
              split
              · rename_i q5; exact q5.2.symm
              · rfl
theorem RI.step {m : List Bool} {frm i : Nat} {w : Wt} (h : RI m frm i w) {b : Bool} (hb : m[i]? = some b) (hb0 : w.raw = [] → b = false) (hn : (onP w b).1 = none) : RI m frm (i + 1) (onP w b).2 := by
  have ht : (onP w b).2 = (takeP (countP w b) b).2 ∧ (takeP (countP w b) b).1 = 0 := by
    unfold onP endP at hn ⊢
    split
    · rename_i q; exact ⟨rfl, q⟩
    · rename_i q
      rw [if_neg q] at hn
      split at hn <;> cases hn
  rw [ht.1]
  exact ri_take h hb hb0 _ rfl rfl rfl (by show w.tick + 1 = _; rw [h.tick]) rfl h.on ht.2
end Go.AM.R1
open Go Go.AM
namespace Go.AM.R1
/-! ### The walk of the document's One -/
def rawV (m : List Bool) : AVal := if m = [] then nilS else .own 1 m.length 1 0 m.length
def rawH (lk : Bool) (m : List Bool) : Heap := if m = [] then [] else [.arr true lk false 1 (m.map encLv)]
def oneSt (m : List Bool) (nl fu : Bool) (frm i : Nat) (w : Wt) : Tmps := [(0, .imm nl fu true (m.map encLv)), (1, .lit (.int .i64 frm)), (4, .ptr 0 0), (6, rawV w.raw), (7, .lit (.int .i64 w.run)), (8, .lit (.int .i64 (lv (!w.acked)))), (9, .lit (.int .i64 i))]
def oneRes (o : Option Sg) : AVal := match o with | none => .tup [.agg (encRs sg0), .lit (.bool false)] | some s => .tup [.agg (encRs s), .lit (.bool true)]
/-- The watcher as a frame begins. -/
def onW (w : Wt) (frm : Nat) : Wt := { w with on := true, frm := frm, tick := frm, raw := [], last := false, run := 0, acked := false }
end Go.AM.R1
open Go Go.AM
namespace Go.AM.R1
/-! ### What the document sees, all of it -/
def trail (m : List Bool) : Nat → Nat
  | 0 => 0
  | i + 1 => if m[i]? = some true then trail m i + 1 else 0
theorem trail_le (m : List Bool) : ∀ i, trail m i ≤ i
  | 0 => Nat.le_refl _
  | i + 1 => by
    have := trail_le m i
    rw [trail]; split <;> omega
theorem onP_facts (w : Wt) (b : Bool) : (onP w b).2.tick = w.tick + 1 ∧ (onP w b).2.ones = (if b = true then w.ones + 1 else 0) ∧ (∀ s, (onP w b).1 = some s → s.to = w.tick + 1 ∧ (onP w b).2.on = false) ∧ ((onP w b).1 = none → (onP w b).2.on = w.on) := by
  have hk := takeP_keep (countP w b) b
  unfold onP endP
  by_cases h0 : (takeP (countP w b) b).1 = 0
  · rw [if_pos h0]
    exact ⟨hk.2.1, hk.2.2.2, fun s h => (by simp at h), fun _ => hk.2.2.1⟩
  · rw [if_neg h0]
    by_cases h2 : (takeP (countP w b) b).1 = 2
    · rw [if_pos h2]
      exact ⟨hk.2.1, hk.2.2.2, fun s h => (by simp only [Option.some.injEq] at h; subst h; exact ⟨hk.2.1, rfl⟩), fun h => (by simp at h)⟩
    · rw [if_neg h2]
      exact ⟨hk.2.1, hk.2.2.2, fun s h => (by simp only [Option.some.injEq] at h; subst h; exact ⟨hk.2.1, rfl⟩), fun h => (by simp at h)⟩
theorem trail_step {m : List Bool} {i : Nat} {b : Bool} (hb : m[i]? = some b) : trail m (i + 1) = if b = true then trail m i + 1 else 0 := by
  rw [trail, hb]; cases b <;> rfl
theorem sgGo_one (m : List Bool) : ∀ (d i : Nat) (w : Wt), i + d = m.length → w.on = true → w.tick = i → w.ones = trail m i →
    match oneGo w (m.drop i) with
    | none => sgGo w (m.drop i) = []
    | some s => ∃ w', w'.on = false ∧ w'.tick = s.to ∧ w'.ones = trail m s.to ∧ i < s.to ∧ s.to ≤ m.length ∧ sgGo w (m.drop i) = s :: sgGo w' (m.drop s.to) := by
  intro d
  induction d with
  | zero =>
    intro i w hi h1 h2 h3
    have : i = m.length := by omega
    subst this
    rw [List.drop_length]
    rfl
  | succ d ih =>
    intro i w hi h1 h2 h3
    have hlt : i < m.length := by omega
    have hb : m[i]? = some m[i] := List.getElem?_eq_getElem hlt
    obtain ⟨f1, f2, f3, f4⟩ := onP_facts w m[i]
    rw [List.drop_eq_getElem_cons hlt, oneGo, sgGo, seeP_onP _ h1]
    cases hs : (onP w m[i]).1 with
    | some s =>
      simp only []
      obtain ⟨g1, g2⟩ := f3 s hs
      have e : s.to = i + 1 := by omega
      rw [e]
      exact ⟨_, g2, by omega, by rw [f2, h3, trail_step hb], by omega, by omega, rfl⟩
    | none =>
      simp only [List.nil_append]
      have := ih (i + 1) (onP w m[i]).2 (by omega) (by rw [f4 hs]; exact h1) (by omega) (by rw [f2, h3, trail_step hb])
      revert this
      cases oneGo (onP w m[i]).2 (m.drop (i + 1)) with
      | none => exact id
      | some s =>
        rintro ⟨w', q1, q2, q3, q4, q5, q6⟩
        exact ⟨w', q1, q2, q3, by omega, q5, q6⟩
/-- One level, no frame on. -/
theorem sgGo_off {m : List Bool} {i : Nat} {w : Wt} (hi : i < m.length) (hon : w.on = false) (hn : ¬ (m[i] = false ∧ 10 ≤ w.ones)) :
    sgGo w (m.drop i) = sgGo (countP w m[i]) (m.drop (i + 1)) := by
  have hst : startP w m[i] = w := by unfold startP; rw [if_neg (by rintro ⟨-, q⟩; exact hn q)]
  have hse : seeP w m[i] = (none, countP w m[i]) := by unfold seeP; rw [hst, if_pos hon]
  rw [List.drop_eq_getElem_cons hi, sgGo, hse]
  rfl
theorem sgGo_start {m : List Bool} {i : Nat} {w : Wt} (hi : i < m.length) (hon : w.on = false) (ht : w.tick = i) (hn : m[i] = false ∧ 10 ≤ w.ones) :
    sgGo w (m.drop i) = sgGo (onW w i) (m.drop i) := by
  have hst : startP w m[i] = onW w i := by
    unfold startP onW; rw [if_pos ⟨hon, hn⟩, ← ht]
  have hso : startP (onW w i) m[i] = onW w i := by unfold startP; rw [if_neg (by simp [onW])]
  have hse : seeP w m[i] = seeP (onW w i) m[i] := by unfold seeP; rw [hst, hso]
  rw [List.drop_eq_getElem_cons hi, sgGo, sgGo, hse]
def rsV (ix : Nat) (n : Nat) : AVal := if n = 0 then nilS else .own ix n 16 0 n
def rsH (out : List Sg) : Heap := if out = [] then [] else [.arr true false false 16 (out.map encRs)]
theorem rowsRs (l : List Sg) : rowsOk 16 (l.map encRs) = true := rowsOk_map (f := encRs) (fun _ => rfl) l
end Go.AM.R1
open Go Go.AM
namespace Go.AM.R1
end Go.AM.R1
open Go Go.AM
namespace Go.AM.R1
theorem take_drop_add (l : List Bool) (a k n : Nat) : (l.take (a + k)).drop (a + n) = ((l.drop a).take k).drop n := by
  rw [List.drop_take, List.drop_take, List.drop_drop, show a + k - (a + n) = k - n from by omega]
theorem frBytes_len (f : Fr) : f.bytes.length = 8 := rfl
theorem bitsP_drop (f : Fr) (h : checkP f = 0) (r : List Bool) : (bitsP f ++ r).drop (dataF (bitsP f ++ r)) = dataP f ++ r := by
  rw [(bitsP_facts f h r).2.1, bitsP_head]
  cases f.ext
  · rfl
  · rfl
theorem byteF_bits (f : Fr) (hf : f.Ok) (h : checkP f = 0) (r : List Bool) (j : Nat) (hj : j < 8) : byteF (bitsP f ++ r) j = f.bytes[j]'(by rw [frBytes_len]; exact hj) := by
  obtain ⟨b1, b2, b3, b4, b5⟩ := bitsP_facts f h r
  obtain ⟨c1, c2, c3, c4, c5, c6⟩ := checkP_ok h
  have hz := ((maxL_zero _ _).1 c6).2
  have hsd : (sumF (bitsP f ++ r) - dataF (bitsP f ++ r)) / 8 = if f.rtr = true then 0 else f.len.toNat := by
    unfold sumF; rw [b3, b4]
    split <;> omega
  unfold byteF
  rw [hsd]
  by_cases hjn : j < if f.rtr = true then 0 else f.len.toNat
  · rw [if_pos hjn]
    have hrt : f.rtr = false := by
      cases hr : f.rtr
      · rfl
      · rw [hr] at hjn; simp at hjn
    rw [hrt] at hjn
    simp only [Bool.false_eq_true, if_false] at hjn
    rw [take_drop_add, bitsP_drop f h r]
    have hd : dataP f = bytesP (f.bytes.take f.len.toNat) := by unfold dataP; rw [hrt]; rfl
    have hjl : j < (f.bytes.take f.len.toNat).length := by rw [List.length_take, frBytes_len]; omega
    rw [hd, byte_at _ j hjl, valB_bits, List.getElem_take]
    exact Nat.mod_eq_of_lt (hf.byte _ (List.getElem_mem _))
  · rw [if_neg hjn]
    refine (hz _ ?_).symm
    have hjl : j < f.bytes.length := by rw [frBytes_len]; exact hj
    generalize (if f.rtr = true then 0 else f.len.toNat) = n at *
    have : f.bytes[j] = (f.bytes.drop n)[j - n]'(by rw [List.length_drop]; omega) := by
      rw [List.getElem_drop]; congr 1; omega
    rw [this]; exact List.getElem_mem _
theorem idF_bits (f : Fr) (h : checkP f = 0) (r : List Bool) : (idF (bitsP f ++ r) : Int) = f.id := by
  obtain ⟨c1, c2, c3, c4, c5, c6⟩ := checkP_ok h
  unfold idF
  rw [(bitsP_facts f h r).1, bitsP_head]
  cases hx : f.ext
  · obtain ⟨-, -, -, -, q⟩ := headS_facts f.id.toNat f.len.toNat f.rtr (dataP f ++ r)
    simp only [Bool.false_eq_true, if_false, q, valB_bits]
    have := c3 hx
    omega
  · obtain ⟨-, -, -, -, q1, q2⟩ := headE_facts f.id.toNat f.len.toNat f.rtr (dataP f ++ r)
    simp only [if_true, q1, q2, valB_bits]
    omega
theorem frameOf_bits (f : Fr) (hf : f.Ok) (h : checkP f = 0) (r : List Bool) : frameOf (bitsP f ++ r) = f := by
  obtain ⟨b1, b2, b3, b4, b5⟩ := bitsP_facts f h r
  obtain ⟨c1, c2, c3, c4, c5, c6⟩ := checkP_ok h
  have hb := byteF_bits f hf h r
  have hi := idF_bits f h r
  unfold frameOf
  rw [b1, b3, b4, hi, hb 0 (by omega), hb 1 (by omega), hb 2 (by omega), hb 3 (by omega), hb 4 (by omega), hb 5 (by omega), hb 6 (by omega), hb 7 (by omega)]
  have hn : ((f.len.toNat : Nat) : Int) = f.len := by omega
  rw [hn]
  rfl
/-- All that is stuffed. -/
def sentP (f : Fr) : List Bool := bitsP f ++ bitsOf 15 (c15L (bitsP f))
theorem sentP_sum (f : Fr) (h : checkP f = 0) (r : List Bool) : sumF (sentP f ++ r) = (bitsP f).length ∧ dataF (sentP f ++ r) ≤ (bitsP f).length ∧ (sentP f).length = (bitsP f).length + 15 := by
  unfold sentP
  rw [List.append_assoc]
  obtain ⟨b1, b2, b3, b4, b5⟩ := bitsP_facts f h (bitsOf 15 (c15L (bitsP f)) ++ r)
  have := sumF_ge (bitsP f ++ (bitsOf 15 (c15L (bitsP f)) ++ r))
  exact ⟨b5, by omega, by rw [List.length_append, bitsOf_length]⟩
theorem sentP_right (f : Fr) (h : checkP f = 0) (r : List Bool) : rightF (sentP f ++ r) = true := by
  obtain ⟨s1, -, s3⟩ := sentP_sum f h r
  unfold rightF
  rw [s1, decide_eq_true_eq]
  rw [show (bitsP f).length + 15 = (sentP f).length from s3.symm, List.take_left]
  have e : (sentP f).drop (bitsP f).length = bitsOf 15 (c15L (bitsP f)) := by unfold sentP; rw [List.drop_left]
  have e2 : (sentP f ++ r).take (bitsP f).length = bitsP f := by unfold sentP; rw [List.append_assoc, List.take_left]
  rw [e, e2]
theorem prefix_kind (f : Fr) (h : checkP f = 0) (p q : List Bool) (hq : q ≠ []) (e : p ++ q = sentP f) : (nextF p).1 ≤ 4 := by
  apply Classical.byContradiction
  intro hk
  obtain ⟨g1, g2⟩ := nextF_gt (m := p) (by omega)
  have h1 := sumF_append g1 q
  obtain ⟨s1, -, s3⟩ := sentP_sum f h []
  rw [List.append_nil, ← e, h1] at s1
  rw [← e, List.length_append] at s3
  have := List.length_pos_iff.2 hq
  omega
theorem frameOf_sent (f : Fr) (hf : f.Ok) (h : checkP f = 0) (r : List Bool) : frameOf (sentP f ++ r) = f := by
  unfold sentP; rw [List.append_assoc]; exact frameOf_bits f hf h _
end Go.AM.R1
open Go Go.AM
namespace Go.AM.R1
/-! ### A frame's row, seen -/
def emit : Option Bool → Nat → List Bool → List Bool
  | _, _, [] => []
  | o, r, x :: l => if (if o = some x then r + 1 else 1) = 5 then x :: (!x) :: emit (some !x) 1 l else x :: emit (some x) (if o = some x then r + 1 else 1) l
theorem addS_emit : ∀ (l out : List Bool) (r : Nat), addS out r l = out ++ emit out.getLast? r l
  | [], out, r => by simp [addS, emit]
  | x :: l, out, r => by
    rw [addS, emit]
    unfold tellR
    generalize (if out.getLast? = some x then r + 1 else 1) = r'
    by_cases h : r' = 5
    · rw [if_pos h, if_pos h, addS_emit l, show (out ++ [x, !x]).getLast? = some (!x) from by simp [List.getLast?_append]]; simp
    · rw [if_neg h, if_neg h, addS_emit l, show (out ++ [x]).getLast? = some x from by simp]; simp
theorem takeP_head2 {w : Wt} {b : Bool} (h5 : w.run ≠ 5) (hk : ¬ 4 < (nextF w.raw).1) : takeP w b = (0, { w with raw := w.raw ++ [b], last := b, run := if 0 < w.run ∧ b = w.last then w.run + 1 else 1 }) := by
  unfold takeP
  simp only [if_neg h5, if_neg hk]
  rw [if_neg (by omega : ¬ (nextF w.raw).1 = 6), if_neg (by omega), if_neg (by omega)]
  by_cases q : 0 < w.run ∧ b = w.last
  · simp only [if_pos q]
    rw [q.2]
  · simp only [if_neg q]
theorem takeP_stuff2 {w : Wt} {b : Bool} (h5 : w.run = 5) (hb : b ≠ w.last) : takeP w b = (0, { w with last := b, run := 1 }) := by
  unfold takeP
  rw [if_pos h5, if_neg hb]
theorem sgGo_none {w : Wt} {b : Bool} (hon : w.on = true) (h : (takeP (countP w b) b).1 = 0) (m : List Bool) : sgGo w (b :: m) = sgGo (takeP (countP w b) b).2 m := by
  have e : seeP w b = (none, (takeP (countP w b) b).2) := by
    rw [seeP_onP _ hon]; unfold onP endP; rw [if_pos h]
  rw [sgGo, e]; rfl
def LastOk (o : Option Bool) (r : Nat) (w : Wt) : Prop := match o with | none => r = 0 | some c => w.last = c ∧ 0 < r
theorem feed (f : Fr) (h : checkP f = 0) (rest : List Bool) : ∀ (l p : List Bool) (o : Option Bool) (r : Nat) (w : Wt), p ++ l = sentP f → w.on = true → w.raw = p → w.run = r → r < 5 → LastOk o r w →
    ∃ w', w'.on = true ∧ w'.raw = sentP f ∧ w'.run < 5 ∧ w'.frm = w.frm ∧ w'.acked = w.acked ∧ w'.tick = w.tick + (emit o r l).length ∧ sgGo w (emit o r l ++ rest) = sgGo w' rest
  | [], p, o, r, w, e, h1, h2, h3, h4, h5 => by
    rw [List.append_nil] at e
    exact ⟨w, h1, by rw [h2, e], by omega, rfl, rfl, by simp [emit], by simp [emit]⟩
  | x :: l, p, o, r, w, e, h1, h2, h3, h4, h5 => by
    have hk := prefix_kind f h p (x :: l) (by simp) e
    have ht : takeP (countP w x) x = (0, { countP w x with raw := p ++ [x], last := x, run := if o = some x then r + 1 else 1 }) := by
      have := takeP_head2 (w := countP w x) (b := x) (by show w.run ≠ 5; omega) (by show ¬ 4 < (nextF w.raw).1; rw [h2]; omega)
      rw [this]
      have hc : (0 < (countP w x).run ∧ x = (countP w x).last) ↔ o = some x := by
        show (0 < w.run ∧ x = w.last) ↔ _
        rw [h3]
        cases o with
        | none => have : r = 0 := h5; simp; omega
        | some c => obtain ⟨q1, q2⟩ : w.last = c ∧ 0 < r := h5; rw [q1]; simp; exact ⟨fun q => q.2.symm, fun q => ⟨q2, q.symm⟩⟩
      have hr : (countP w x).raw = p := h2
      have hn : (countP w x).run = r := h3
      rw [hr, hn]
      rw [hn] at hc
      congr 2
      by_cases q : o = some x
      · rw [if_pos q, if_pos (hc.2 q)]
      · rw [if_neg q, if_neg (fun g => q (hc.1 g))]
    have hs := sgGo_none h1 (show (takeP (countP w x) x).1 = 0 by rw [ht])
    rw [ht] at hs
    rw [emit]
    generalize hrr : (if o = some x then r + 1 else 1) = r' at *
    have hr5 : r' ≤ 5 ∧ 0 < r' := by rw [← hrr]; split <;> omega
    by_cases h55 : r' = 5
    · rw [if_pos h55]
      subst h55
      obtain ⟨w1, hw1⟩ : ∃ w1 : Wt, w1 = { countP w x with raw := p ++ [x], last := x, run := 5 } := ⟨_, rfl⟩
      have hs1 : ∀ m, sgGo w (x :: m) = sgGo w1 m := by rw [hw1]; exact hs
      have w1on : w1.on = true := by rw [hw1]; exact h1
      have ht2 : takeP (countP w1 (!x)) (!x) = (0, { countP w1 (!x) with last := !x, run := 1 }) := takeP_stuff2 (by rw [hw1]; rfl) (by rw [hw1]; show (!x) ≠ x; simp)
      have hs2 := sgGo_none w1on (show (takeP (countP w1 (!x)) (!x)).1 = 0 by rw [ht2])
      rw [ht2] at hs2
      obtain ⟨w', a1, a2, a3, a4, a5, a6, a7⟩ := feed f h rest l (p ++ [x]) (some !x) 1 { countP w1 (!x) with last := !x, run := 1 } (by rw [← e]; simp) w1on (by rw [hw1]; rfl) rfl (by omega) ⟨rfl, by omega⟩
      refine ⟨w', a1, a2, a3, ?_, ?_, ?_, ?_⟩
      · rw [a4, hw1]; rfl
      · rw [a5, hw1]; rfl
      · rw [a6, hw1]
        show w.tick + 1 + 1 + _ = _
        simp only [List.length_cons]; omega
      · rw [List.cons_append, List.cons_append, hs1, hs2]; exact a7
    · rw [if_neg h55]
      obtain ⟨w', a1, a2, a3, a4, a5, a6, a7⟩ := feed f h rest l (p ++ [x]) (some x) r' { countP w x with raw := p ++ [x], last := x, run := r' } (by rw [← e]; simp) h1 rfl rfl (by omega) ⟨rfl, hr5.2⟩
      refine ⟨w', a1, a2, a3, a4, a5, ?_, ?_⟩
      · rw [a6]
        show w.tick + 1 + _ = _
        simp only [List.length_cons]; omega
      · rw [List.cons_append, hs]; exact a7
end Go.AM.R1
open Go Go.AM
namespace Go.AM.R1
/-! ### .. to its end -/
theorem nextF_sent (f : Fr) (h : checkP f = 0) (t : List Bool) (ht : t.length ≤ 9) : nextF (sentP f ++ t) = if t.length = 0 then (5, 0) else if t.length = 1 then (6, 0) else if t.length = 2 then (7, 0) else (8, t.length - 3) := by
  obtain ⟨s1, s2, s3⟩ := sentP_sum f h t
  have hs := sumF_ge (sentP f ++ t)
  have hl : (sentP f ++ t).length = (bitsP f).length + 15 + t.length := by rw [List.length_append, s3]
  unfold nextF
  rw [s1] at *
  rw [hl]
  rw [if_neg (by omega), if_neg (by
    rintro (q | ⟨q1, q2⟩)
    · omega
    · have : dataF (sentP f ++ t) = 39 := by unfold dataF; rw [if_pos q1]
      omega), if_neg (by omega), if_neg (by omega), if_neg (by omega)]
  by_cases t0 : t.length = 0
  · rw [if_pos (by omega), if_pos t0]
  · rw [if_neg (by omega), if_neg t0]
    by_cases t1 : t.length = 1
    · rw [if_pos (by omega), if_pos t1]
    · rw [if_neg (by omega), if_neg t1]
      by_cases t2 : t.length = 2
      · rw [if_pos (by omega), if_pos t2]
      · rw [if_neg (by omega), if_neg t2, if_pos (by omega)]
        congr 1; omega
structure TS (f : Fr) (t : List Bool) (fr tk on1 : Nat) (ak : Bool) (w : Wt) : Prop where
  on : w.on = true
  raw : w.raw = sentP f ++ t
  run : w.run ≠ 5
  frm : w.frm = fr
  tick : w.tick = tk
  ones : on1 ≤ w.ones
  acked : w.acked = ak
theorem ts_true {f : Fr} (h : checkP f = 0) {t : List Bool} {fr tk o : Nat} {ak : Bool} {w : Wt} (s : TS f t fr tk o ak w) (h1 : t.length ≠ 1) (h7 : t.length ≤ 7) (m : List Bool) :
    ∃ w', TS f (t ++ [true]) fr (tk + 1) (o + 1) ak w' ∧ sgGo w (true :: m) = sgGo w' m := by
  obtain ⟨g1, g2, g3, g4, g5, g6, g7⟩ := s
  have hn := nextF_sent f h t (by omega)
  have hr := sentP_right f h t
  have e : takeP (countP w true) true = (0, { countP w true with run := 0, raw := w.raw ++ [true] }) := by
    unfold takeP
    rw [if_neg (by show ¬ w.run = 5; exact g3)]
    have hcr : (countP w true).raw = sentP f ++ t := g2
    simp only [hcr, hr, hn]
    by_cases t0 : t.length = 0
    · rw [if_pos t0]; simp [g2]
    · rw [if_neg t0, if_neg h1]
      by_cases t2 : t.length = 2
      · rw [if_pos t2]; simp [g2]
      · rw [if_neg t2]
        have : ¬ t.length - 3 = 5 := by omega
        simp [g2, this]
  have hs := sgGo_none g1 (show (takeP (countP w true) true).1 = 0 by rw [e]) m
  rw [e] at hs
  refine ⟨{ countP w true with run := 0, raw := w.raw ++ [true] }, ⟨g1, by show w.raw ++ [true] = _; rw [g2, List.append_assoc], by simp, g4, by show w.tick + 1 = _; omega, by show o + 1 ≤ w.ones + 1; omega, g7⟩, hs⟩
theorem ts_slot {f : Fr} (h : checkP f = 0) {t : List Bool} {fr tk o : Nat} {ak : Bool} {w : Wt} (s : TS f t fr tk o ak w) (h1 : t.length = 1) (b : Bool) (m : List Bool) :
    ∃ w', TS f (t ++ [b]) fr (tk + 1) 0 (!b) w' ∧ sgGo w (b :: m) = sgGo w' m := by
  obtain ⟨g1, g2, g3, g4, g5, g6, g7⟩ := s
  have hn := nextF_sent f h t (by omega)
  rw [if_neg (by omega), if_pos h1] at hn
  have e : takeP (countP w b) b = (0, { countP w b with run := 0, raw := w.raw ++ [b], acked := !b }) := by
    unfold takeP
    rw [if_neg (by show ¬ w.run = 5; exact g3)]
    have hcr : (countP w b).raw = sentP f ++ t := g2
    simp only [hcr, hn]
    simp [g2]
  have hs := sgGo_none g1 (show (takeP (countP w b) b).1 = 0 by rw [e]) m
  rw [e] at hs
  refine ⟨{ countP w b with run := 0, raw := w.raw ++ [b], acked := !b }, ⟨g1, by show w.raw ++ [b] = _; rw [g2, List.append_assoc], by simp, g4, by show w.tick + 1 = _; omega, Nat.zero_le _, rfl⟩, hs⟩
theorem ts_end {f : Fr} (hf : f.Ok) (h : checkP f = 0) {t : List Bool} {fr tk o : Nat} {ak : Bool} {w : Wt} (s : TS f t fr tk o ak w) (h8 : t.length = 8) (m : List Bool) :
    ∃ w', w'.on = false ∧ w'.tick = tk + 1 ∧ o + 1 ≤ w'.ones ∧ sgGo w (true :: m) = ⟨1, fr, tk + 1, f, ak⟩ :: sgGo w' m := by
  obtain ⟨g1, g2, g3, g4, g5, g6, g7⟩ := s
  have hn := nextF_sent f h t (by omega)
  rw [if_neg (by omega), if_neg (by omega), if_neg (by omega), h8] at hn
  have e : takeP (countP w true) true = (2, { countP w true with run := 0 }) := by
    unfold takeP
    rw [if_neg (by show ¬ w.run = 5; exact g3)]
    have hcr : (countP w true).raw = sentP f ++ t := g2
    simp only [hcr, hn]
    simp
  have hse : seeP w true = (some ⟨1, fr, tk + 1, f, ak⟩, { countP w true with run := 0, on := false }) := by
    rw [seeP_onP _ g1]
    unfold onP
    rw [e]
    unfold endP
    simp only []
    rw [if_neg (by decide), if_pos (by decide)]
    have e1 : frameOf (countP w true).raw = f := by show frameOf w.raw = f; rw [g2]; exact frameOf_sent f hf h t
    have e2 : (countP w true).frm = fr := g4
    have e3 : (countP w true).tick = tk + 1 := by show w.tick + 1 = _; omega
    have e4 : (countP w true).acked = ak := g7
    rw [e1, e2, e3, e4]
  rw [sgGo, hse]
  exact ⟨_, rfl, by show w.tick + 1 = _; omega, by show o + 1 ≤ w.ones + 1; omega, rfl⟩
theorem off_true1 {w : Wt} (h : w.on = false) (m : List Bool) : sgGo w (true :: m) = sgGo (countP w true) m := by
  have e : startP w true = w := by unfold startP; rw [if_neg (by rintro ⟨-, q, -⟩; cases q)]
  have s : seeP w true = (none, countP w true) := by unfold seeP; rw [e, if_pos h]
  rw [sgGo, s]; rfl
theorem tail_seen {f : Fr} (hf : f.Ok) (h : checkP f = 0) (ack : Bool) {w : Wt} (hon : w.on = true) (hraw : w.raw = sentP f) (hrun : w.run < 5) (rest : List Bool) :
    ∃ w', w'.on = false ∧ 8 ≤ w'.ones ∧ w'.tick = w.tick + 10 ∧ sgGo w (true :: (!ack) :: true :: true :: true :: true :: true :: true :: true :: true :: rest) = ⟨1, w.frm, w.tick + 9, f, ack⟩ :: sgGo w' rest := by
  have s0 : TS f [] w.frm w.tick 0 w.acked w := ⟨hon, by rw [hraw, List.append_nil], by omega, rfl, rfl, Nat.zero_le _, rfl⟩
  obtain ⟨w1, s1, e1⟩ := ts_true h s0 (by simp) (by simp) ((!ack) :: true :: true :: true :: true :: true :: true :: true :: true :: rest)
  obtain ⟨w2, s2, e2⟩ := ts_slot h s1 (by simp) (!ack) (true :: true :: true :: true :: true :: true :: true :: true :: rest)
  obtain ⟨w3, s3, e3⟩ := ts_true h s2 (by simp) (by simp) (true :: true :: true :: true :: true :: true :: true :: rest)
  obtain ⟨w4, s4, e4⟩ := ts_true h s3 (by simp) (by simp) (true :: true :: true :: true :: true :: true :: rest)
  obtain ⟨w5, s5, e5⟩ := ts_true h s4 (by simp) (by simp) (true :: true :: true :: true :: true :: rest)
  obtain ⟨w6, s6, e6⟩ := ts_true h s5 (by simp) (by simp) (true :: true :: true :: true :: rest)
  obtain ⟨w7, s7, e7⟩ := ts_true h s6 (by simp) (by simp) (true :: true :: true :: rest)
  obtain ⟨w8, s8, e8⟩ := ts_true h s7 (by simp) (by simp) (true :: true :: rest)
  obtain ⟨w9, a1, a2, a3, e9⟩ := ts_end hf h s8 (by simp) (true :: rest)
  rw [e1, e2, e3, e4, e5, e6, e7, e8, e9, off_true1 a1, Bool.not_not]
  exact ⟨countP w9 true, a1, by show 8 ≤ w9.ones + 1; omega, by show w9.tick + 1 = _; omega, rfl⟩
theorem encodeP_parts (f : Fr) (ack : Bool) : encodeP f ack = stuffP (sentP f) ++ [true, !ack, true, true, true, true, true, true, true, true] := by
  have e : rowP f = stuffP (sentP f) ++ List.replicate 10 true := rfl
  unfold encodeP
  rw [e]
  generalize stuffP (sentP f) = S
  cases ack
  · rfl
  · rw [if_pos rfl, show (S ++ List.replicate 10 true).length - 9 = S.length + 1 from by simp, List.set_append_right _ _ (by omega), show S.length + 1 - S.length = 1 from by omega]
    rfl
/-- A frame's row is seen, once. -/
theorem row_seen {f : Fr} (hf : f.Ok) (h : checkP f = 0) (ack : Bool) {w : Wt} (hon : w.on = false) (hones : 10 ≤ w.ones) (rest : List Bool) :
    ∃ w', w'.on = false ∧ 8 ≤ w'.ones ∧ w'.tick = w.tick + (encodeP f ack).length ∧ sgGo w (encodeP f ack ++ rest) = ⟨1, w.tick, w.tick + (encodeP f ack).length - 1, f, ack⟩ :: sgGo w' rest := by
  have hst : stuffP (sentP f) = emit none 0 (sentP f) := by unfold stuffP; rw [addS_emit]; rfl
  have hs0 : ∃ q, emit none 0 (sentP f) = false :: q := by
    have : ∃ l, sentP f = false :: l := by
      unfold sentP
      rw [bitsP_head]
      cases f.ext
      · exact ⟨_, rfl⟩
      · exact ⟨_, rfl⟩
    obtain ⟨l, hl⟩ := this
    rw [hl, emit, if_neg (by simp)]
    exact ⟨_, rfl⟩
  obtain ⟨q, hq⟩ := hs0
  have hstart : ∀ m, sgGo w (false :: m) = sgGo (onW w w.tick) (false :: m) := by
    intro m
    have e1 : startP w false = onW w w.tick := by unfold startP onW; rw [if_pos ⟨hon, rfl, hones⟩]
    have e2 : startP (onW w w.tick) false = onW w w.tick := by unfold startP; rw [if_neg (by simp [onW])]
    have e3 : seeP w false = seeP (onW w w.tick) false := by unfold seeP; rw [e1, e2]
    rw [sgGo, sgGo, e3]
  obtain ⟨w1, a1, a2, a3, a4, a5, a6, a7⟩ := feed f h ([true, !ack, true, true, true, true, true, true, true, true] ++ rest) (sentP f) [] none 0 (onW w w.tick) rfl rfl rfl rfl (by omega) rfl
  obtain ⟨w2, b1, b2, b3, b4⟩ := tail_seen hf h ack a1 a2 a3 rest
  have hlen : (encodeP f ack).length = (emit none 0 (sentP f)).length + 10 := by rw [encodeP_parts, hst]; simp
  refine ⟨w2, b1, b2, ?_, ?_⟩
  · rw [b3, a6, hlen]; show w.tick + _ + 10 = _; omega
  · rw [encodeP_parts, hst, List.append_assoc]
    rw [hq, List.cons_append, hstart, ← List.cons_append, ← hq, a7]
    rw [show w.tick + (emit none 0 (sentP f) ++ [true, !ack, true, true, true, true, true, true, true, true]).length - 1 = w1.tick + 9 from by rw [a6]; simp; show _ = w.tick + _ + 9; omega]
    rw [show ({ kind := 1, frm := w.tick, to := w1.tick + 9, frame := f, acked := ack } : Sg) = ⟨1, w1.frm, w1.tick + 9, f, ack⟩ from by rw [a4]; rfl]
    exact b4
end Go.AM.R1
open Go Go.AM
namespace Go.AM.R1
/-! ### Levels behind others, plain -/
theorem watAt_append : ∀ (m r : List Bool) (w : Wt), watAt w (m ++ r) = watAt (watAt w m) r
  | [], _, _ => rfl
  | b :: m, r, w => watAt_append m r (seeP w b).2
theorem sgGo_append : ∀ (m r : List Bool) (w : Wt), sgGo w (m ++ r) = sgGo w m ++ sgGo (watAt w m) r
  | [], _, _ => rfl
  | b :: m, r, w => by
    rw [List.cons_append, sgGo, sgGo_append m r, ← List.append_assoc]; rfl
theorem watAt_wi : ∀ (m : List Bool) (i : Nat) (w : Wt), WI i w → WI (i + m.length) (watAt w m)
  | [], _, _, h => h
  | b :: m, i, w, h => by
    have := watAt_wi m (i + 1) _ (h.see b)
    rw [List.length_cons, show i + (m.length + 1) = i + 1 + m.length from by omega]; exact this
def Off (n : Nat) (w : Wt) : Prop := ∀ k, n ≤ k → (watAt w (List.replicate k true)).on = false
theorem off_keep : ∀ (k : Nat) (w : Wt), w.on = false → (watAt w (List.replicate k true)).on = false
  | 0, _, h => h
  | k + 1, w, h => by
    rw [List.replicate_succ, watAt]
    refine off_keep k _ ?_
    have hst : startP w true = w := by unfold startP; rw [if_neg (by rintro ⟨-, q, -⟩; cases q)]
    unfold seeP; rw [hst, if_pos h]; exact h
theorem off_zero {w : Wt} (h : w.on = false) : Off 0 w := fun k _ => off_keep k w h
theorem off_succ {n : Nat} {w : Wt} (h : Off n (seeP w true).2) : Off (n + 1) w := by
  intro k hk
  obtain ⟨k', rfl⟩ : ∃ k', k = k' + 1 := ⟨k - 1, by omega⟩
  rw [List.replicate_succ, watAt]
  exact h k' (by omega)
theorem off_mono {n n' : Nat} {w : Wt} (h : Off n w) (hn : n ≤ n') : Off n' w := fun k hk => h k (by omega)
theorem off_end {w : Wt} (hon : w.on = true) (h : (takeP (countP w true) true).1 ≠ 0) : Off 1 w := by
  refine off_succ (off_zero ?_)
  rw [seeP_onP _ hon]
  unfold onP endP
  rw [if_neg h]
  split <;> rfl
theorem see_none {w : Wt} (hon : w.on = true) (b : Bool) (h : (takeP (countP w b) b).1 = 0) : (seeP w b).2 = (takeP (countP w b) b).2 := by
  rw [seeP_onP _ hon]; unfold onP endP; rw [if_pos h]
theorem takeP_tail {w : Wt} {b : Bool} (h5 : w.run ≠ 5) (hk : 4 < (nextF w.raw).1) (h0 : (takeP w b).1 = 0) : (takeP w b).2.raw = w.raw ++ [b] ∧ (takeP w b).2.run = 0 := by
  unfold takeP at h0 ⊢
  simp only [if_neg h5, if_pos hk] at h0 ⊢
  split at h0
  · rename_i q; simp only [if_pos q]; exact ⟨trivial, trivial⟩
  · rename_i q
    simp only [if_neg q]
    split at h0
    · cases h0
    · rename_i q2
      simp only [if_neg q2]
      split at h0
      · cases h0
      · rename_i q3
        simp only [if_neg q3]; exact ⟨trivial, trivial⟩
theorem takeP_head {w : Wt} {b : Bool} (h5 : w.run ≠ 5) (hk : ¬ 4 < (nextF w.raw).1) : (takeP w b).1 = 0 ∧ (takeP w b).2.last = b ∧ (takeP w b).2.run = (if 0 < w.run ∧ b = w.last then w.run + 1 else 1) := by
  unfold takeP
  simp only [if_neg h5, if_neg hk]
  rw [if_neg (by omega : ¬ (nextF w.raw).1 = 6), if_neg (by omega), if_neg (by omega)]
  refine ⟨rfl, ?_, ?_⟩
  · split
    · rename_i q; exact q.2.symm
    · rfl
  · split <;> rfl
theorem off_tail : ∀ (d i : Nat) (w : Wt), WI i w → w.on = true → 4 < (nextF w.raw).1 → w.run ≠ 5 → sumF w.raw + 24 - w.raw.length ≤ d → Off d w := by
  intro d
  induction d with
  | zero =>
    intro i w hW hon hk h5 hd
    obtain ⟨g1, g2⟩ := nextF_gt hk
    have := (hW.raw hon).2.2 g1
    omega
  | succ d ih =>
    intro i w hW hon hk h5 hd
    obtain ⟨g1, g2⟩ := nextF_gt hk
    have hr := (hW.raw hon).2.2 g1
    by_cases h0 : (takeP (countP w true) true).1 = 0
    · refine off_succ ?_
      have hs := see_none hon true h0
      obtain ⟨t1, t2⟩ := takeP_tail (w := countP w true) h5 hk h0
      have hW2 := hW.see true
      rw [hs] at hW2 ⊢
      have hraw : (takeP (countP w true) true).2.raw = w.raw ++ [true] := t1
      refine ih (i + 1) _ hW2 ?_ ?_ (by rw [t2]; simp) ?_
      · rw [(takeP_keep _ _).2.2.1]; exact hon
      · rw [hraw]; exact nextF_mono hk true
      · rw [hraw, sumF_append g1]; simp; omega
    · exact off_mono (off_end hon h0) (by omega)
theorem off_run5 {w : Wt} (hon : w.on = true) (h5 : w.run = 5) (hl : w.last = true) : Off 1 w := by
  refine off_end hon ?_
  unfold takeP
  rw [if_pos (show (countP w true).run = 5 from h5), if_pos (show true = (countP w true).last from hl.symm)]
  simp
theorem off_nine {i : Nat} {w : Wt} (hW : WI i w) (hon : w.on = true) (hk : 4 < (nextF w.raw).1) (h5 : w.run ≠ 5) : Off 9 w := by
  obtain ⟨g1, g2⟩ := nextF_gt hk
  exact off_tail 9 i w hW hon hk h5 (by omega)
theorem off_true : ∀ (d i : Nat) (w : Wt), WI i w → w.on = true → 0 < w.run → w.last = true → w.run + d = 5 → Off (9 + d) w := by
  intro d
  induction d with
  | zero => intro i w hW hon h0 hl h5; exact off_mono (off_run5 hon (by omega) hl) (by omega)
  | succ d ih =>
    intro i w hW hon h0 hl hr
    by_cases hk : 4 < (nextF w.raw).1
    · exact off_mono (off_nine hW hon hk (by omega)) (by omega)
    · obtain ⟨t1, t2, t3⟩ := takeP_head (w := countP w true) (b := true) (show w.run ≠ 5 by omega) hk
      refine off_succ ?_
      have hW2 := hW.see true
      rw [see_none hon true t1] at hW2 ⊢
      have hru : (takeP (countP w true) true).2.run = w.run + 1 := by rw [t3, if_pos ⟨h0, hl.symm⟩]; rfl
      refine ih (i + 1) _ hW2 ?_ (by omega) t2 (by omega)
      rw [(takeP_keep _ _).2.2.1]; exact hon
theorem off_all {i : Nat} {w : Wt} (hW : WI i w) : Off 15 w := by
  by_cases hon : w.on = false
  · exact off_mono (off_zero hon) (by omega)
  · have hon : w.on = true := by simpa using hon
    have hr5 := hW.run
    have hW2 := hW.see true
    have hon2 : (takeP (countP w true) true).2.on = true := by rw [(takeP_keep _ _).2.2.1]; exact hon
    by_cases h5 : w.run = 5
    · cases hl : w.last
      · have ht : takeP (countP w true) true = (0, { countP w true with last := true, run := 1 }) := by
          unfold takeP
          rw [if_pos (show (countP w true).run = 5 from h5), if_neg (by show ¬ true = w.last; rw [hl]; simp)]
        refine off_mono (off_succ (n := 13) ?_) (by omega)
        rw [see_none hon true (by rw [ht])] at hW2 ⊢
        exact off_true 4 (i + 1) _ hW2 hon2 (by rw [ht]; show 0 < 1; omega) (by rw [ht]) (by rw [ht])
      · exact off_mono (off_run5 hon h5 hl) (by omega)
    · by_cases hk : 4 < (nextF w.raw).1
      · exact off_mono (off_nine hW hon hk h5) (by omega)
      · obtain ⟨t1, t2, t3⟩ := takeP_head (w := countP w true) (b := true) h5 hk
        refine off_mono (off_succ (n := 13) ?_) (by omega)
        rw [see_none hon true t1] at hW2 ⊢
        have hru : 0 < (takeP (countP w true) true).2.run := by rw [t3]; split <;> omega
        have hr52 := hW2.run
        refine off_mono (off_true (5 - (takeP (countP w true) true).2.run) (i + 1) _ hW2 hon2 hru t2 (by omega)) (by omega)
/-- The same, later. -/
def shW (δ o : Nat) (w : Wt) : Wt := { w with tick := w.tick + δ, frm := w.frm + δ, ones := o }
def shS (δ : Nat) (s : Sg) : Sg := { s with frm := s.frm + δ, to := s.to + δ }
theorem takeP_sh (δ o : Nat) (w : Wt) (b : Bool) : takeP (shW δ o w) b = ((takeP w b).1, shW δ o (takeP w b).2) := by
  unfold takeP
  by_cases h5 : w.run = 5
  · rw [if_pos (show (shW δ o w).run = 5 from h5), if_pos h5]
    by_cases hb : b = w.last
    · rw [if_pos (show b = (shW δ o w).last from hb), if_pos hb]
    · rw [if_neg (show ¬ b = (shW δ o w).last from hb), if_neg hb]; rfl
  · rw [if_neg (show ¬ (shW δ o w).run = 5 from h5), if_neg h5]
    have hw : ∀ (c d : Prop) [Decidable c] [Decidable d] (x y z : Wt), (if c then shW δ o x else if d then shW δ o y else shW δ o z) = shW δ o (if c then x else if d then y else z) := by
      intro c d _ _ x y z
      split
      · rfl
      · split <;> rfl
    simp only []
    have e := hw (4 < (nextF w.raw).1) (0 < w.run ∧ b = w.last) { w with run := 0 } { w with run := w.run + 1 } { w with last := b, run := 1 }
    have e' : (if 4 < (nextF (shW δ o w).raw).1 then { shW δ o w with run := 0 } else if 0 < (shW δ o w).run ∧ b = (shW δ o w).last then { shW δ o w with run := (shW δ o w).run + 1 } else { shW δ o w with last := b, run := 1 }) = shW δ o (if 4 < (nextF w.raw).1 then { w with run := 0 } else if 0 < w.run ∧ b = w.last then { w with run := w.run + 1 } else { w with last := b, run := 1 }) := e
    rw [e']
    generalize (if 4 < (nextF w.raw).1 then { w with run := 0 } else if 0 < w.run ∧ b = w.last then { w with run := w.run + 1 } else { w with last := b, run := 1 }) = w1
    show (if (nextF w.raw).1 = 6 then _ else if (nextF w.raw).1 = 5 ∧ rightF w.raw = false ∨ 4 < (nextF w.raw).1 ∧ b = false then _ else if (nextF w.raw).1 = 8 ∧ (nextF w.raw).2 = 5 then _ else _) = _
    split
    · rfl
    · split
      · rfl
      · split <;> rfl
structure SR (δ : Nat) (w w' : Wt) : Prop where
  on : w'.on = w.on
  tick : w'.tick = w.tick + δ
  ones : w'.ones = w.ones ∨ 10 ≤ w.ones ∧ 10 ≤ w'.ones
  same : w.on = true → w' = shW δ w'.ones w
theorem endP_sh (δ o : Nat) (r : Nat × Wt) : endP (r.1, shW δ o r.2) = ((endP r).1.map (shS δ), shW δ o (endP r).2) := by
  unfold endP
  simp only []
  split
  · rfl
  · split <;> rfl
theorem onP_sh (δ o : Nat) (w : Wt) (b : Bool) : onP (shW δ o w) b = ((onP w b).1.map (shS δ), shW δ (if b = true then o + 1 else 0) (onP w b).2) := by
  unfold onP
  have e : countP (shW δ o w) b = shW δ (if b = true then o + 1 else 0) (countP w b) := by
    unfold countP shW
    simp only [Wt.mk.injEq, true_and, and_true]
    omega
  rw [e, takeP_sh, endP_sh]
theorem SR.see {δ : Nat} {w w' : Wt} (h : SR δ w w') (b : Bool) : (seeP w' b).1 = (seeP w b).1.map (shS δ) ∧ SR δ (seeP w b).2 (seeP w' b).2 := by
  obtain ⟨h1, h2, h3, h4⟩ := h
  have key : ∀ (v v' : Wt), v.on = true → v' = shW δ v'.ones v → (v'.ones = v.ones ∨ 10 ≤ v.ones ∧ 10 ≤ v'.ones) → (onP v' b).1 = (onP v b).1.map (shS δ) ∧ SR δ (onP v b).2 (onP v' b).2 := by
    intro v v' hv he ho
    rw [he, onP_sh]
    refine ⟨rfl, rfl, rfl, ?_, fun _ => rfl⟩
    show (if b = true then v'.ones + 1 else 0) = (onP v b).2.ones ∨ 10 ≤ (onP v b).2.ones ∧ 10 ≤ (if b = true then v'.ones + 1 else 0)
    rw [(onP_facts v b).2.1]
    cases b
    · exact .inl rfl
    · simp only [if_true]; omega
  by_cases hon : w.on = true
  · rw [seeP_onP b hon, seeP_onP b (by rw [h1]; exact hon)]
    exact key w w' hon (h4 hon) h3
  · have hon : w.on = false := by simpa using hon
    have hon' : w'.on = false := by rw [h1]; exact hon
    by_cases hst : b = false ∧ 10 ≤ w.ones
    · have e : startP w b = onW w w.tick := by unfold startP onW; rw [if_pos ⟨hon, hst⟩]
      have e' : startP w' b = onW w' w'.tick := by unfold startP onW; rw [if_pos ⟨hon', hst.1, by omega⟩]
      have s : seeP w b = onP (onW w w.tick) b := by unfold seeP; rw [e, if_neg (by simp [onW])]; rfl
      have s' : seeP w' b = onP (onW w' w'.tick) b := by unfold seeP; rw [e', if_neg (by simp [onW])]; rfl
      rw [s, s']
      refine key _ _ rfl ?_ h3
      unfold onW shW
      simp only [Wt.mk.injEq, true_and, and_true]
      exact ⟨h2, h2⟩
    · have e : startP w b = w := by unfold startP; rw [if_neg (by rintro ⟨-, q⟩; exact hst q)]
      have e' : startP w' b = w' := by unfold startP; rw [if_neg (by rintro ⟨-, q1, q2⟩; exact hst ⟨q1, by omega⟩)]
      have s : seeP w b = (none, countP w b) := by unfold seeP; rw [e, if_pos hon]
      have s' : seeP w' b = (none, countP w' b) := by unfold seeP; rw [e', if_pos hon']
      rw [s, s']
      refine ⟨rfl, h1, ?_, ?_, fun q => ?_⟩
      · show w'.tick + 1 = w.tick + 1 + δ; omega
      · show (if b = true then w'.ones + 1 else 0) = (if b = true then w.ones + 1 else 0) ∨ _ ∧ _
        cases b
        · exact .inl rfl
        · show w'.ones + 1 = w.ones + 1 ∨ 10 ≤ w.ones + 1 ∧ 10 ≤ w'.ones + 1
          omega
      · have : w.on = true := q
        rw [hon] at this; cases this
theorem SR.go {δ : Nat} : ∀ (m : List Bool) (w w' : Wt), SR δ w w' → sgGo w' m = (sgGo w m).map (shS δ)
  | [], _, _, _ => rfl
  | b :: m, w, w', h => by
    obtain ⟨h1, h2⟩ := h.see b
    rw [sgGo, sgGo, List.map_append, SR.go m _ _ h2, h1]
    cases (seeP w b).1 <;> rfl
theorem ones_rep : ∀ (k : Nat) (w : Wt), (watAt w (List.replicate k true)).ones = w.ones + k ∧ (watAt w (List.replicate k true)).tick = w.tick + k
  | 0, _ => ⟨rfl, rfl⟩
  | k + 1, w => by
    rw [List.replicate_succ, watAt]
    have hs : (seeP w true).2.ones = w.ones + 1 ∧ (seeP w true).2.tick = w.tick + 1 := by
      by_cases hon : w.on = true
      · rw [seeP_onP true hon]
        exact ⟨(onP_facts w true).2.1, (onP_facts w true).1⟩
      · have hon : w.on = false := by simpa using hon
        have e : startP w true = w := by unfold startP; rw [if_neg (by rintro ⟨-, q, -⟩; cases q)]
        have s : seeP w true = (none, countP w true) := by unfold seeP; rw [e, if_pos hon]
        rw [s]; exact ⟨rfl, rfl⟩
    obtain ⟨q1, q2⟩ := ones_rep k (seeP w true).2
    rw [q1, q2, hs.1, hs.2]
    omega
theorem sgGo_ones : ∀ (k : Nat) (w : Wt), w.on = false → sgGo w (List.replicate k true) = []
  | 0, _, _ => rfl
  | k + 1, w, h => by
    have e : startP w true = w := by unfold startP; rw [if_neg (by rintro ⟨-, q, -⟩; cases q)]
    have s : seeP w true = (none, countP w true) := by unfold seeP; rw [e, if_pos h]
    rw [List.replicate_succ, sgGo, s]
    exact sgGo_ones k _ h
/-- Levels behind thirty levels 1 are seen as behind eleven. -/
theorem behind_fact (x y : List Bool) : sgAll (x ++ List.replicate 30 true ++ y) = sgAll (x ++ List.replicate 30 true) ++ (sgAll (List.replicate 11 true ++ y)).map (shS (x.length + 19)) := by
  unfold sgAll
  rw [sgGo_append (x ++ _) y, sgGo_append (List.replicate 11 true) y, sgGo_ones 11 wat0 rfl, List.nil_append]
  congr 1
  refine SR.go y _ _ ?_
  have hW := watAt_wi x 0 wat0 wi0
  have h1 := off_all hW 30 (by omega)
  have h2 := off_keep 11 wat0 rfl
  obtain ⟨o1, t1⟩ := ones_rep 30 (watAt wat0 x)
  obtain ⟨o2, t2⟩ := ones_rep 11 wat0
  rw [watAt_append]
  refine ⟨by rw [h1, h2], ?_, .inr ?_, fun q => by rw [h2] at q; cases q⟩
  · rw [t1, t2, hW.tick]; show 0 + x.length + 30 = 0 + 11 + (x.length + 19); omega
  · rw [o1, o2]; omega
end Go.AM.R1
open Go Go.AM
namespace Go.AM.R1
/-! ### Rows behind one another -/
def ackN (n : Nat) : Bool := decide (n % 2 = 0)
def partB (p : Fr × Nat) : List Bool := List.replicate (3 + p.2) true ++ encodeP p.1 (ackN p.2)
def lvlsB (l : List (Fr × Nat)) : List Bool := l.flatMap partB
def wantB (off : Nat) : List (Fr × Nat) → List Sg
  | [] => []
  | p :: l => ⟨1, off + (3 + p.2), off + (3 + p.2) + (encodeP p.1 (ackN p.2)).length - 1, p.1, ackN p.2⟩ :: wantB (off + (partB p).length) l
theorem partB_length (p : Fr × Nat) : (partB p).length = 3 + p.2 + (encodeP p.1 (ackN p.2)).length := by
  unfold partB; rw [List.length_append, List.length_replicate]
theorem lvlsB_seen : ∀ (l : List (Fr × Nat)) (w : Wt), w.on = false → 8 ≤ w.ones → (∀ p ∈ l, p.1.Ok ∧ checkP p.1 = 0) → sgGo w (lvlsB l) = wantB w.tick l
  | [], _, _, _, _ => rfl
  | p :: l, w, hon, ho, hl => by
    obtain ⟨h1, h2⟩ := hl p (by simp)
    obtain ⟨o1, t1⟩ := ones_rep (3 + p.2) w
    have hon1 := off_keep (3 + p.2) w hon
    obtain ⟨w2, a1, a2, a3, a4⟩ := row_seen h1 h2 (ackN p.2) hon1 (by omega) (lvlsB l)
    have e : lvlsB (p :: l) = List.replicate (3 + p.2) true ++ (encodeP p.1 (ackN p.2) ++ lvlsB l) := by
      show partB p ++ lvlsB l = _
      unfold partB; rw [List.append_assoc]
    have ht : w2.tick = w.tick + (partB p).length := by rw [a3, t1, partB_length]; omega
    rw [e, sgGo_append, sgGo_ones _ w hon, List.nil_append, a4, lvlsB_seen l w2 a1 a2 (fun q hq => hl q (by simp [hq])), ht, t1]
    rfl
theorem lvlsB_all (l : List (Fr × Nat)) (hl : ∀ p ∈ l, p.1.Ok ∧ checkP p.1 = 0) : sgAll (List.replicate 8 true ++ lvlsB l) = wantB 8 l := by
  unfold sgAll
  obtain ⟨o1, t1⟩ := ones_rep 8 wat0
  rw [sgGo_append, sgGo_ones 8 wat0 rfl, List.nil_append, lvlsB_seen l _ (off_keep 8 wat0 rfl) (by rw [o1]; omega) hl, t1]
  rfl
theorem wantB_append : ∀ (l r : List (Fr × Nat)) (off : Nat), wantB off (l ++ r) = wantB off l ++ wantB (off + (lvlsB l).length) r
  | [], _, _ => rfl
  | p :: l, r, off => by
    rw [List.cons_append, wantB, wantB, wantB_append l r, List.cons_append]
    have : off + (partB p).length + (lvlsB l).length = off + (lvlsB (p :: l)).length := by
      show _ = off + (partB p ++ lvlsB l).length
      rw [List.length_append]; omega
    rw [this]
theorem wantB_frames : ∀ (l : List (Fr × Nat)) (off : Nat), frAll (wantB off l) = l.map (·.1)
  | [], _ => rfl
  | p :: l, off => by
    rw [wantB, List.map_cons, ← wantB_frames l (off + (partB p).length)]
    rfl
def nOf (x : Int) : Nat := ((x.tmod 20 + 20).tmod 20).toNat
theorem nOf_lt (x : Int) : nOf x < 20 := by
  unfold nOf
  have h1 := Int.tmod_lt_of_pos (x.tmod 20 + 20) (show (0 : Int) < 20 by decide)
  omega
theorem nOf_int (x : Int) : (nOf x : Int) = (x.tmod 20 + 20).tmod 20 := by
  unfold nOf
  have h1 : -20 < x.tmod 20 := by
    have := Int.lt_tmod_of_pos x (show (0 : Int) < 20 by decide)
    omega
  have h2 := Int.tmod_nonneg (20 : Int) (show (0 : Int) ≤ x.tmod 20 + 20 by omega)
  omega
theorem nOf_even (x : Int) : ((nOf x : Int).tmod 2 = 0) = (nOf x % 2 = 0) := by
  rw [Int.tmod_eq_emod_of_nonneg (by omega)]
  apply propext; omega
end Go.AM.R1
open Go Go.AM
namespace Go.AM.R1
/-! ### The rows are put together -/
theorem encodeP_len (f : Fr) (ack : Bool) : (encodeP f ack).length ≤ 246 := by
  obtain ⟨h1, h2⟩ := bitsP_length f
  have h3 := addS_len (sentP f) [] 0
  have h4 : (sentP f).length = (bitsP f).length + 15 := by unfold sentP; rw [List.length_append, bitsOf_length]
  rw [encodeP_parts, List.length_append]
  show (addS [] 0 (sentP f)).length + 10 ≤ 246
  simp only [List.length_nil] at h3
  omega
theorem partB_len (p : Fr × Nat) (h : p.2 < 20) : (partB p).length ≤ 268 := by
  have := encodeP_len p.1 (ackN p.2)
  rw [partB_length]; omega
theorem lvlsB_len : ∀ (l : List (Fr × Nat)), (∀ p ∈ l, p.2 < 20) → (lvlsB l).length ≤ 268 * l.length
  | [], _ => by simp [lvlsB]
  | p :: l, h => by
    have h1 := partB_len p (h p (by simp))
    have h2 := lvlsB_len l (fun q hq => h q (by simp [hq]))
    show (partB p ++ lvlsB l).length ≤ _
    rw [List.length_append, List.length_cons]; omega
theorem wantB_len : ∀ (l : List (Fr × Nat)) (off : Nat), (wantB off l).length = l.length
  | [], _ => rfl
  | p :: l, off => by rw [wantB, List.length_cons, wantB_len l, List.length_cons]
theorem encodeP_ne (f : Fr) (ack : Bool) : encodeP f ack ≠ [] := by rw [encodeP_parts]; simp
set_option maxHeartbeats 8000000 in
theorem back_step (fs : List Fr) (ms : List Int) (n1 f1 n2 f2 : Bool) (i : Nat) (hi : i < fs.length) (hi2 : i < ms.length) (h6 : fs.length ≤ 6) (hfo : (fs[i]).Ok) (L : List Bool) (hL : L ≠ []) (hLl : L.length ≤ 5000) (W : List Sg) (hW : W.length ≤ 100) (lq : Bool) (k : List Item) (Q : Option (AVal × Heap))
    (hbad : checkP fs[i] ≠ 0 → Q = some (.lit (.bool true), []))
    (ih : checkP fs[i] = 0 → finK 0 [.tmp 4] (run E 0 (.code L9_0 :: .inLoop [1000000, 0, 1, 5, 6, 7] L9_0 :: .inBlock 0 :: k) [(0, .imm n1 f1 true (fs.map encFr)), (1, .imm n2 f2 true (ms.map encI)), (5, .own 0 (L ++ partB (fs[i], nOf ms[i])).length 1 0 (L ++ partB (fs[i], nOf ms[i])).length), (6, .own 1 (W.length + 1) 16 0 (W.length + 1)), (7, .lit (.int .i64 ((i + 1 : Nat) : Int)))] [.arr true false false 1 ((L ++ partB (fs[i], nOf ms[i])).map encLv), .arr true false false 16 ((W ++ [(⟨1, L.length + (3 + nOf ms[i]), L.length + (3 + nOf ms[i]) + (encodeP fs[i] (ackN (nOf ms[i]))).length - 1, fs[i], ackN (nOf ms[i])⟩ : Sg)]).map encSg)]) = Q) :
    finK 0 [.tmp 4] (run E 0 (.code L9_0 :: .inLoop [1000000, 0, 1, 5, 6, 7] L9_0 :: .inBlock 0 :: k) [(0, .imm n1 f1 true (fs.map encFr)), (1, .imm n2 f2 true (ms.map encI)), (5, .own 0 L.length 1 0 L.length), (6, outV 1 W.length), (7, .lit (.int .i64 i))] (.arr true false false 1 (L.map encLv) :: outH W)) = Q := by
  have ha := awake19
  have wi := wrapIdx (i := i) (by omega)
  have hg1 := List.getElem?_eq_getElem hi
  have hg2 := List.getElem?_eq_getElem hi2
  generalize hf : fs[i] = f at *
  have hC := fcheck_spec f
  have hn := nOf_int ms[i]
  have hnl := nOf_lt ms[i]
  have hne := nOf_even ms[i]
  generalize hx : ms[i] = x at *
  have wn1 : IntKind.wrap .i64 (x.tmod 20) = x.tmod 20 := by
    have h1 := Int.lt_tmod_of_pos x (show (0 : Int) < 20 by decide)
    have h2 := Int.tmod_lt_of_pos x (show (0 : Int) < 20 by decide)
    exact wrap64 (by omega) (by omega)
  have wn2 : IntKind.wrap .i64 (x.tmod 20 + 20) = x.tmod 20 + 20 := by
    have h1 := Int.lt_tmod_of_pos x (show (0 : Int) < 20 by decide)
    have h2 := Int.tmod_lt_of_pos x (show (0 : Int) < 20 by decide)
    exact wrap64 (by omega) (by omega)
  have wn3 : IntKind.wrap .i64 ((x.tmod 20 + 20).tmod 20) = (nOf x : Int) := by rw [← hn, wrap64 (by omega) (by omega)]
  generalize nOf x = n at *
  have hn' : (x.tmod 20 + 20).tmod 20 = (n : Int) := hn.symm
  have hq1 : (encFr f).length = 12 := rfl
  have hq2 : (encFr f).take 12 = encFr f := rfl
  have hO := ones_spec (3 + n) (by omega)
  have w3 : IntKind.wrap .i64 (3 + (n : Int)) = ((3 + n : Nat) : Int) := by rw [wrap64 (by omega) (by omega)]; omega
  have wt : IntKind.wrap .i64 ((n : Int).tmod 2) = (n : Int).tmod 2 := by
    have h1 := Int.lt_tmod_of_pos (n : Int) (show (0 : Int) < 2 by decide)
    have h2 := Int.tmod_lt_of_pos (n : Int) (show (0 : Int) < 2 by decide)
    exact wrap64 (by omega) (by omega)
  by_cases hc : checkP f = 0
  · have ih := ih hc
    have hE := encode_spec f hfo hc (ackN n)
    have hak : ackN n = decide (n % 2 = 0) := rfl
    have hEl := encodeP_len f (ackN n)
    have hEn := encodeP_ne f (ackN n)
    have hrE := rowsLv (encodeP f (ackN n))
    have hrO := rowsLv (List.replicate (3 + n) true)
    have hrL := rowsLv L
    have hpb : partB (f, n) = List.replicate (3 + n) true ++ encodeP f (ackN n) := rfl
    rw [hpb] at ih
    have hOl : ((List.replicate (3 + n) true).map encLv).length = 3 + n := by simp
    have hEm : ((encodeP f (ackN n)).map encLv).length = (encodeP f (ackN n)).length := by simp
    have hLm : (L.map encLv).length = L.length := by simp
    have hWm : (W.map encSg).length = W.length := by simp
    have hEz : ¬ (encodeP f (ackN n)).length = 0 := by have := List.length_pos_iff.2 hEn; omega
    have hLz : ¬ L.length = 0 := by have := List.length_pos_iff.2 hL; omega
    have h3z : ¬ 3 + n = 0 := by omega
    have hrn : ¬ List.replicate (3 + n) true = [] := by intro q; have := congrArg List.length q; simp at this
    have hrW := rowsSg W
    simp only [lvV, lvH, h3z, hrn, if_false] at hO
    simp only [hak] at ih hE hEl hEn hrE hEm hEz
    simp only [List.map_append, List.length_append, List.length_replicate, List.map_cons, List.map_nil] at ih
    have hrL2 : rowsOk 1 (L.map encLv ++ (List.replicate (3 + n) true).map encLv) = true := by rw [← List.map_append]; exact rowsLv _
    generalize (encodeP f (decide (n % 2 = 0))).length = el at *
    generalize (encodeP f (decide (n % 2 = 0))).map encLv = EB at *
    generalize (List.replicate (3 + n) true).map encLv = OB at *
    generalize L.map encLv = LB at *
    have hs1 : ¬ 70368744177664 < (L.length + (3 + n)) * 8 := by omega
    have hs2 : ¬ 70368744177664 < (L.length + (3 + n) + el) * 8 := by omega
    have hs3 : ¬ 70368744177664 < (W.length + 1) * 64 := by omega
    have v1 : IntKind.wrap .i64 (((L.length + (3 + n) : Nat) : Int) + (el : Int)) = ((L.length + (3 + n) + el : Nat) : Int) := by rw [wrap64 (by omega) (by omega)]; omega
    have v2 : IntKind.wrap .i64 (((L.length + (3 + n) + el : Nat) : Int) - 1) = ((L.length + (3 + n) + el - 1 : Nat) : Int) := by rw [wrap64 (by omega) (by omega)]; omega
    have hadd : L.length + (3 + n + el) = L.length + (3 + n) + el := by omega
    rw [hadd] at ih
    have hll : (LB ++ OB).length = L.length + (3 + n) := by rw [List.length_append, hLm, hOl]
    generalize 3 + n = k3 at *
    generalize hLk : L.length + k3 = ll1 at *
    generalize hLe : ll1 + el = ll2 at *
    generalize hLt : ll2 - 1 = to1 at *
    simp only [encFr_eq, encSg, u8v, nilS] at hE hC ih
    simp at ih wi
    have hr16 : ∀ cs : List AVal, cs.length = 16 → rowsOk 16 [cs] = true := fun cs h => by simp [rowsOk, h]
    by_cases hw : W = []
    · subst hw
      simp at ih
      simp [go_sem, run_codeL E L9_0.eq_1, hi, hi2, hg1, hg2, hf, hx, encI, hE, hC, hc, ha, wn1, wn2, wn3, hn', wt, hne, w3, hO, wi, hOl, hEm, hLm, hll, hEz, hLz, h3z, hEn, hrn, hL, hrE, hrO, hrL, hrL2, hs1, hs2, hs3, v1, v2, hLk, hLe, hr16, encFr_eq, u8v, outV, outH, nilS, purse_eq, List.range_succ]
      rw [run_inLoop']
      simp [go_sem, purse_eq, List.range_succ]
      exact ih
    · have hwz : ¬ W.length = 0 := by have := List.length_pos_iff.2 hw; omega
      simp [go_sem, run_codeL E L9_0.eq_1, hi, hi2, hg1, hg2, hf, hx, encI, hE, hC, hc, ha, wn1, wn2, wn3, hn', wt, hne, w3, hO, wi, hOl, hEm, hLm, hll, hEz, hLz, h3z, hEn, hrn, hL, hrE, hrO, hrL, hrL2, hs1, hs2, hs3, v1, v2, hLk, hLe, hr16, hw, hwz, hrW, hWm, encFr_eq, u8v, outV, outH, nilS, purse_eq, List.range_succ]
      rw [run_inLoop']
      simp [go_sem, purse_eq, List.range_succ]
      exact ih
  · rw [hbad hc]
    have hE := encode_err f hc (decide (n % 2 = 0))
    generalize checkP f = c at *
    simp only [encFr_eq, u8v, nilS] at hE hC
    by_cases hw : W = []
    · subst hw
      simp [go_sem, run_codeL E L9_0.eq_1, hi, hi2, hg1, hg2, hf, hx, encI, hE, hC, hc, ha, wn1, wn2, wn3, hn', wt, hne, encFr_eq, u8v, outV, outH, nilS, purse_eq, List.range_succ]
    · have hwz : ¬ W.length = 0 := by have := List.length_pos_iff.2 hw; omega
      simp [go_sem, run_codeL E L9_0.eq_1, hi, hi2, hg1, hg2, hf, hx, encI, hE, hC, hc, ha, wn1, wn2, wn3, hn', wt, hne, encFr_eq, u8v, outV, outH, hw, hwz, nilS, purse_eq, List.range_succ]
end Go.AM.R1
open Go Go.AM
namespace Go.AM.R1
def zipN (fs : List Fr) (ms : List Int) : List (Fr × Nat) := fs.zip (ms.map nOf)
theorem zipN_take (fs : List Fr) (ms : List Int) (i : Nat) (hi : i < fs.length) (hi2 : i < ms.length) : (zipN fs ms).take (i + 1) = (zipN fs ms).take i ++ [(fs[i], nOf ms[i])] := by
  have hl : i < (zipN fs ms).length := by unfold zipN; rw [List.length_zip, List.length_map]; omega
  rw [List.take_succ_eq_append_getElem hl]
  congr 2
  simp [zipN]
theorem back_loop (fs : List Fr) (ms : List Int) (n1 f1 n2 f2 : Bool) (hlen : fs.length ≤ ms.length) (h6 : fs.length ≤ 6) (hfo : ∀ f ∈ fs, f.Ok) (k : List Item) (Q : Option (AVal × Heap))
    (hbad : (∃ f ∈ fs, checkP f ≠ 0) → Q = some (.lit (.bool true), []))
    (hk : (∀ f ∈ fs, checkP f = 0) → ∀ τ, lk 0 τ = .imm n1 f1 true (fs.map encFr) → lk 5 τ = .own 0 (List.replicate 8 true ++ lvlsB (zipN fs ms)).length 1 0 (List.replicate 8 true ++ lvlsB (zipN fs ms)).length → lk 6 τ = outV 1 (wantB 8 (zipN fs ms)).length → finK 0 [.tmp 4] (run E 0 k τ (.arr true false false 1 ((List.replicate 8 true ++ lvlsB (zipN fs ms)).map encLv) :: outH (wantB 8 (zipN fs ms)))) = Q) :
    ∀ (d i : Nat), i + d = fs.length → (∀ (j : Nat) (h : j < fs.length), j < i → checkP fs[j] = 0) →
    finK 0 [.tmp 4] (run E 0 (.code L9_0 :: .inLoop [1000000, 0, 1, 5, 6, 7] L9_0 :: .inBlock 0 :: k) [(0, .imm n1 f1 true (fs.map encFr)), (1, .imm n2 f2 true (ms.map encI)), (5, .own 0 (List.replicate 8 true ++ lvlsB ((zipN fs ms).take i)).length 1 0 (List.replicate 8 true ++ lvlsB ((zipN fs ms).take i)).length), (6, outV 1 (wantB 8 ((zipN fs ms).take i)).length), (7, .lit (.int .i64 i))] (.arr true false false 1 ((List.replicate 8 true ++ lvlsB ((zipN fs ms).take i)).map encLv) :: outH (wantB 8 ((zipN fs ms).take i)))) = Q := by
  have hzl : (zipN fs ms).length = fs.length := by unfold zipN; rw [List.length_zip, List.length_map]; omega
  intro d
  induction d with
  | zero =>
    intro i hi hok
    have : i = fs.length := by omega
    subst this
    rw [← hzl, List.take_length, hzl]
    have hk := hk (fun f hf => by obtain ⟨j, hj, rfl⟩ := List.getElem_of_mem hf; exact hok j hj hj)
    generalize List.replicate 8 true ++ lvlsB (zipN fs ms) = L at *
    generalize wantB 8 (zipN fs ms) = W at *
    simp [go_sem, run_codeL E L9_0.eq_1]
    exact hk _ rfl rfl rfl
  | succ d ih =>
    intro i hi hok
    have hlt : i < fs.length := by omega
    have hlt2 : i < ms.length := by omega
    have hnl : ∀ p ∈ (zipN fs ms).take i, p.2 < 20 := by
      intro p hp
      have hp := List.mem_of_mem_take hp
      unfold zipN at hp
      have := (List.of_mem_zip hp).2
      obtain ⟨x, -, e⟩ := List.mem_map.1 this
      rw [← e]; exact nOf_lt x
    have hl1 := lvlsB_len ((zipN fs ms).take i) hnl
    have hl2 : ((zipN fs ms).take i).length = i := by rw [List.length_take, hzl]; omega
    have hw := wantB_len ((zipN fs ms).take i) 8
    refine back_step fs ms n1 f1 n2 f2 i hlt hlt2 h6 (hfo _ (List.getElem_mem _)) (List.replicate 8 true ++ lvlsB ((zipN fs ms).take i)) (by simp) (by rw [List.length_append, List.length_replicate]; omega) (wantB 8 ((zipN fs ms).take i)) (by omega) false k Q (fun h => hbad ⟨_, List.getElem_mem _, h⟩) ?_
    intro hc
    have ih2 := ih (i + 1) (by omega) (fun j hj hji => by
      by_cases q : j = i
      · subst q; exact hc
      · exact hok j hj (by omega))
    rw [zipN_take fs ms i hlt hlt2, wantB_append] at ih2
    have e1 : List.replicate 8 true ++ lvlsB ((zipN fs ms).take i ++ [(fs[i], nOf ms[i])]) = (List.replicate 8 true ++ lvlsB ((zipN fs ms).take i)) ++ partB (fs[i], nOf ms[i]) := by
      unfold lvlsB; simp
    have e2 : 8 + (lvlsB ((zipN fs ms).take i)).length = (List.replicate 8 true ++ lvlsB ((zipN fs ms).take i)).length := by rw [List.length_append, List.length_replicate]
    rw [e1, e2] at ih2
    have hwn : wantB 8 ((zipN fs ms).take i) ++ wantB (List.replicate 8 true ++ lvlsB ((zipN fs ms).take i)).length [(fs[i], nOf ms[i])] ≠ [] := by simp [wantB]
    have hwl : (wantB 8 ((zipN fs ms).take i) ++ wantB (List.replicate 8 true ++ lvlsB ((zipN fs ms).take i)).length [(fs[i], nOf ms[i])]).length = (wantB 8 ((zipN fs ms).take i)).length + 1 := by simp [wantB]
    simp only [outV, outH, hwn, hwl, if_false, show ¬ ((wantB 8 ((zipN fs ms).take i)).length + 1 = 0) from by omega] at ih2
    exact ih2
theorem back_cmp (fs : List Fr) (hf0 : fs ≠ []) (W : List Sg) (hW : W ≠ []) (hWl : W.length = fs.length) (h6 : fs.length ≤ 6) (n1 f1 : Bool) (l1 l2 l3 : Bool) (k : List Item) (Q : Option (AVal × Heap))
    (hk : ∀ τ, lk 6 τ = .own 0 W.length 16 0 W.length → lk 11 τ = .own 1 W.length 16 0 W.length → finK 0 [.tmp 4] (run E 0 k τ [.arr true l1 false 16 (W.map encSg), .arr true l2 false 16 (W.map encSg), .arr true l3 false 12 (fs.map encFr)]) = Q) :
    ∀ (d i : Nat), i + d = fs.length →
    finK 0 [.tmp 4] (run E 0 (.code L9_1 :: .inLoop [1000000, 0, 6, 11, 13, 15] L9_1 :: .inBlock 2 :: k) [(0, .imm n1 f1 true (fs.map encFr)), (6, .own 0 W.length 16 0 W.length), (11, .own 1 W.length 16 0 W.length), (13, .own 2 fs.length 12 0 fs.length), (15, .lit (.int .i64 i))] [.arr true l1 false 16 (W.map encSg), .arr true l2 false 16 (W.map encSg), .arr true l3 false 12 (fs.map encFr)]) = Q := by
  intro d
  induction d with
  | zero =>
    intro i hi
    have : i = fs.length := by omega
    subst this
    simp [go_sem, run_codeL E L9_1.eq_1]
    exact hk _ rfl rfl
  | succ d ih =>
    intro i hi
    have hlt : i < fs.length := by omega
    have ih2 := ih (i + 1) (by omega)
    have wi := wrapIdx (i := i) (by omega)
    have hg := List.getElem?_eq_getElem hlt
    simp at ih2 wi
    simp [go_sem, run_codeL E L9_1.eq_1, hlt, hg, wi, encFr_eq, u8v, purse_eq, List.range_succ]
    rw [run_inLoop']
    simp [go_sem, purse_eq, List.range_succ]
    exact ih2
set_option maxHeartbeats 4000000 in
theorem watchBack_spec (fs : List Fr) (ms : List Int) (hfo : ∀ f ∈ fs, f.Ok) (n1 f1 n2 f2 : Bool) :
    call E (.func (.func 9) [] []) [.imm n1 f1 true (fs.map encFr), .imm n2 f2 true (ms.map encI)] [] = some (.lit (.bool true), []) := by
  rw [call_func E E9]
  have ha := awake19
  by_cases h6 : (6 : Int) < fs.length
  · simp [go_sem, ir9, ha, h6, purse_eq, List.range_succ]
  · by_cases hlm : (ms.length : Int) < fs.length
    · have hlm2 : ms.length < fs.length := by omega
      simp [go_sem, ir9, ha, h6, hlm, hlm2, purse_eq, List.range_succ]
    · have hlm2 : ¬ ms.length < fs.length := by omega
      have hO := ones_spec 8 (by omega)
      simp only [lvV, lvH, show ¬ (8 = 0) from by decide, show ¬ List.replicate 8 true = [] from by decide, if_false, show ((8 : Nat) : Int) = 8 from rfl] at hO
      have hzl : (zipN fs ms).length = fs.length := by unfold zipN; rw [List.length_zip, List.length_map]; omega
      have hloop := fun k hbad hk => back_loop fs ms n1 f1 n2 f2 (by omega) (by omega) hfo k (some (.lit (.bool true), [])) hbad hk fs.length 0 (by omega) (fun j _ h => absurd h (by omega))
      have hnl : ∀ p ∈ zipN fs ms, p.2 < 20 := by
        intro p hp
        unfold zipN at hp
        have := (List.of_mem_zip hp).2
        obtain ⟨x, -, e⟩ := List.mem_map.1 this
        rw [← e]; exact nOf_lt x
      have hll := lvlsB_len (zipN fs ms) hnl
      have hLl : (List.replicate 8 true ++ lvlsB (zipN fs ms)).length ≤ 5000 := by rw [List.length_append, List.length_replicate]; omega
      have hwl : (wantB 8 (zipN fs ms)).length = fs.length := by rw [wantB_len, hzl]
      have hfr : frAll (wantB 8 (zipN fs ms)) = fs := by
        rw [wantB_frames]; unfold zipN
        exact List.map_fst_zip (by rw [List.length_map]; omega)
      have hall : (∀ f ∈ fs, checkP f = 0) → sgAll (List.replicate 8 true ++ lvlsB (zipN fs ms)) = wantB 8 (zipN fs ms) := by
        intro hc
        refine lvlsB_all _ ?_
        intro p hp
        have := (List.of_mem_zip hp).1
        exact ⟨hfo _ this, hc _ this⟩
      have hA := fun nl fu => wall_spec (List.replicate 8 true ++ lvlsB (zipN fs ms)) (by omega) nl fu
      have hF := fun nl fu => wfr_spec (List.replicate 8 true ++ lvlsB (zipN fs ms)) (by omega) nl fu
      rw [List.take_zero, show lvlsB [] = [] from rfl, List.append_nil, show wantB 8 [] = [] from rfl, show (List.replicate 8 true).length = 8 from rfl] at hloop
      generalize (List.replicate 8 true).map encLv = R8 at *
      have hrL := rowsLv (List.replicate 8 true ++ lvlsB (zipN fs ms))
      have hLm : ((List.replicate 8 true ++ lvlsB (zipN fs ms)).map encLv).length = (List.replicate 8 true ++ lvlsB (zipN fs ms)).length := by simp
      generalize List.replicate 8 true ++ lvlsB (zipN fs ms) = L at *
      generalize wantB 8 (zipN fs ms) = W at *
      have hS := fun a b c d => sights_spec W W (by omega) a b c d
      simp only [decide_true] at hS
      simp only [List.length_nil, outV, outH, if_true, nilS, Int.natCast_zero] at hloop
      simp [go_sem, ir9, ha, h6, hlm, hlm2, hO, nilS, purse_eq, List.range_succ]
      rw [run_inLoop']
      simp [go_sem, purse_eq, List.range_succ]
      refine hloop _ ?_ ?_
      · simp
      intro hc τ t0 t5 t6
      have hall := hall hc
      rw [hall] at hA hF
      rw [hfr] at hF
      by_cases hf0 : fs = []
      · subst hf0
        have hW0 : W = [] := List.length_eq_zero_iff.1 (by rw [hwl]; rfl)
        subst hW0
        simp [outV, outH, frV, frH, nilS] at hA hF t0 t6
        simp at hS
        simp [go_sem, t0, t5, t6, hA, hF, hLm, ha, hS, nilS, purse_eq, List.range_succ]
        rw [run_inLoop']
        simp [go_sem, run_codeL E L9_1.eq_1, t0, t5, t6, hS, ha, nilS, purse_eq, List.range_succ]
      · have hfz : ¬ fs.length = 0 := by have := List.length_pos_iff.2 hf0; omega
        have hW0 : W ≠ [] := by intro q; rw [q] at hwl; exact hfz (by rw [← hwl]; rfl)
        have hWz : ¬ W.length = 0 := by omega
        simp only [outV, outH, frV, frH, hf0, hfz, hW0, hWz, if_false] at hA hF t6 ⊢
        have hcmp := fun l1 l2 l3 k hk => back_cmp fs hf0 W hW0 hwl (by omega) n1 f1 l1 l2 l3 k (some (.lit (.bool true), [])) hk fs.length 0 (by omega)
        simp only [Int.natCast_zero] at hcmp
        simp [go_sem, t0, t5, t6, hA, hF, hLm, ha, nilS, purse_eq, List.range_succ]
        rw [run_inLoop']
        simp [go_sem, t0, t5, t6, purse_eq, List.range_succ]
        refine hcmp _ _ _ _ ?_
        intro τ2 u6 u11
        simp [go_sem, u6, u11, hS, ha, purse_eq, List.range_succ]
end Go.AM.R1
open Go Go.AM Go.Proofs
namespace Go.AM.R1

section
variable {H : Type} {P : Program}
theorem decV_int {n : Nat} {t : TypeId} {ik : IntKind} (hu : P.underlying t = some (.int ik)) {d : DataW H} {a : AVal} (h : DecV P (n + 1) t d a) :
    ∃ v, d = .lit (.int ik v) ∧ (Lit.int ik v).wf = true ∧ a = .lit (.int ik v) := by
  unfold DecV at h
  rw [if_neg (by simp [isAggT, hu])] at h
  simp only [Dec, hu] at h
  obtain ⟨v, h1, h2, h3⟩ := h
  exact ⟨v, h1, h2, by simpa using h3⟩
theorem all2_forall {α β : Type} {R : α → β → Prop} {Q : β → Prop} (h : ∀ a b, R a b → Q b) : ∀ {l : List α} {m : List β}, All2 R l m → ∀ b ∈ m, Q b
  | [], [], _, b, hb => by cases hb
  | [], _ :: _, h', _, _ => h'.elim
  | _ :: _, [], h', _, _ => h'.elim
  | a :: r, c :: s, h', b, hb => by
    rcases List.mem_cons.1 hb with rfl | hb
    · exact h _ _ h'.1
    · exact all2_forall h h'.2 b hb
theorem all2_length {α β : Type} {R : α → β → Prop} : ∀ {l : List α} {m : List β}, All2 R l m → l.length = m.length
  | [], [], _ => rfl
  | [], _ :: _, h' => h'.elim
  | _ :: _, [], h' => h'.elim
  | a :: r, c :: s, h' => by simp [all2_length h'.2]
/-- Rows that are all of a form. -/
theorem rows_map {α : Type} (f : α → List AVal) (Q : α → Prop) : ∀ {rows : List (List AVal)}, (∀ r ∈ rows, ∃ x, r = f x ∧ Q x) → ∃ l : List α, rows = l.map f ∧ ∀ x ∈ l, Q x
  | [], _ => ⟨[], rfl, by simp⟩
  | r :: s, h => by
    obtain ⟨x, hx, hq⟩ := h r (by simp)
    obtain ⟨l, hl, hl2⟩ := rows_map f Q (rows := s) fun y hy => h y (by simp [hy])
    exact ⟨x :: l, by rw [hx, hl]; rfl, fun y hy => by rcases List.mem_cons.1 hy with rfl | hy <;> simp_all⟩

theorem wf64 {v : Int} (h : (Lit.int .i64 v).wf = true) : -9223372036854775808 ≤ v ∧ v ≤ 9223372036854775807 := by
  simpa [Lit.wf, IntKind.min, IntKind.max, IntKind.signed, IntKind.bits] using h
theorem wfu32 {v : Int} (h : (Lit.int .u32 v).wf = true) : 0 ≤ v ∧ v ≤ 4294967295 := by
  simpa [Lit.wf, IntKind.min, IntKind.max, IntKind.signed, IntKind.bits] using h

theorem fieldsR_cons {α β : Type} {R : TypeId → α → β → Prop} {f : Field} {fs : List Field} : ∀ {l : List α} {m : List β}, FieldsR R (f :: fs) l m → ∃ a r b s, l = a :: r ∧ m = b :: s ∧ R f.type a b ∧ FieldsR R fs r s
  | [], _, h => h.elim
  | _ :: _, [], h => h.elim
  | a :: r, b :: s, h => ⟨a, r, b, s, rfl, rfl, h.1, h.2⟩
theorem fieldsR_nil {α β : Type} {R : TypeId → α → β → Prop} : ∀ {l : List α} {m : List β}, FieldsR R [] l m → l = [] ∧ m = []
  | [], [], _ => ⟨rfl, rfl⟩
  | [], _ :: _, h => h.elim
  | _ :: _, _, h => h.elim
theorem decArgs_cons {k : Nat} {t : TypeId} {ts : List TypeId} : ∀ {ds : List (DataW H)} {cs : List AVal}, DecArgs P k (t :: ts) ds cs → ∃ d r b s, ds = d :: r ∧ cs = b :: s ∧ DecV P k t d b ∧ DecArgs P k ts r s
  | [], _, h => h.elim
  | _ :: _, [], h => h.elim
  | d :: r, b :: s, h => ⟨d, r, b, s, rfl, rfl, h.1, h.2⟩
theorem decArgs_nil {k : Nat} : ∀ {ds : List (DataW H)} {cs : List AVal}, DecArgs P k [] ds cs → ds = [] ∧ cs = []
  | [], [], _ => ⟨rfl, rfl⟩
  | [], _ :: _, h => h.elim
  | _ :: _, _, h => h.elim
structure IsRun (P : Program) (t : TypeId) where
  f1 : Field
  f2 : Field
  f3 : Field
  hu : P.underlying t = some (.struct #[f1, f2, f3])
  h1 : P.underlying f1.type = some (.int .i64)
  h2 : P.underlying f2.type = some (.int .i64)
  h3 : P.underlying f3.type = some (.int .u32)
def Run.Fit (r : Run) : Prop := (-9223372036854775808 ≤ r.N ∧ r.N ≤ 9223372036854775807) ∧ (-9223372036854775808 ≤ r.Bus ∧ r.Bus ≤ 9223372036854775807) ∧ (0 ≤ r.Drive ∧ r.Drive ≤ 4294967295)
theorem dec_run {n : Nat} {t : TypeId} (i : IsRun P t) {d : DataW H} {cs : List AVal} (h : Dec P (n + 2) t d cs) : ∃ r : Run, cs = encRun r ∧ r.Fit := by
  simp only [Dec, i.hu] at h
  obtain ⟨parts, ass, -, rfl, hf⟩ := h
  obtain ⟨p1, ps1, a1, as1, rfl, rfl, r1, hf⟩ := fieldsR_cons hf
  obtain ⟨p2, ps2, a2, as2, rfl, rfl, r2, hf⟩ := fieldsR_cons hf
  obtain ⟨p3, ps3, a3, as3, rfl, rfl, r3, hf⟩ := fieldsR_cons hf
  obtain ⟨rfl, rfl⟩ := fieldsR_nil hf
  simp only [Dec, i.h1, i.h2, i.h3] at r1 r2 r3
  obtain ⟨v1, -, w1, rfl⟩ := r1
  obtain ⟨v2, -, w2, rfl⟩ := r2
  obtain ⟨v3, -, w3, rfl⟩ := r3
  exact ⟨⟨v1, v2, v3⟩, rfl, wf64 w1, wf64 w2, wfu32 w3⟩
theorem dec_runs {n : Nat} {t e : TypeId} (hu : P.underlying t = some (.slice e)) (i : IsRun P e) {d : DataW H} {a : AVal} (h : DecV P (n + 3) t d a) :
    ∃ (nl fu : Bool) (l : List Run), a = .imm nl fu true (l.map encRun) ∧ ∀ r ∈ l, r.Fit := by
  unfold DecV at h
  rw [if_neg (by simp [isAggT, hu])] at h
  rw [Dec, hu] at h
  rcases h with ⟨-, h⟩ | ⟨elems, spare, rows, -, h, h2, h3⟩
  · exact ⟨true, true, [], by simpa [nilS] using h, by simp⟩
  · obtain ⟨l, rfl, hl⟩ := rows_map encRun Run.Fit (all2_forall (Q := fun b => ∃ r : Run, b = encRun r ∧ r.Fit) (fun a b hab => dec_run i hab) h2)
    exact ⟨false, false, l, by simpa using h, hl⟩
theorem all2_flat {α : Type} (f : α → List AVal) (Q : α → Prop) {R : DataW H → List AVal → Prop} (h : ∀ d a, R d a → ∃ x, a = f x ∧ Q x) :
    ∀ {ds : List (DataW H)} {ass : List (List AVal)}, All2 R ds ass → ∃ l : List α, l.length = ds.length ∧ ass = l.map f ∧ ∀ x ∈ l, Q x
  | [], [], _ => ⟨[], rfl, rfl, by simp⟩
  | [], _ :: _, h' => h'.elim
  | _ :: _, [], h' => h'.elim
  | d :: ds, a :: ass, h' => by
    obtain ⟨x, hx, hq⟩ := h _ _ h'.1
    obtain ⟨l, h1, h2, h3⟩ := all2_flat f Q h h'.2
    exact ⟨x :: l, by simp [h1], by rw [hx, h2]; rfl, fun y hy => by rcases List.mem_cons.1 hy with rfl | hy <;> simp_all⟩
theorem decV_ints {n m : Nat} {t e : TypeId} {ik : IntKind} (hu : P.underlying t = some (.array m e)) (he : P.underlying e = some (.int ik)) {d : DataW H} {a : AVal} (h : DecV P (n + 2) t d a) :
    ∃ l : List Int, l.length = m ∧ a = .agg (l.map fun v => .lit (.int ik v)) ∧ ∀ v ∈ l, (Lit.int ik v).wf = true := by
  unfold DecV at h
  rw [if_pos (by simp [isAggT, hu])] at h
  obtain ⟨cs, rfl, h⟩ := h
  rw [Dec, hu] at h
  obtain ⟨parts, ass, -, rfl, hm, h2⟩ := h
  obtain ⟨l, h3, rfl, h5⟩ := all2_flat (fun v => [AVal.lit (.int ik v)]) (fun v => (Lit.int ik v).wf = true) (fun d a hda => by
    simp only [Dec, he] at hda
    obtain ⟨v, -, hw, rfl⟩ := hda
    exact ⟨v, rfl, hw⟩) h2
  refine ⟨l, by omega, ?_, h5⟩
  congr 1
  clear h5 h3 h2
  induction l with
  | nil => rfl
  | cons x r ih => simp [ih]
end
end Go.AM.R1
open Go Go.AM Go.Proofs
namespace Go.AM.R1
section
variable {H : Type} {P : Program}
theorem dec_runs' {n : Nat} {t e : TypeId} (hu : P.underlying t = some (.slice e)) (i : IsRun P e) {d : DataW H} {cs : List AVal} (h : Dec P (n + 3) t d cs) :
    ∃ (nl fu : Bool) (l : List Run), cs = [.imm nl fu true (l.map encRun)] ∧ ∀ r ∈ l, r.Fit := by
  rw [Dec, hu] at h
  rcases h with ⟨-, h⟩ | ⟨elems, spare, rows, -, h, h2, h3⟩
  · exact ⟨true, true, [], by simpa [nilS] using h, by simp⟩
  · obtain ⟨l, rfl, hl⟩ := rows_map encRun Run.Fit (all2_forall (Q := fun b => ∃ r : Run, b = encRun r ∧ r.Fit) (fun a b hab => dec_run i hab) h2)
    exact ⟨false, false, l, h, hl⟩
theorem decV_block {n : Nat} {t e : TypeId} {f1 f2 : Field} (hu : P.underlying t = some (.struct #[f1, f2])) (h1 : P.underlying f1.type = some (.int .i64)) (h2 : P.underlying f2.type = some (.slice e)) (i : IsRun P e)
    {d : DataW H} {a : AVal} (h : DecV P (n + 4) t d a) : ∃ (first : Int) (nl fu : Bool) (l : List Run), a = .agg (encBlk first l nl fu) ∧ (Lit.int .i64 first).wf = true ∧ ∀ r ∈ l, r.Fit := by
  unfold DecV at h
  rw [if_pos (by simp [isAggT, hu])] at h
  obtain ⟨cs, rfl, h⟩ := h
  rw [Dec, hu] at h
  obtain ⟨parts, ass, -, rfl, hf⟩ := h
  obtain ⟨p1, ps1, a1, as1, rfl, rfl, r1, hf⟩ := fieldsR_cons hf
  obtain ⟨p2, ps2, a2, as2, rfl, rfl, r2, hf⟩ := fieldsR_cons hf
  obtain ⟨rfl, rfl⟩ := fieldsR_nil hf
  simp only [Dec, h1] at r1
  obtain ⟨v1, -, w1, rfl⟩ := r1
  obtain ⟨nl, fu, l, rfl, hl⟩ := dec_runs' h2 i r2
  exact ⟨v1, nl, fu, l, rfl, w1, hl⟩
/-- Bytes. -/
theorem decV_bytes {n : Nat} {t e : TypeId} (hu : P.underlying t = some (.slice e)) (he : P.underlying e = some (.int .u8)) {d : DataW H} {a : AVal} (h : DecV P (n + 2) t d a) :
    ∃ (nl fu : Bool) (l : List Nat), a = .imm nl fu true (l.map encB) ∧ (nl = false ∨ l = []) ∧ ∀ c ∈ l, c < 256 := by
  unfold DecV at h
  rw [if_neg (by simp [isAggT, hu])] at h
  rw [Dec, hu] at h
  rcases h with ⟨-, h⟩ | ⟨elems, spare, rows, -, h, h2, h3⟩
  · exact ⟨true, true, [], by simpa [nilS] using h, .inr rfl, by simp⟩
  · obtain ⟨l, rfl, hl⟩ := rows_map encB (fun c => c < 256) (all2_forall (Q := fun b => ∃ c : Nat, b = encB c ∧ c < 256) (fun a b hab => by
      simp only [Dec, he] at hab
      obtain ⟨v, -, hw, rfl⟩ := hab
      have hv : 0 ≤ v ∧ v ≤ 255 := by simpa [Lit.wf, IntKind.min, IntKind.max, IntKind.signed, IntKind.bits] using hw
      refine ⟨v.toNat, ?_, by omega⟩
      unfold encB
      rw [show ((v.toNat : Nat) : Int) = v from by omega]) h2)
    exact ⟨false, false, l, by simpa using h, .inl rfl, hl⟩
end
end Go.AM.R1
open Go Go.AM
namespace Go.AM.R1

/-! ### Scripts -/
def encScr (node first : Int) (l : List Run) (nl fu : Bool) : List AVal := [.lit (.int .i64 node), .lit (.int .i64 first), .imm nl fu true (l.map encRun)]
def okR (r : Run) : Bool := decide (1 ≤ r.N) && decide (r.N ≤ 1073741824) && (decide (0 ≤ r.Bus) && decide (r.Bus ≤ 1))
def okP (node first : Int) : Bool := decide (0 ≤ node) && decide (node ≤ 31) && (decide (0 ≤ first) && decide (first ≤ 1073741824))
/-- How a script is wrong. -/
def chkS (node first : Int) (l : List Run) : Int := if okP node first = true ∧ l.all okR = true then (if 1073741824 < sumN l then 12 else 0) else 10
theorem okR_N {r : Run} (h : okR r = true) : (1 ≤ r.N ∧ r.N ≤ 1073741824) ∧ (0 ≤ r.Bus ∧ r.Bus ≤ 1) := by
  simp [okR] at h; omega
/-- The place of the first one that is so. -/
def findI {α : Type} (p : α → Bool) : Nat → List α → Int
  | _, [] => -1
  | i, r :: l => if p r = true then (i : Int) else findI p (i + 1) l
theorem findI_ge {α : Type} (p : α → Bool) : ∀ (l : List α) (i : Nat), (decide ((0 : Int) ≤ findI p i l)) = l.any p
  | [], i => by simp [findI]
  | r :: l, i => by
    rw [findI, List.any_cons]
    cases hp : p r with
    | true => simp
    | false => simp [findI_ge p l]
theorem any_not {α : Type} (p : α → Bool) (l : List α) : (l.any fun x => !p x) = !(l.all p) := by
  induction l with
  | nil => rfl
  | cons x r ih => simp [List.any_cons, List.all_cons, ih, Bool.not_and]
end Go.AM.R1
open Go Go.AM Go.Proofs
namespace Go.AM.R1
section
variable {H : Type} {P : Program}
structure IsScr (P : Program) (t : TypeId) where
  f1 : Field
  f2 : Field
  f3 : Field
  e : TypeId
  hu : P.underlying t = some (.struct #[f1, f2, f3])
  h1 : P.underlying f1.type = some (.int .i64)
  h2 : P.underlying f2.type = some (.int .i64)
  h3 : P.underlying f3.type = some (.slice e)
  i : IsRun P e
structure Scr where
  node : Int
  first : Int
  runs : List Run
  nl : Bool
  fu : Bool
def encS (s : Scr) : List AVal := encScr s.node s.first s.runs s.nl s.fu
def Scr.Fit (s : Scr) : Prop := (-9223372036854775808 ≤ s.node ∧ s.node ≤ 9223372036854775807) ∧ (-9223372036854775808 ≤ s.first ∧ s.first ≤ 9223372036854775807) ∧ ∀ r ∈ s.runs, r.Fit
theorem dec_scr {n : Nat} {t : TypeId} (i : IsScr P t) {d : DataW H} {cs : List AVal} (h : Dec P (n + 4) t d cs) : ∃ s : Scr, cs = encS s ∧ s.Fit := by
  rw [Dec, i.hu] at h
  obtain ⟨parts, ass, -, rfl, hf⟩ := h
  obtain ⟨p1, ps1, a1, as1, rfl, rfl, r1, hf⟩ := fieldsR_cons hf
  obtain ⟨p2, ps2, a2, as2, rfl, rfl, r2, hf⟩ := fieldsR_cons hf
  obtain ⟨p3, ps3, a3, as3, rfl, rfl, r3, hf⟩ := fieldsR_cons hf
  obtain ⟨rfl, rfl⟩ := fieldsR_nil hf
  simp only [Dec, i.h1, i.h2] at r1 r2
  obtain ⟨v1, -, w1, rfl⟩ := r1
  obtain ⟨v2, -, w2, rfl⟩ := r2
  obtain ⟨nl, fu, l, rfl, hl⟩ := dec_runs' i.h3 i.i r3
  exact ⟨⟨v1, v2, l, nl, fu⟩, rfl, wf64 w1, wf64 w2, hl⟩
theorem decV_scr {n : Nat} {t : TypeId} (i : IsScr P t) {d : DataW H} {a : AVal} (h : DecV P (n + 4) t d a) : ∃ s : Scr, a = .agg (encS s) ∧ s.Fit := by
  unfold DecV at h
  rw [if_pos (by simp [isAggT, i.hu])] at h
  obtain ⟨cs, rfl, h⟩ := h
  obtain ⟨s, rfl, hs⟩ := dec_scr i h
  exact ⟨s, rfl, hs⟩
/-- Rows of scripts. -/
theorem decV_scrs {n : Nat} {t e : TypeId} (hu : P.underlying t = some (.slice e)) (i : IsScr P e) {d : DataW H} {a : AVal} (h : DecV P (n + 5) t d a) :
    ∃ (nl fu : Bool) (l : List Scr), a = .imm nl fu true (l.map encS) ∧ ∀ r ∈ l, r.Fit := by
  unfold DecV at h
  rw [if_neg (by simp [isAggT, hu])] at h
  rw [Dec, hu] at h
  rcases h with ⟨-, h⟩ | ⟨elems, spare, rows, -, h, h2, h3⟩
  · exact ⟨true, true, [], by simpa [nilS] using h, by simp⟩
  · obtain ⟨l, rfl, hl⟩ := rows_map encS Scr.Fit (all2_forall (Q := fun b => ∃ r : Scr, b = encS r ∧ r.Fit) (fun a b hab => dec_scr i hab) h2)
    exact ⟨false, false, l, by simpa using h, hl⟩
end
end Go.AM.R1
open Go Go.AM Go.Proofs
namespace Go.AM.R1
section
variable {H : Type} {P : Program}
/-- A row of runs, as it is handed over. -/
structure RowV where
  nl : Bool
  fu : Bool
  l : List Run
def encRow (r : RowV) : List AVal := [.imm r.nl r.fu true (r.l.map encRun)]
def RowV.Fit (r : RowV) : Prop := (∀ x ∈ r.l, x.Fit) ∧ r.l.length ≤ 9223372036854775807
theorem dec_row {n : Nat} {t e : TypeId} (hu : P.underlying t = some (.slice e)) (i : IsRun P e) {d : DataW H} {cs : List AVal} (h : Dec P (n + 3) t d cs) :
    ∃ r : RowV, cs = encRow r ∧ r.Fit := by
  rw [Dec, hu] at h
  rcases h with ⟨-, h⟩ | ⟨elems, spare, rows, -, h, h2, h3⟩
  · exact ⟨⟨true, true, []⟩, by simpa [nilS, encRow] using h, by simp, by simp⟩
  · obtain ⟨l, rfl, hl⟩ := rows_map encRun Run.Fit (all2_forall (Q := fun b => ∃ r : Run, b = encRun r ∧ r.Fit) (fun a b hab => dec_run i hab) h2)
    exact ⟨⟨false, false, l⟩, h, hl, by simpa [maxLen] using h3⟩
theorem dec_rows {n : Nat} {t s e : TypeId} (ht : P.underlying t = some (.slice s)) (hu : P.underlying s = some (.slice e)) (i : IsRun P e) {d : DataW H} {cs : List AVal} (h : Dec P (n + 4) t d cs) :
    ∃ (nl fu : Bool) (l : List RowV), cs = [.imm nl fu true (l.map encRow)] ∧ (∀ r ∈ l, r.Fit) ∧ l.length ≤ 9223372036854775807 := by
  rw [Dec, ht] at h
  rcases h with ⟨-, h⟩ | ⟨elems, spare, rows, -, h, h2, h3⟩
  · exact ⟨true, true, [], by simpa [nilS] using h, by simp, by simp⟩
  · obtain ⟨l, rfl, hl⟩ := rows_map encRow RowV.Fit (all2_forall (Q := fun b => ∃ r : RowV, b = encRow r ∧ r.Fit) (fun a b hab => dec_row hu i hab) h2)
    exact ⟨false, false, l, h, hl, by simpa [maxLen] using h3⟩
theorem decV_rows {n : Nat} {t s e : TypeId} (ht : P.underlying t = some (.slice s)) (hu : P.underlying s = some (.slice e)) (i : IsRun P e) {d : DataW H} {a : AVal} (h : DecV P (n + 4) t d a) :
    ∃ (nl fu : Bool) (l : List RowV), a = .imm nl fu true (l.map encRow) ∧ (∀ r ∈ l, r.Fit) ∧ l.length ≤ 9223372036854775807 := by
  unfold DecV at h
  rw [if_neg (by simp [isAggT, ht])] at h
  obtain ⟨nl, fu, l, h1, h2⟩ := dec_rows ht hu i h
  exact ⟨nl, fu, l, by simpa using h1, h2⟩
/-- Two lists of rows. -/
theorem decV_two {n : Nat} {t u s e : TypeId} (hh : P.underlying t = some (.array 2 u)) (ht : P.underlying u = some (.slice s)) (hu : P.underlying s = some (.slice e)) (i : IsRun P e) {d : DataW H} {a : AVal} (h : DecV P (n + 5) t d a) :
    ∃ (nl fu nl' fu' : Bool) (l m : List RowV), a = .agg [.imm nl fu true (l.map encRow), .imm nl' fu' true (m.map encRow)] ∧ ((∀ r ∈ l, r.Fit) ∧ l.length ≤ 9223372036854775807) ∧ ((∀ r ∈ m, r.Fit) ∧ m.length ≤ 9223372036854775807) := by
  unfold DecV at h
  rw [if_pos (by simp [isAggT, hh])] at h
  obtain ⟨cs, rfl, h⟩ := h
  rw [Dec, hh] at h
  obtain ⟨parts, ass, -, rfl, hm, h2⟩ := h
  match parts, ass, hm, h2 with
  | [p1, p2], [a1, a2], _, ⟨h1, h2, _⟩ =>
    obtain ⟨nl, fu, l, rfl, hl⟩ := dec_rows ht hu i h1
    obtain ⟨nl', fu', m, rfl, hm⟩ := dec_rows ht hu i h2
    exact ⟨nl, fu, nl', fu', l, m, rfl, hl, hm⟩
/-- A row of rows in a struct of one part. -/
theorem dec_act {n : Nat} {t e : TypeId} {f1 : Field} (hs : P.underlying t = some (.struct #[f1])) (hu : P.underlying f1.type = some (.slice e)) (i : IsRun P e) {d : DataW H} {cs : List AVal} (h : Dec P (n + 4) t d cs) :
    ∃ r : RowV, cs = encRow r ∧ r.Fit := by
  rw [Dec, hs] at h
  obtain ⟨parts, ass, -, rfl, hf⟩ := h
  obtain ⟨p1, ps1, a1, as1, rfl, rfl, r1, hf⟩ := fieldsR_cons hf
  obtain ⟨rfl, rfl⟩ := fieldsR_nil hf
  obtain ⟨r, rfl, hr⟩ := dec_row hu i r1
  exact ⟨r, by simp [encRow], hr⟩
theorem decV_acts {n : Nat} {t s e : TypeId} {f1 : Field} (ht : P.underlying t = some (.slice s)) (hs : P.underlying s = some (.struct #[f1])) (hu : P.underlying f1.type = some (.slice e)) (i : IsRun P e) {d : DataW H} {a : AVal} (h : DecV P (n + 5) t d a) :
    ∃ (nl fu : Bool) (l : List RowV), a = .imm nl fu true (l.map encRow) ∧ (∀ r ∈ l, r.Fit) ∧ l.length ≤ 9223372036854775807 := by
  unfold DecV at h
  rw [if_neg (by simp [isAggT, ht])] at h
  rw [Dec, ht] at h
  rcases h with ⟨-, h⟩ | ⟨elems, spare, rows, -, h, h2, h3⟩
  · exact ⟨true, true, [], by simpa [nilS] using h, by simp, by simp⟩
  · obtain ⟨l, rfl, hl⟩ := rows_map encRow RowV.Fit (all2_forall (Q := fun b => ∃ r : RowV, b = encRow r ∧ r.Fit) (fun a b hab => dec_act hs hu i hab) h2)
    exact ⟨false, false, l, by simpa using h, hl, by simpa [maxLen] using h3⟩
end
end Go.AM.R1
open Go Go.AM Go.Proofs
namespace Go.AM.R1
section
variable {H : Type} {P : Program}
/-- A struct of three numbers. -/
theorem decV_i3 {n : Nat} {t : TypeId} {f1 f2 f3 : Field} {k1 k2 k3 : IntKind} (hu : P.underlying t = some (.struct #[f1, f2, f3])) (h1 : P.underlying f1.type = some (.int k1)) (h2 : P.underlying f2.type = some (.int k2)) (h3 : P.underlying f3.type = some (.int k3))
    {d : DataW H} {a : AVal} (h : DecV P (n + 2) t d a) : ∃ (x y z : Int), a = .agg [.lit (.int k1 x), .lit (.int k2 y), .lit (.int k3 z)] ∧ (Lit.int k1 x).wf = true ∧ (Lit.int k2 y).wf = true ∧ (Lit.int k3 z).wf = true := by
  unfold DecV at h
  rw [if_pos (by simp [isAggT, hu])] at h
  obtain ⟨cs, rfl, h⟩ := h
  rw [Dec, hu] at h
  obtain ⟨parts, ass, -, rfl, hf⟩ := h
  obtain ⟨p1, ps1, a1, as1, rfl, rfl, r1, hf⟩ := fieldsR_cons hf
  obtain ⟨p2, ps2, a2, as2, rfl, rfl, r2, hf⟩ := fieldsR_cons hf
  obtain ⟨p3, ps3, a3, as3, rfl, rfl, r3, hf⟩ := fieldsR_cons hf
  obtain ⟨rfl, rfl⟩ := fieldsR_nil hf
  simp only [Dec, h1] at r1
  simp only [Dec, h2] at r2
  simp only [Dec, h3] at r3
  obtain ⟨v1, -, w1, rfl⟩ := r1
  obtain ⟨v2, -, w2, rfl⟩ := r2
  obtain ⟨v3, -, w3, rfl⟩ := r3
  exact ⟨v1, v2, v3, rfl, w1, w2, w3⟩
end
end Go.AM.R1
open Go Go.AM Go.Proofs
namespace Go.AM.R1
section
variable {H : Type} {P : Program}
/-- The types of a frame. -/
structure IsFr (P : Program) (t : TypeId) (f1 f2 f3 f4 f5 : Field) (e : TypeId) : Prop where
  hs : P.underlying t = some (.struct #[f1, f2, f3, f4, f5])
  h1 : P.underlying f1.type = some (.int .i64)
  h2 : P.underlying f2.type = some .bool
  h3 : P.underlying f3.type = some .bool
  h4 : P.underlying f4.type = some (.int .i64)
  h5 : P.underlying f5.type = some (.array 8 e)
  he : P.underlying e = some (.int .u8)
theorem wfu8 {v : Int} (h : (Lit.int .u8 v).wf = true) : 0 ≤ v ∧ v ≤ 255 := by
  simpa [Lit.wf, IntKind.min, IntKind.max, IntKind.signed, IntKind.bits] using h
theorem dec_frame {n : Nat} {t e : TypeId} {f1 f2 f3 f4 f5 : Field} (i : IsFr P t f1 f2 f3 f4 f5 e) {d : DataW H} {cs : List AVal} (h : Dec P (n + 3) t d cs) : ∃ f : Fr, cs = encFr f ∧ f.Ok := by
  rw [Dec, i.hs] at h
  obtain ⟨parts, ass, -, rfl, hf⟩ := h
  obtain ⟨p1, ps1, a1, as1, rfl, rfl, r1, hf⟩ := fieldsR_cons hf
  obtain ⟨p2, ps2, a2, as2, rfl, rfl, r2, hf⟩ := fieldsR_cons hf
  obtain ⟨p3, ps3, a3, as3, rfl, rfl, r3, hf⟩ := fieldsR_cons hf
  obtain ⟨p4, ps4, a4, as4, rfl, rfl, r4, hf⟩ := fieldsR_cons hf
  obtain ⟨p5, ps5, a5, as5, rfl, rfl, r5, hf⟩ := fieldsR_cons hf
  obtain ⟨rfl, rfl⟩ := fieldsR_nil hf
  simp only [Dec, i.h1] at r1
  simp only [Dec, i.h2] at r2
  simp only [Dec, i.h3] at r3
  simp only [Dec, i.h4] at r4
  rw [Dec, i.h5] at r5
  obtain ⟨v1, -, w1, rfl⟩ := r1
  obtain ⟨b2, -, rfl⟩ := r2
  obtain ⟨b3, -, rfl⟩ := r3
  obtain ⟨v4, -, w4, rfl⟩ := r4
  obtain ⟨pp, aa, -, rfl, hm, h2⟩ := r5
  obtain ⟨l, hl, rfl, hw⟩ := all2_flat (fun v => [AVal.lit (.int .u8 v)]) (fun v => (Lit.int .u8 v).wf = true) (fun d a hda => by
    simp only [Dec, i.he] at hda
    obtain ⟨v, -, hw, rfl⟩ := hda
    exact ⟨v, rfl, hw⟩) h2
  rw [hm] at hl
  match l, hl, hw with
  | [x0, x1, x2, x3, x4, x5, x6, x7], _, hw =>
    have y0 := wfu8 (hw x0 (by simp))
    have y1 := wfu8 (hw x1 (by simp))
    have y2 := wfu8 (hw x2 (by simp))
    have y3 := wfu8 (hw x3 (by simp))
    have y4 := wfu8 (hw x4 (by simp))
    have y5 := wfu8 (hw x5 (by simp))
    have y6 := wfu8 (hw x6 (by simp))
    have y7 := wfu8 (hw x7 (by simp))
    refine ⟨⟨v1, b2, b3, v4, x0.toNat, x1.toNat, x2.toNat, x3.toNat, x4.toNat, x5.toNat, x6.toNat, x7.toNat⟩, ?_, ⟨(wf64 w1).1, (wf64 w1).2, (wf64 w4).1, (wf64 w4).2, ?_⟩⟩
    · have e : ∀ v : Int, 0 ≤ v ∧ v ≤ 255 → u8v v.toNat = .lit (.int .u8 v) := fun v hv => by unfold u8v; rw [show ((v.toNat : Nat) : Int) = v from by omega]
      simp only [encFr, e x0 y0, e x1 y1, e x2 y2, e x3 y3, e x4 y4, e x5 y5, e x6 y6, e x7 y7]
      rfl
    · intro c hc
      simp only [Fr.bytes, List.mem_cons, List.not_mem_nil, or_false] at hc
      omega
theorem decV_frame {n : Nat} {t e : TypeId} {f1 f2 f3 f4 f5 : Field} (i : IsFr P t f1 f2 f3 f4 f5 e) {d : DataW H} {a : AVal} (h : DecV P (n + 3) t d a) : ∃ f : Fr, a = .agg (encFr f) ∧ f.Ok := by
  unfold DecV at h
  rw [if_pos (by simp [isAggT, i.hs])] at h
  obtain ⟨cs, rfl, h⟩ := h
  obtain ⟨f, rfl, hf⟩ := dec_frame i h
  exact ⟨f, rfl, hf⟩
/-- A row of frames. -/
theorem decV_frames {n : Nat} {s t e : TypeId} {f1 f2 f3 f4 f5 : Field} (hu : P.underlying s = some (.slice t)) (i : IsFr P t f1 f2 f3 f4 f5 e) {d : DataW H} {a : AVal} (h : DecV P (n + 4) s d a) :
    ∃ (nl fu : Bool) (l : List Fr), a = .imm nl fu true (l.map encFr) ∧ (∀ f ∈ l, f.Ok) ∧ l.length ≤ 9223372036854775807 := by
  unfold DecV at h
  rw [if_neg (by simp [isAggT, hu])] at h
  rw [Dec, hu] at h
  rcases h with ⟨-, h⟩ | ⟨elems, spare, rows, -, h, h2, h3⟩
  · exact ⟨true, true, [], by simpa [nilS] using h, by simp, by simp⟩
  · obtain ⟨l, rfl, hl⟩ := rows_map encFr Fr.Ok (all2_forall (Q := fun b => ∃ r : Fr, b = encFr r ∧ r.Ok) (fun a b hab => dec_frame i hab) h2)
    exact ⟨false, false, l, by simpa using h, hl, by simpa [maxLen] using h3⟩
/-- A row of numbers. -/
theorem dec_nums {n : Nat} {t e : TypeId} (hu : P.underlying t = some (.slice e)) (he : P.underlying e = some (.int .i64)) {d : DataW H} {cs : List AVal} (h : Dec P (n + 2) t d cs) :
    ∃ (nl fu : Bool) (l : List Int), cs = [.imm nl fu true (l.map encI)] ∧ (∀ x ∈ l, -9223372036854775808 ≤ x ∧ x ≤ 9223372036854775807) ∧ l.length ≤ 9223372036854775807 := by
  rw [Dec, hu] at h
  rcases h with ⟨-, h⟩ | ⟨elems, spare, rows, -, h, h2, h3⟩
  · exact ⟨true, true, [], by simpa [nilS] using h, by simp, by simp⟩
  · obtain ⟨l, rfl, hl⟩ := rows_map encI (fun x => -9223372036854775808 ≤ x ∧ x ≤ 9223372036854775807) (all2_forall (Q := fun b => ∃ x : Int, b = encI x ∧ (-9223372036854775808 ≤ x ∧ x ≤ 9223372036854775807)) (fun a b hab => by
      simp only [Dec, he] at hab
      obtain ⟨v, -, hw, rfl⟩ := hab
      exact ⟨v, rfl, wf64 hw⟩) h2)
    exact ⟨false, false, l, h, hl, by simpa [maxLen] using h3⟩
theorem decV_nums {n : Nat} {t e : TypeId} (hu : P.underlying t = some (.slice e)) (he : P.underlying e = some (.int .i64)) {d : DataW H} {a : AVal} (h : DecV P (n + 2) t d a) :
    ∃ (nl fu : Bool) (l : List Int), a = .imm nl fu true (l.map encI) ∧ (∀ x ∈ l, -9223372036854775808 ≤ x ∧ x ≤ 9223372036854775807) ∧ l.length ≤ 9223372036854775807 := by
  unfold DecV at h
  rw [if_neg (by simp [isAggT, hu])] at h
  obtain ⟨nl, fu, l, h1, h2⟩ := dec_nums hu he h
  exact ⟨nl, fu, l, by simpa using h1, h2⟩
end
end Go.AM.R1
open Go Go.AM Go.AM.R1 Go.Proofs
namespace Go.Proofs.Ytgolbdijmmeebaa
open Go.ChangeShapes Go.WideShapes Go.ChangeAt Go.RowKit
namespace watchBack
theorem own : ownKnob Try.prog.godebug = none := by kernel_rfl
theorem laidOut : laidOutB Try.prog = true := by kernel_rfl
theorem mixed : Try.prog.follows .mixedOrders = true := by kernel_rfl
set_option maxRecDepth 100000 in
theorem contract (H : Type) (enc : TypeId × Value → H) (W : World) (base : Nat) (args : Array Value) (ds gs : List (DataW H)) (before : List MemPlace)
    (hval : ∀ (j : Nat) t v, Try.f9.params[j]? = some t → args[j]? = some v → Value.okWide Try.prog W .any base t v)
    (hW : DataW.Whole enc Try.prog Try.f9.params.toList Rows.watchBackSpec.vars false W args.toList ds gs before) :
    Calls Try.prog 9 args W fun e W' => ∃ v, e = .returned v ∧ Rows.watchBackSpec.post enc Try.prog Try.f9 false true false false W args v W' := by
  refine law_contract (id := 9) (f := Try.f9) (s := Rows.watchBackSpec) (k := 7) (nargs := 2) (base := base) (ds := ds) (gs := gs) (before := before) mixed R1.hE laidOut ?e1 ?e2 (tb := 4) ?e3 Try.underlying4 ?e4 ?e5 ?e7 ?e8 ?e6
  case e7 => exact hval
  case e8 => exact hW
  case e1 => rfl
  case e3 => kernel_rfl
  case e4 => rw [Try.params9]; rfl
  · rw [Try.params9]; decide +kernel
  · intro ds h
    match ds, h with
    | [d1, d2], _ => rfl
  · intro cs hA
    rw [Try.params9] at hA
    obtain ⟨d1, r1, a1, s1, rfl, rfl, h1, hA⟩ := decArgs_cons hA
    obtain ⟨d2, r2, a2, s2, rfl, rfl, h2, hA⟩ := decArgs_cons hA
    obtain ⟨rfl, rfl⟩ := decArgs_nil hA
    obtain ⟨n1, f1, fs, rfl, hfo, -⟩ := decV_frames (n := 3) Try.underlying95 ⟨Try.underlying24, Try.underlying3, Try.underlying4, Try.underlying4, Try.underlying3, Try.underlying22, Try.underlying5⟩ h1
    obtain ⟨n2, f2, ms, rfl, -⟩ := decV_nums (n := 5) Try.underlying34 Try.underlying3 h2
    obtain ⟨n, hn⟩ := (call_iff R1.E).1 (watchBack_spec fs ms hfo n1 f1 n2 f2)
    exact ⟨n, _, hn⟩

set_option maxRecDepth 100000 in
theorem lifted (os : Os) (started : os.Started) (H : Type) (enc : TypeId × Value → H) :
    ReturnsInHanded {} Try.checked os 9 .any (Rows.watchBackSpec.pre6 enc Try.prog Try.f9 Rows.watchBackRow.domain false) (Rows.watchBackSpec.post enc Try.prog Try.f9 false true false false) := by
  refine returnsInHanded_of_change (C := Try.checked) own started (by kernel_rfl) Try.func9
    (ChangeSpec.witness6 (enc := enc) (C := Try.checked) false ⟨#[], #[.slice none 0 0, .slice none 0 0], []⟩ 8 (by kernel_rfl) (by kernel_rfl) (by kernel_rfl) (by kernel_rfl)) ?_
  intro W base args ds gs before hval hW _ _
  exact contract H enc W base args ds gs before hval hW

theorem proved : Rows.WatchBackSaid :=
  OpenClaim.holds_of_wide 9 Try.f9 rfl rfl rfl rfl rfl rfl rfl ⟨rfl, rfl, rfl, rfl, rfl⟩ rfl rfl rfl rfl rfl (by kernel_rfl) Try.func9 (by kernel_rfl)
    (of_decide_eq_true (by kernel_rfl)) (by unfold Func.isWrapper; first | (rw [if_pos (by decide +kernel)]; kernel_rfl) | (rw [if_neg (by decide +kernel)]; exact ⟨rfl, rfl⟩))
    (fun os started H enc _ => lifted os started H enc)
end watchBack
theorem watchBackProved : Rows.WatchBackSaid := watchBack.proved
end Go.Proofs.Ytgolbdijmmeebaa
