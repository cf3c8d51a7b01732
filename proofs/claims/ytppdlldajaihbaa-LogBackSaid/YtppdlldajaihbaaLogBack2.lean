/- The law LogBack of package magnetolaw17 returns true for every input, and its arguments read as before. -/
import Derived.Test.YtppdlldajaihbaaLogBack1
import Derived.ProofKit
set_option linter.unusedVariables false
set_option linter.unusedSimpArgs false
open Go Go.AM
namespace Go.AM.R1

/-! ### log.Scan: the walk -/
abbrev Bk := Int × List Run
def encBk (x : Bk) : List AVal := [.lit (.int .i64 x.1), .imm false false true (x.2.map encRun)]
/-- The blocks from a place, and a tick, on; and where they end. -/
def scanGo : Nat → List Nat → Nat → Int → List Bk → List Bk × Nat × Int
  | 0, _, p, t, acc => (acc, p, t)
  | d + 1, b, p, t, acc =>
    if (getB (b.drop p)).2.2 = 0 ∧ (getB (b.drop p)).1.1 = t then
      scanGo d b (p + (getB (b.drop p)).2.1.toNat) (t + sumN (getB (b.drop p)).1.2) (acc ++ [(getB (b.drop p)).1])
    else (acc, p, t)
def scanB (b : List Nat) : List Bk × Nat × Int := scanGo (b.length + 1) b 0 0 []

def scH (acc : List Bk) (n : Nat) : Heap :=
  if acc = [] then [.loop 0 none [(4, .ptr 1 0), (5, .ptr 2 0)] [10, 11] A48_0 B48_0, .box [nilS], .box [.lit (.int .i64 n)]]
  else [.loop 0 none [(4, .ptr 1 0), (5, .ptr 3 0)] [10, 11] A48_0 B48_0, .box [.own 2 acc.length 2 0 acc.length], .arr true false false 2 (acc.map encBk), .box [.lit (.int .i64 n)]]
theorem scY0 (n : Nat) (x : Bk) (p : Nat) (t : Int) :
    call E (.yld 0) [.agg (encBk x), .agg [.lit (.int .i64 p), .lit (.int .i64 t)]] (scH [] n)
      = some (.lit (.bool true), [.loop 0 none [(4, .ptr 1 0), (5, .ptr 2 0)] [10, 11] A48_0 B48_0, .box [.own 3 1 2 0 1], .box [.lit (.int .i64 p)], .arr true false false 2 [encBk x]]) := by
  simp [go_sem, scH, encBk, run_codeL E A48_0.eq_1, run_codeL E B48_0.eq_1, purse_eq, List.range_succ]
theorem scY1 (acc : List Bk) (ha : acc.length ≤ 1099511627) (h : acc ≠ []) (n : Nat) (x : Bk) (p : Nat) (t : Int) :
    call E (.yld 0) [.agg (encBk x), .agg [.lit (.int .i64 p), .lit (.int .i64 t)]] (scH acc n)
      = some (.lit (.bool true), scH (acc ++ [x]) p) := by
  have hb : ¬ (70368744177664 < (acc.length + 1) * 32) := by omega
  simp [go_sem, scH, h, encBk, run_codeL E A48_0.eq_1, run_codeL E B48_0.eq_1, purse_eq, List.range_succ, hb]

theorem get_good {b : List Nat} (hb : ∀ c ∈ b, c < 256) (h : (getB b).2.2 = 0) :
    chkB (getB b).1.1 (getB b).1.2 = 0 ∧ (∀ r ∈ (getB b).1.2, 0 ≤ r.Drive ∧ r.Drive ≤ 4294967295) ∧ 1 ≤ (getB b).2.1 ∧ (getB b).2.1 ≤ b.length ∧ b.take (getB b).2.1.toNat = wholeB (numsN (getB b).1.1 (getB b).1.2) := by
  obtain ⟨f, R, n, e, h1, h2, h3, h4, h5⟩ := put_of_get hb h
  rw [e]
  exact ⟨h1, h2, by simp; omega, by simp; omega, by simpa using h3⟩

/-- The heap at the head of the loop of blocks. -/
def scB (nl fu : Bool) (b : List Nat) (acc : List Bk) (p : Nat) (t : Int) (n : Nat) : Heap :=
  if acc = [] then [.box [.imm nl fu true (b.map encB)], .loop 0 none [(4, .ptr 2 0), (5, .ptr 3 0)] [10, 11] A48_0 B48_0, .box [nilS], .box [.lit (.int .i64 n)], .box [.lit (.int .i64 p), .lit (.int .i64 t)]]
  else [.box [.imm nl fu true (b.map encB)], .loop 0 none [(4, .ptr 2 0), (5, .ptr 3 0)] [10, 11] A48_0 B48_0, .box [.own 4 acc.length 2 0 acc.length], .box [.lit (.int .i64 n)], .arr true false false 2 (acc.map encBk), .box [.lit (.int .i64 p), .lit (.int .i64 t)]]
/-- Where the place is. -/
def atI (acc : List Bk) : Nat := if acc = [] then 4 else 5
def scF (nl fu : Bool) (b : List Nat) (acc : List Bk) (n : Nat) : Heap :=
  if acc = [] then [.box [.imm nl fu true (b.map encB)], .loop 0 none [(4, .ptr 2 0), (5, .ptr 3 0)] [10, 11] A48_0 B48_0, .box [nilS], .box [.lit (.int .i64 n)]]
  else [.box [.imm nl fu true (b.map encB)], .loop 0 none [(4, .ptr 2 0), (5, .ptr 3 0)] [10, 11] A48_0 B48_0, .box [.own 4 acc.length 2 0 acc.length], .box [.lit (.int .i64 n)], .arr true false false 2 (acc.map encBk)]

theorem scan_loop (b : List Nat) (hb : ∀ c ∈ b, c < 256) (hl : b.length ≤ 1000000) (nl fu : Bool) (hnl : nl = false ∨ b = []) :
    ∀ (d p : Nat) (t : Int) (acc : List Bk), b.length + 1 ≤ p + d → p ≤ b.length → acc.length ≤ p → (0 ≤ t ∧ t ≤ 1073741824) →
   finK 4 [] (run E 4 [.code L145_0, .inLoop [1000000, 0, 1, 3] L145_0, .inBlock 0]
     [(0, .yld 1), (1, .ptr 0 0), (3, .ptr (atI acc) 0)] (scB nl fu b acc p t p))
    = some (.tup [], scF nl fu b (scanGo d b p t acc).1 (scanGo d b p t acc).2.1) := by
  intro d
  induction d with
  | zero => intro p t acc hd hp; omega
  | succ d ih =>
    intro p t acc hd hp ha ht
    have hG := bget_spec (b.drop p) (fun c hc => hb c (List.mem_of_mem_drop hc)) (by simp; omega) nl (fu) (by rcases hnl with h | h; exact .inl h; subst h; exact .inr (by simp))
    rw [List.map_drop] at hG
    have hr := rowsB b
    by_cases h : (getB (b.drop p)).2.2 = 0
    · obtain ⟨g1, g2, g3, g4, g5⟩ := get_good (fun c hc => hb c (List.mem_of_mem_drop hc)) h
      have gk := chkB_ok g1
      simp at g4
      by_cases h2 : (getB (b.drop p)).1.1 = t
      · have hn : scanGo (d + 1) b p t acc = scanGo d b (p + (getB (b.drop p)).2.1.toNat) (t + sumN (getB (b.drop p)).1.2) (acc ++ [(getB (b.drop p)).1]) := by
          rw [scanGo, if_pos ⟨h, h2⟩]
        rw [hn]
        clear hn
        have hT := ticks_spec (getB (b.drop p)).1.2 (by omega) (chkB_Ok g1) false false
        rw [ticks_eq, if_pos gk.2.2.2.1, gk.2.2.2.1] at hT
        have hs := (chk_right gk.2.2.2.1).2
        rw [h] at hG
        have ih2 := ih (p + (getB (b.drop p)).2.1.toNat) (t + sumN (getB (b.drop p)).1.2) (acc ++ [(getB (b.drop p)).1]) (by omega) (by omega) (by simp; omega) (by omega)
        have wp : IntKind.wrap .i64 ((p : Int) + (getB (b.drop p)).2.1) = ((p + (getB (b.drop p)).2.1.toNat : Nat) : Int) := by rw [wrap64 (by omega) (by omega)]; omega
        have wt : IntKind.wrap .i64 (t + sumN (getB (b.drop p)).1.2) = t + sumN (getB (b.drop p)).1.2 := by rw [wrap64 (by omega) (by omega)]
        have hR := gk.2.1
        have hY0 := scY0 p (getB (b.drop p)).1 (p + (getB (b.drop p)).2.1.toNat) (t + sumN (getB (b.drop p)).1.2)
        have hY1 := fun ha0 => scY1 acc (by omega) ha0 p (getB (b.drop p)).1 (p + (getB (b.drop p)).2.1.toNat) (t + sumN (getB (b.drop p)).1.2)
        generalize scanGo d b _ _ _ = Q at ih2 ⊢
        clear g5
        generalize getB (b.drop p) = g at *
        obtain ⟨⟨f, R⟩, m, e⟩ := g
        simp only [] at *
        subst h2
        simp [resV, resHl, hR] at hG
        by_cases ha0 : acc = []
        · subst ha0
          simp [scH, encBk, nilS] at hY0
          simp [scB, nilS, encBk, atI] at ih2
          generalize scF nl fu b Q.1 Q.2.1 = F at *
          simp [go_sem, run_codeL E L145_0.eq_1, hp, hr, take_allB, hG, hT, wp, wt, scB, atI, purse_eq, hY0, nilS]
          rw [run_inLoop']
          simp [go_sem, purse_eq, List.range_succ]
          simpa using ih2
        · have hY := hY1 ha0
          simp [scH, ha0, encBk, nilS] at hY
          simp [scB, nilS, encBk, atI] at ih2
          generalize scF nl fu b Q.1 Q.2.1 = F at *
          simp [go_sem, run_codeL E L145_0.eq_1, hp, hr, take_allB, hG, hT, wp, wt, scB, atI, ha0, purse_eq, hY, nilS]
          rw [run_inLoop']
          simp [go_sem, purse_eq, List.range_succ]
          simpa using ih2
      · have hn : scanGo (d + 1) b p t acc = (acc, p, t) := by
          rw [scanGo, if_neg (by intro q; exact h2 q.2)]
        rw [hn]
        clear hn
        rw [h] at hG
        have hR := gk.2.1
        clear g5
        generalize getB (b.drop p) = g at *
        obtain ⟨⟨f, R⟩, m, e⟩ := g
        simp only [] at *
        simp [resV, resHl, hR] at hG
        by_cases ha0 : acc = []
        · subst ha0
          simp [go_sem, run_codeL E L145_0.eq_1, hp, hr, take_allB, hG, scB, scF, atI, purse_eq, List.range_succ, h2]
        · simp [go_sem, run_codeL E L145_0.eq_1, hp, hr, take_allB, hG, scB, scF, atI, ha0, purse_eq, List.range_succ, h2]
    · have hn : scanGo (d + 1) b p t acc = (acc, p, t) := by
        rw [scanGo, if_neg (by intro q; exact h q.1)]
      rw [hn]
      clear hn
      obtain ⟨g1, g2⟩ := get_bad h
      generalize getB (b.drop p) = g at *
      obtain ⟨⟨f, R⟩, m, e⟩ := g
      simp only [Prod.mk.injEq] at *
      obtain ⟨g1, g3⟩ := g1
      subst g1 g2 g3
      simp [resV, resHl] at hG
      by_cases ha0 : acc = []
      · subst ha0
        simp [go_sem, run_codeL E L145_0.eq_1, hp, hr, take_allB, hG, scB, scF, atI, purse_eq, List.range_succ, h]
      · simp [go_sem, run_codeL E L145_0.eq_1, hp, hr, take_allB, hG, scB, scF, atI, ha0, purse_eq, List.range_succ, h]
end Go.AM.R1
open Go Go.AM
namespace Go.AM.R1

theorem blocks1_spec (b : List Nat) (hb : ∀ c ∈ b, c < 256) (hl : b.length ≤ 1000000) (nl fu : Bool) (hnl : nl = false ∨ b = []) :
    call E (.func (.func 145) [] [.ptr 0 0]) [.yld 1] [.box [.imm nl fu true (b.map encB)], .loop 0 none [(4, .ptr 2 0), (5, .ptr 3 0)] [10, 11] A48_0 B48_0, .box [nilS], .box [.lit (.int .i64 0)]]
     = some (.tup [], scF nl fu b (scanB b).1 (scanB b).2.1) := by
  rw [call_func E E145]
  have h := scan_loop b hb hl nl fu hnl (b.length + 1) 0 0 [] (by omega) (by omega) (by simp) (by omega)
  rw [show scanGo (b.length + 1) b 0 0 [] = scanB b from rfl] at h
  generalize scF nl fu b (scanB b).1 (scanB b).2.1 = F at h ⊢
  simp [scB, nilS] at h
  simp [go_sem, ir145, purse_eq, nilS]
  rw [run_inLoop']
  simp [go_sem, purse_eq, List.range_succ]
  exact h
theorem blocks_spec (nl fu : Bool) (rows : List (List AVal)) : call E (.func (.func 105) [] []) [.imm nl fu true rows] [] = some (.func (.func 145) [] [.ptr 0 0], [.box [.imm nl fu true rows]]) := by
  rw [call_func E E105]
  simp [go_sem, ir105, purse_eq]
def bkV (i : Nat) (l : List Bk) : AVal := if l = [] then nilS else .own i l.length 2 0 l.length
def bkH (l : List Bk) : Heap := if l = [] then [] else [.arr true false false 2 (l.map encBk)]
theorem scan_spec (b : List Nat) (hb : ∀ c ∈ b, c < 256) (hl : b.length ≤ 1000000) (nl fu : Bool) (hnl : nl = false ∨ b = []) :
    call E (.func (.func 48) [] []) [.imm nl fu true (b.map encB)] []
      = some (.tup [bkV 0 (scanB b).1, .lit (.int .i64 (scanB b).2.1)], bkH (scanB b).1) := by
  rw [call_func E E48]
  have hS := blocks_spec nl fu (b.map encB)
  have hN := blocks1_spec b hb hl nl fu hnl
  generalize scanB b = g at *
  simp [nilS] at hN
  by_cases h : g.1 = []
  · simp [scF, h, nilS] at hN
    simp [go_sem, ir48, hS, hN, h, bkV, bkH, purse_eq, nilS]
  · simp [scF, h, nilS] at hN
    simp [go_sem, ir48, hS, hN, h, bkV, bkH, purse_eq, nilS]
end Go.AM.R1
open Go Go.AM
namespace Go.AM.R1

/-! ### The document's Scan -/
theorem get_nil : (getB []).2.2 ≠ 0 := by decide
end Go.AM.R1
open Go Go.AM
namespace Go.AM.R1

/-! ### The blocks of bytes -/
def putBk (x : Bk) : List Nat := wholeB (numsN x.1 x.2)
def blksB (l : List Bk) : List Nat := l.flatMap putBk
def totB (l : List Bk) : Int := match l with | [] => 0 | x :: r => sumN x.2 + totB r
def Good : Int → List Bk → Prop
  | _, [] => True
  | t, x :: r => x.1 = t ∧ chkB x.1 x.2 = 0 ∧ (∀ r ∈ x.2, 0 ≤ r.Drive ∧ r.Drive ≤ 4294967295) ∧ Good (t + sumN x.2) r
theorem blksB_cons (x : Bk) (l : List Bk) : blksB (x :: l) = putBk x ++ blksB l := rfl
theorem blksB_append (l m : List Bk) : blksB (l ++ m) = blksB l ++ blksB m := by simp [blksB]
theorem totB_append : ∀ (l m : List Bk), totB (l ++ m) = totB l + totB m
  | [], m => by simp [totB]
  | x :: l, m => by simp only [List.cons_append, totB]; rw [totB_append l m]; omega
theorem good_append : ∀ (l m : List Bk) (t : Int), Good t (l ++ m) ↔ Good t l ∧ Good (t + totB l) m
  | [], m, t => by simp [Good, totB]
  | x :: l, m, t => by
    simp only [List.cons_append, Good, totB]
    rw [good_append l m (t + sumN x.2), Int.add_assoc]
    simp only [and_assoc]
theorem good_tot : ∀ (l : List Bk) (t : Int), 0 ≤ t → t ≤ 1073741824 → Good t l → 0 ≤ totB l ∧ t + totB l ≤ 1073741824
  | [], t, h0, h, _ => by simp [totB]; omega
  | x :: l, t, h0, h, g => by
    obtain ⟨g1, g2, g3, g4⟩ := g
    have gk := chkB_ok g2
    have hs := (chk_right gk.2.2.2.1).2
    have := good_tot l (t + sumN x.2) (by omega) (by omega) g4
    simp only [totB]
    omega
theorem putBk_len {x : Bk} (h : chkB x.1 x.2 = 0) : 6 ≤ (putBk x).length ∧ (putBk x).length ≤ 42000 := by
  have h1 := inside_65536 h
  have h2 := whole_len (numsN x.1 x.2)
  have h3 := putN_len64 (n := (bytesN (numsN x.1 x.2)).length) (by omega)
  have h4 := List.length_pos_iff.2 (putN_pos (bytesN (numsN x.1 x.2)).length)
  have h5 : 1 ≤ (bytesN (numsN x.1 x.2)).length := by
    simp only [numsN, bytesN, List.flatMap_cons, List.length_append]
    have := List.length_pos_iff.2 (putN_pos x.1.toNat)
    omega
  unfold putBk
  omega
theorem good_len : ∀ (l : List Bk) (t : Int), Good t l → 6 * l.length ≤ (blksB l).length
  | [], _, _ => by simp
  | x :: l, t, g => by
    have := putBk_len g.2.1
    have := good_len l _ g.2.2.2
    rw [blksB_cons, List.length_append, List.length_cons]
    omega
theorem scan_facts (b : List Nat) (hb : ∀ c ∈ b, c < 256) : ∀ (d p : Nat) (t : Int) (acc : List Bk), p ≤ b.length →
    ∃ l, (scanGo d b p t acc).1 = acc ++ l ∧ Good t l ∧ (scanGo d b p t acc).2.1 = p + (blksB l).length ∧ p + (blksB l).length ≤ b.length ∧ (b.drop p).take (blksB l).length = blksB l ∧ (scanGo d b p t acc).2.2 = t + totB l := by
  intro d
  induction d with
  | zero => intro p t acc hp; exact ⟨[], by simp [scanGo, Good, blksB, totB, hp]⟩
  | succ d ih =>
    intro p t acc hp
    rw [scanGo]
    split
    · rename_i h
      obtain ⟨g1, g2, g3, g4, g5⟩ := get_good (fun c hc => hb c (List.mem_of_mem_drop hc)) h.1
      simp at g4
      generalize hg : getB (b.drop p) = g at *
      obtain ⟨⟨f, R⟩, m, e⟩ := g
      simp only [] at *
      obtain ⟨l, e1, e2, e3, e4, e5, e6⟩ := ih (p + m.toNat) (t + sumN R) (acc ++ [(f, R)]) (by omega)
      have hlen : (wholeB (numsN f R)).length = m.toNat := by rw [← g5]; simp; omega
      refine ⟨(f, R) :: l, by rw [e1]; simp, ⟨h.2, g1, g2, e2⟩, ?_, ?_, ?_, ?_⟩
      · rw [e3, blksB_cons, List.length_append]; show _ = p + ((wholeB (numsN f R)).length + _); omega
      · rw [blksB_cons, List.length_append]; show p + ((wholeB (numsN f R)).length + _) ≤ _; omega
      · rw [blksB_cons, List.length_append, List.take_add]
        show List.take (wholeB (numsN f R)).length _ ++ List.take _ (List.drop (wholeB (numsN f R)).length _) = wholeB (numsN f R) ++ _
        rw [hlen, g5, List.drop_drop, e5]
      · rw [e6]; simp only [totB]; omega
    · exact ⟨[], by simp [Good, blksB, totB, hp]⟩
theorem scanB_facts {b : List Nat} (hb : ∀ c ∈ b, c < 256) : Good 0 (scanB b).1 ∧ (scanB b).2.1 = (blksB (scanB b).1).length ∧ (scanB b).2.1 ≤ b.length ∧ b.take (scanB b).2.1 = blksB (scanB b).1 ∧ (scanB b).2.2 = totB (scanB b).1 := by
  obtain ⟨l, e1, e2, e3, e4, e5, e6⟩ := scan_facts b hb (b.length + 1) 0 0 [] (by omega)
  rw [show scanGo (b.length + 1) b 0 0 [] = scanB b from rfl] at *
  simp at e1 e3 e4 e5 e6
  rw [e1, e3]
  exact ⟨e2, rfl, e4, e5, e6⟩
/-- Blocks that are put one behind the other are found. -/
theorem scan_put (b : List Nat) : ∀ (l : List Bk) (d p : Nat) (t : Int) (acc : List Bk), l.length + 1 ≤ d → Good t l → (b.drop p) = blksB l → scanGo d b p t acc = (acc ++ l, p + (blksB l).length, t + totB l) := by
  intro l
  induction l with
  | nil =>
    intro d p t acc hd hg hp
    obtain ⟨d, rfl⟩ : ∃ e, d = e + 1 := ⟨d - 1, by simp at hd; omega⟩
    rw [scanGo, hp, if_neg (by intro q; exact get_nil q.1)]
    simp [blksB, totB]
  | cons x l ih =>
    intro d p t acc hd hg hp
    obtain ⟨d, rfl⟩ : ∃ e, d = e + 1 := ⟨d - 1, by simp at hd; omega⟩
    obtain ⟨g1, g2, g3, g4⟩ := hg
    have hG := get_of_put g2 g3 (blksB l)
    rw [scanGo, hp, blksB_cons]
    show (if (getB (wholeB (numsN x.1 x.2) ++ blksB l)).2.2 = 0 ∧ (getB (wholeB (numsN x.1 x.2) ++ blksB l)).1.1 = t then _ else _) = _
    rw [show putBk x = wholeB (numsN x.1 x.2) from rfl, hG]
    simp only []
    rw [if_pos ⟨trivial, g1⟩]
    rw [ih d (p + ((wholeB (numsN x.1 x.2)).length : Int).toNat) (t + sumN x.2) _ (by simp at hd; omega) g4 (by
      rw [Int.toNat_natCast, ← List.drop_drop, hp, blksB_cons]; show List.drop (wholeB (numsN x.1 x.2)).length (wholeB (numsN x.1 x.2) ++ _) = _; rw [List.drop_left])]
    simp [totB, List.length_append]
    omega
theorem scanB_put {l : List Bk} (h : Good 0 l) : scanB (blksB l) = (l, (blksB l).length, totB l) := by
  have := good_len l 0 h
  have := scan_put (blksB l) l ((blksB l).length + 1) 0 0 [] (by omega) h rfl
  simpa [scanB] using this
end Go.AM.R1
open Go Go.AM
namespace Go.AM.R1

/-! ### seek.Of -/
abbrev Ent := Int × Nat
def encEnt (e : Ent) : List AVal := [.lit (.int .i64 e.1), .lit (.int .i64 e.2)]
theorem noImm_encEnt (l : List Ent) : noImmLL (l.map encEnt) = true := noImmLL_map (fun _ => rfl) l
attribute [go_sem] noImm_encEnt
def entGo : Int → Nat → List Bk → List Ent
  | _, _, [] => []
  | t, p, x :: r => (t, p) :: entGo (t + sumN x.2) (p + (putBk x).length) r
theorem entGo_length : ∀ (l : List Bk) (t : Int) (p : Nat), (entGo t p l).length = l.length
  | [], _, _ => rfl
  | x :: l, t, p => by simp only [entGo, List.length_cons, entGo_length l]
/-- An index in the heap. -/
def ixH (nl lb le : Bool) (b : List Nat) (es : List Ent) (t : Int) : Heap :=
  if b = [] then (if nl = true then [.box [nilS, nilS, .lit (.int .i64 0)]] else [.box [.own 1 0 1 0 0, nilS, .lit (.int .i64 0)], .arr true lb true 1 []])
  else [.box [.own 1 b.length 1 0 b.length, .own 2 es.length 2 0 es.length, .lit (.int .i64 t)], .arr true lb false 1 (b.map encB), .arr true le false 2 (es.map encEnt)]

end Go.AM.R1
open Go Go.AM
namespace Go.AM.R1

/-! ### The document's entries -/
abbrev REnt := Int × Nat × Int × Nat
def encREnt (e : REnt) : List AVal := [.lit (.int .i64 e.1), .lit (.int .i64 e.2.1), .lit (.int .i64 e.2.2.1), .lit (.int .i64 e.2.2.2)]
def rentGo : Int → Nat → List Bk → List REnt
  | _, _, [] => []
  | t, p, x :: r => (t, p, sumN x.2, (putBk x).length) :: rentGo (t + sumN x.2) (p + (putBk x).length) r
theorem rentGo_length : ∀ (l : List Bk) (t : Int) (p : Nat), (rentGo t p l).length = l.length
  | [], _, _ => rfl
  | x :: l, t, p => by simp only [rentGo, List.length_cons, rentGo_length l]
end Go.AM.R1
open Go Go.AM
namespace Go.AM.R1

/-! ### The bytes of an index -/
def idxRow (x : Bk) : List Nat := putN (sumN x.2).toNat ++ putN (putBk x).length
def idxB (l : List Bk) : List Nat := sealB (putN l.length ++ l.flatMap idxRow)
theorem entGo_get : ∀ (l : List Bk) (t : Int) (p i : Nat), i < l.length → (entGo t p l)[i]? = some (t + totB (l.take i), p + (blksB (l.take i)).length)
  | [], _, _, i, h => by simp at h
  | x :: l, t, p, 0, h => by simp [entGo, totB, blksB]
  | x :: l, t, p, i + 1, h => by
    simp only [entGo, List.getElem?_cons_succ, List.take_succ_cons, totB, blksB_cons, List.length_append]
    rw [entGo_get l _ _ i (by simpa using h)]
    simp
    omega
theorem take_succ_tot (l : List Bk) (i : Nat) (h : i < l.length) : totB (l.take (i + 1)) = totB (l.take i) + sumN l[i].2 ∧ (blksB (l.take (i + 1))).length = (blksB (l.take i)).length + (putBk l[i]).length := by
  rw [List.take_succ_eq_append_getElem h, totB_append, blksB_append]
  simp [totB, blksB]
theorem good_get : ∀ (l : List Bk) (t : Int) (i : Nat) (h : i < l.length), Good t l → chkB l[i].1 l[i].2 = 0 ∧ (∀ r ∈ l[i].2, 0 ≤ r.Drive ∧ r.Drive ≤ 4294967295) ∧ l[i].1 = t + totB (l.take i)
  | [], _, i, h, _ => by simp at h
  | x :: l, t, 0, h, g => ⟨g.2.1, g.2.2.1, by simp [g.1, totB]⟩
  | x :: l, t, i + 1, h, g => by
    have := good_get l _ i (by simpa using h) g.2.2.2
    simp only [List.getElem_cons_succ, List.take_succ_cons, totB]
    exact ⟨this.1, this.2.1, by rw [this.2.2]; omega⟩
theorem good_take (l : List Bk) (t : Int) (i : Nat) (h : Good t l) : Good t (l.take i) := by
  have := (good_append (l.take i) (l.drop i) t).1 (by rw [List.take_append_drop]; exact h)
  exact this.1
theorem blks_take_le (l : List Bk) (i : Nat) : (blksB (l.take i)).length ≤ (blksB l).length := by
  conv => rhs; rw [← List.take_append_drop i l]
  rw [blksB_append, List.length_append]; omega
theorem tot_take_le (l : List Bk) (i : Nat) (h : Good 0 l) : 0 ≤ totB (l.take i) ∧ totB (l.take i) ≤ 1073741824 := by
  have := good_tot (l.take i) 0 (by omega) (by omega) (good_take l 0 i h)
  omega
theorem putN_lt256 (n : Nat) : ∀ c ∈ putN n, c < 256 := by
  induction n using Nat.strongRecOn with
  | _ n ih =>
    intro c h
    by_cases hn : 128 ≤ n
    · rw [putN_big hn] at h
      rcases List.mem_cons.1 h with rfl | h
      · omega
      · exact ih (n / 128) (by omega) c h
    · rw [putN_small (by omega)] at h
      simp at h; omega
theorem idxRow_byte (x : Bk) : ∀ c ∈ idxRow x, c < 256 := by
  intro c hc
  rcases List.mem_append.1 hc with h | h
  · exact putN_lt256 _ _ h
  · exact putN_lt256 _ _ h
theorem idxRow_len (x : Bk) (hg : chkB x.1 x.2 = 0) : (idxRow x).length ≤ 20 := by
  have gk := chkB_ok hg
  have hs := (chk_right gk.2.2.2.1).2
  have hlen := putBk_len hg
  have h1 := putN_len64 (n := (sumN x.2).toNat) (by omega)
  have h2 := putN_len64 (n := (putBk x).length) (by omega)
  simp only [idxRow, List.length_append]; omega

end Go.AM.R1
open Go Go.AM
namespace Go.AM.R1

theorem idxIn_byte (l : List Bk) : ∀ c ∈ putN l.length ++ l.flatMap idxRow, c < 256 := by
  intro c hc
  rcases List.mem_append.1 hc with h | h
  · exact putN_lt256 _ _ h
  · obtain ⟨x, _, h⟩ := List.mem_flatMap.1 h
    exact idxRow_byte x c h
theorem idxIn_len (l : List Bk) (hg : Good 0 l) : l.length < 18446744073709551616 → (putN l.length ++ l.flatMap idxRow).length ≤ 20 + 20 * l.length := by
  intro hl
  have h1 := putN_len64 hl
  have h2 : ∀ (l : List Bk) (t : Int), Good t l → (l.flatMap idxRow).length ≤ 20 * l.length := by
    intro l
    induction l with
    | nil => simp
    | cons x l ih =>
      intro t g
      have := idxRow_len x g.2.1
      have := ih _ g.2.2.2
      simp only [List.flatMap_cons, List.length_append, List.length_cons]; omega
  have := h2 l 0 hg
  rw [List.length_append]; omega
end Go.AM.R1
open Go Go.AM
namespace Go.AM.R1

def entV (i : Nat) (es : List Ent) : AVal := if es = [] then nilS else .own i es.length 2 0 es.length
def entH (es : List Ent) : Heap := if es = [] then [] else [.arr true false false 2 (es.map encEnt)]
theorem rows2 (es : List Ent) : rowsOk 2 (es.map encEnt) = true := rowsOk_map (f := encEnt) (fun _ => rfl) es
end Go.AM.R1
open Go Go.AM
namespace Go.AM.R1

/-! ### The bytes of a log that is made of rows -/
def madeGo : Int → List (List Run) → List Bk
  | _, [] => []
  | t, r :: s => if r.length ≤ 20 ∧ chk r = 0 ∧ chkB t (joined [] r) = 0 then (t, joined [] r) :: madeGo (t + sumN r) s else madeGo t s
def madeL (rows : List RowV) : List Bk := madeGo 0 ((rows.take 20).map RowV.l)
theorem Run.Fit.ok {r : Run} (h : r.Fit) : r.Ok := ⟨h.1.1, h.1.2⟩
theorem joined_drive {l : List Run} (h : ∀ r ∈ l, 0 ≤ r.Drive ∧ r.Drive ≤ 4294967295) : ∀ r ∈ joined [] l, 0 ≤ r.Drive ∧ r.Drive ≤ 4294967295 :=
  joined_mem l [] (fun r => 0 ≤ r.Drive ∧ r.Drive ≤ 4294967295) (fun r hr _ => h r hr) (fun x r hx _ _ => hx) (by simp)
theorem madeGo_good : ∀ (l : List (List Run)) (t : Int), (∀ r ∈ l, ∀ x ∈ r, x.Fit) → Good t (madeGo t l)
  | [], t, _ => trivial
  | r :: s, t, h => by
    rw [madeGo]
    split
    · rename_i h1
      have hs := joined_chk h1.2.1
      refine ⟨rfl, h1.2.2, joined_drive fun x hx => (h r (by simp) x hx).2.2, ?_⟩
      rw [hs.2.1]
      exact madeGo_good s _ fun r hr => h r (by simp [hr])
    · exact madeGo_good s _ fun r hr => h r (by simp [hr])
theorem madeL_good {rows : List RowV} (h : ∀ r ∈ rows, r.Fit) : Good 0 (madeL rows) := madeGo_good _ 0 (by
  intro r hr
  obtain ⟨v, hv, rfl⟩ := List.mem_map.1 hr
  exact (h v (List.mem_of_mem_take hv)).1)
theorem madeGo_length : ∀ (l : List (List Run)) (t : Int), (madeGo t l).length ≤ l.length
  | [], t => by simp [madeGo]
  | r :: s, t => by
    rw [madeGo]
    split
    · have := madeGo_length s (t + sumN r); simp; omega
    · have := madeGo_length s t; simp; omega
theorem putBk_len20 {x : Bk} (h : chkB x.1 x.2 = 0) (hl : x.2.length ≤ 20) : (putBk x).length ≤ 230 := by
  obtain ⟨h1, h2, h3, h4, h5, h6⟩ := chkB_ok h
  have := bytes_len5 (numsN x.1 x.2) (nums_lt h1 h3 (chk_right h4).1)
  have e : (numsN x.1 x.2).length = 2 * x.2.length + 2 := by simp only [numsN, List.length_cons, runN_length]
  have h7 := whole_len (numsN x.1 x.2)
  have h8 := putN_len64 (n := (bytesN (numsN x.1 x.2)).length) (by omega)
  unfold putBk; omega
theorem madeGo_bytes : ∀ (l : List (List Run)) (t : Int), (blksB (madeGo t l)).length ≤ 230 * l.length
  | [], t => by simp [madeGo, blksB]
  | r :: s, t => by
    rw [madeGo]
    split
    · rename_i h1
      have := madeGo_bytes s (t + sumN r)
      have := putBk_len20 (x := (t, joined [] r)) h1.2.2 (by have := joined_length r []; simp at this; show (joined [] r).length ≤ 20; omega)
      rw [blksB_cons, List.length_append, List.length_cons]; omega
    · have := madeGo_bytes s t; simp; omega
theorem blksB_byte : ∀ (l : List Bk) (t : Int), Good t l → ∀ c ∈ blksB l, c < 256
  | [], _, _ => by simp [blksB]
  | x :: l, t, g => by
    intro c hc
    rw [blksB_cons] at hc
    rcases List.mem_append.1 hc with h | h
    · exact wholeB_byte _ (nums_lt64 g.2.1) (by have := nums_bytes g.2.1; omega) c h
    · exact blksB_byte l _ g.2.2.2 c h

def madeB (rows : List RowV) : List Nat := blksB (madeL rows)
end Go.AM.R1
open Go Go.AM
namespace Go.AM.R1

theorem openE_seal (x : List Nat) : openE (sealB x) = 0 := by
  have hl := sealB_length x
  rw [seal_take _ (by omega), hl]
  show sealB ((x ++ _).take _) = _
  rw [Nat.add_sub_cancel, List.take_left]
theorem open_any (b : List Nat) (hb : ∀ c ∈ b, c < 256) (hl : b.length ≤ 1099511627775) (nl fu : Bool) (hnl : nl = false ∨ b = []) :
    call E (.func (.func 24) [] []) [.imm nl fu true (b.map encB)] []
      = some (if openE b = 0 then (.tup [.own 0 (b.length - 4) 1 0 (b.length - 4), .lit (.int .i64 0)], [.arr true false (b.take (b.length - 4)).isEmpty 1 ((b.take (b.length - 4)).map encB)])
        else (.tup [nilS, .lit (.int .i64 (openE b))], [])) := by
  cases nl with
  | false => exact open_spec b hb hl fu
  | true =>
    have hb0 : b = [] := by rcases hnl with h | h; cases h; exact h
    subst hb0
    rw [call_func E E24]
    have w4 : IntKind.wrap .i64 (-4) = -4 := rfl
    simp [go_sem, ir24, purse_eq, openE, nilS, w4]
theorem idxB_open (l : List Bk) : openE (idxB l) = 0 := openE_seal _
theorem idxB_byte (l : List Bk) : ∀ c ∈ idxB l, c < 256 := by
  intro c hc
  rcases List.mem_append.1 hc with h | h
  · exact idxIn_byte l c h
  · exact tail_byte _ c h
theorem idxB_len (l : List Bk) (hg : Good 0 l) (hl : l.length ≤ 1000000) : (idxB l).length ≤ 24 + 20 * l.length := by
  have := idxIn_len l hg (by omega)
  unfold idxB; rw [sealB_length]; omega
def getX (b whole : List Nat) (nl : Bool) : AVal × Heap :=
  if openE b = 0 then
    if (scanB whole).2.1 = whole.length then
      if idxB (scanB whole).1 = b then (.tup [.ptr 0 0, .lit (.int .i64 0)], ixH nl false false whole (entGo 0 0 (scanB whole).1) (totB (scanB whole).1))
      else (.tup [.lit (.pointer none), .lit (.int .i64 24)], [])
    else (.tup [.lit (.pointer none), .lit (.int .i64 11)], [])
  else (.tup [.lit (.pointer none), .lit (.int .i64 (openE b))], [])
end Go.AM.R1
open Go Go.AM
namespace Go.AM.R1

/-! ### Which block has a tick -/
def entIx : List Bk → Int → Nat
  | [], _ => 0
  | x :: r, t => if t < sumN x.2 then 0 else 1 + entIx r (t - sumN x.2)
theorem entIx_lt : ∀ (l : List Bk) (t : Int), 0 ≤ t → t < totB l → entIx l t < l.length
  | [], t, h0, h => by simp [totB] at h; omega
  | x :: r, t, h0, h => by
    rw [entIx]
    split
    · simp
    · have := entIx_lt r (t - sumN x.2) (by omega) (by simp only [totB] at h; omega)
      simp; omega
theorem entIx_bounds : ∀ (l : List Bk) (t : Int), 0 ≤ t → t < totB l → totB (l.take (entIx l t)) ≤ t ∧ t < totB (l.take (entIx l t + 1))
  | [], t, h0, h => by simp [totB] at h; omega
  | x :: r, t, h0, h => by
    rw [entIx]
    split
    · rename_i h1
      simp [totB]; omega
    · have := entIx_bounds r (t - sumN x.2) (by omega) (by simp only [totB] at h; omega)
      rw [show 1 + entIx r (t - sumN x.2) = entIx r (t - sumN x.2) + 1 by omega]
      simp only [List.take_succ_cons, totB]
      omega
/-- Ticks ahead of a block grow with its number. -/
theorem tot_mono {l : List Bk} (hg : Good 0 l) : ∀ {i j : Nat}, i ≤ j → totB (l.take i) ≤ totB (l.take j) := by
  intro i j h
  induction j with
  | zero => have : i = 0 := by omega
            subst this; exact Int.le_refl _
  | succ j ih =>
    by_cases hij : i = j + 1
    · subst hij; exact Int.le_refl _
    · have h1 := ih (by omega)
      by_cases hj : j < l.length
      · have := (take_succ_tot l j hj).1
        obtain ⟨g2, _⟩ := good_get l 0 j hj hg
        have := (chk_right (chkB_ok g2).2.2.2.1).2
        omega
      · rw [List.take_of_length_le (show l.length ≤ j + 1 by omega)]
        rw [List.take_of_length_le (show l.length ≤ j by omega)] at h1
        exact h1
def ixI (k : Nat) (lb le : Bool) (b : List Nat) (es : List Ent) (T : Int) : Heap :=
  [.box [.own (1 + k) b.length 1 0 b.length, .own (2 + k) es.length 2 0 es.length, .lit (.int .i64 T)], .arr true lb false 1 (b.map encB), .arr true le false 2 (es.map encEnt)]
theorem ixH_big {b : List Nat} (hb : b ≠ []) (lb le : Bool) (es : List Ent) (T : Int) : ixH false lb le b es T = ixI 0 lb le b es T := by simp [ixH, ixI, hb]
end Go.AM.R1
open Go Go.AM
namespace Go.AM.R1

/-! ### What an index tells -/
def allR (l : List Bk) : List Run := l.flatMap (·.2)
theorem allR_cons (x : Bk) (l : List Bk) : allR (x :: l) = x.2 ++ allR l := rfl
theorem allR_append (l m : List Bk) : allR (l ++ m) = allR l ++ allR m := by simp [allR]
theorem sumN_append : ∀ (l m : List Run), sumN (l ++ m) = sumN l + sumN m
  | [], m => by simp [sumN]
  | r :: l, m => by
    rw [List.cons_append, show sumN (r :: (l ++ m)) = r.N + sumN (l ++ m) from rfl, sumN_append l m, show sumN (r :: l) = r.N + sumN l from rfl]; omega
theorem allR_sum : ∀ l : List Bk, sumN (allR l) = totB l
  | [] => rfl
  | x :: l => by rw [allR_cons, sumN_append, allR_sum l]; rfl
theorem chk_all_right {l : List Run} (h : chk l = 0) : l.all right = true := by
  unfold chk at h
  cases ha : l.all right with
  | true => rfl
  | false => rw [ha] at h; simp at h
theorem good_right : ∀ (l : List Bk) (t : Int), Good t l → (allR l).all right = true
  | [], _, _ => rfl
  | x :: l, t, g => by
    rw [allR_cons, List.all_append, good_right l _ g.2.2.2, chk_all_right (chkB_ok g.2.1).2.2.2.1]; rfl
theorem good_chk {l : List Bk} {t : Int} (h0 : 0 ≤ t) (h1 : t ≤ 1073741824) (g : Good t l) : chk (allR l) = 0 := by
  have := good_tot l t h0 h1 g
  unfold chk
  rw [if_pos (good_right l t g), if_neg (by rw [allR_sum]; omega)]
theorem good_ok {l : List Bk} {t : Int} (h0 : 0 ≤ t) (h1 : t ≤ 1073741824) (g : Good t l) : ∀ r ∈ allR l, r.Ok := fun r hr => by
  have := (chk_right (good_chk h0 h1 g)).1 r hr
  exact ⟨by omega, by omega⟩
theorem bytesN_ge (l : List Nat) : l.length ≤ (bytesN l).length := by
  induction l with
  | nil => simp
  | cons n l ih =>
    have := List.length_pos_iff.2 (putN_pos n)
    simp only [bytesN, List.flatMap_cons, List.length_append, List.length_cons] at ih ⊢
    omega
theorem runs_le : ∀ (l : List Bk), 2 * (allR l).length ≤ (blksB l).length
  | [] => by simp [allR, blksB]
  | x :: l => by
    have h1 := runs_le l
    have h2 := bytesN_ge (numsN x.1 x.2)
    have h3 := whole_len (numsN x.1 x.2)
    have e : (numsN x.1 x.2).length = 2 * x.2.length + 2 := by simp only [numsN, List.length_cons, runN_length]
    rw [allR_cons, blksB_cons, List.length_append, List.length_append]
    show _ ≤ (wholeB (numsN x.1 x.2)).length + _
    omega
theorem pick_append : ∀ (A B : List Run) (t : Int), (∀ r ∈ A, 0 ≤ r.N) → 0 ≤ t → pick t (A ++ B) = if t < sumN A then pick t A else pick (t - sumN A) B
  | [], B, t, _, h0 => by
    have h : ¬ t < 0 := by omega
    simp [sumN, h]
  | r :: A, B, t, h, h0 => by
    have hr := h r (by simp)
    have hs : 0 ≤ sumN A := by
      have := expand_length A fun x hx => h x (by simp [hx])
      omega
    rw [List.cons_append, pick, pick, show sumN (r :: A) = r.N + sumN A from rfl]
    by_cases h1 : t < r.N
    · rw [if_pos h1, if_pos (by omega), if_pos h1]
    · rw [if_neg h1, pick_append A B (t - r.N) (fun x hx => h x (by simp [hx])) (by omega)]
      by_cases h2 : t - r.N < sumN A
      · rw [if_pos h2, if_pos (by omega), if_neg h1]
      · rw [if_neg h2, if_neg (by omega)]
        congr 1; omega
theorem good_nonneg {l : List Bk} {t : Int} (g : Good t l) : ∀ r ∈ allR l, 1 ≤ r.N ∧ r.N ≤ 1073741824 := fun r hr => right_N (List.all_eq_true.1 (good_right l t g) r hr)
/-- A tick of all is one of the block that has it. -/
theorem pick_all {l : List Bk} (hg : Good 0 l) {i : Nat} (hi : i < l.length) {t : Int} (h0 : totB (l.take i) ≤ t) (h1 : t < totB (l.take (i + 1))) : pick t (allR l) = pick (t - totB (l.take i)) l[i].2 := by
  have e : l = l.take i ++ (l[i] :: l.drop (i + 1)) := by rw [← List.drop_eq_getElem_cons hi, List.take_append_drop]
  have ht := tot_take_le l i hg
  have hk := (take_succ_tot l i hi).1
  obtain ⟨g2, _⟩ := good_get l 0 i hi hg
  have gr := (chk_right (chkB_ok g2).2.2.2.1).1
  conv => lhs; rw [e]
  rw [allR_append, pick_append _ _ _ (fun r hr => by have := good_nonneg (good_take l 0 i hg) r hr; omega) (by omega), allR_sum, if_neg (by omega), allR_cons,
    pick_append _ _ _ (fun r hr => by have := gr r hr; omega) (by omega), if_pos (by omega)]
end Go.AM.R1
open Go Go.AM
namespace Go.AM.R1

/-! ### What the machine does that was not needed before -/
def appZK (fl : Bool) (sz bytes : Nat) (zero : List AVal) (H : Heap) (s : AVal) : AVal → Option (AVal × Heap)
  | .lit (.int .i64 l) => if 0 ≤ l ∧ l ≤ 2 ^ 46 ∧ l * bytes ≤ 2 ^ 46 then aadd fl sz bytes H s (flatL zero) (List.replicate l.toNat zero) else none
  | _ => none
theorem aop_appendZ {c : Callee} {ρ : Opd → AVal} {H : Heap} (fl sz b z s n) : aop c ρ H (.appendZ fl sz b z s n) = appZK fl sz b z H (ρ s) (ρ n) := by
  unfold aop appZK; rfl
theorem appZK_int (fl : Bool) (sz bytes : Nat) (zero : List AVal) (H : Heap) (s : AVal) (l : Int) : appZK fl sz bytes zero H s (.lit (.int .i64 l)) = if 0 ≤ l ∧ l ≤ 2 ^ 46 ∧ l * bytes ≤ 2 ^ 46 then aadd fl sz bytes H s (flatL zero) (List.replicate l.toNat zero) else none := rfl
def capK (H : Heap) : AVal → Option (AVal × Heap)
  | .imm _ true _ es => some (vint .i64 es.length, H)
  | _ => none
theorem aop_cap {c : Callee} {ρ : Opd → AVal} {H : Heap} (x) : aop c ρ H (.cap x) = capK H (ρ x) := by
  unfold aop capK; rfl
theorem capK_imm (H : Heap) (n fl es) : capK H (.imm n true fl es) = some (vint .i64 es.length, H) := rfl
def cutK (sz : Nat) (H : Heap) (i len off n lo h m : Nat) : Option Entry → Option (AVal × Heap)
  | some (.arr fl lk _ se es) => if es.length = len ∧ se = sz ∧ off = 0 ∧ n = len ∧ lo = 0 ∧ h = m ∧ m ≤ n then
      some (.own H.length h sz 0 h, H.set i .dead ++ [.arr fl lk true sz (es.take h)]) else none
  | _ => none
theorem aslice_own_mx (sz : Nat) (H : Heap) (i len so off n lo h m : Nat) : aslice sz H (.own i len so off n) lo (some h) (some m) = if so ≠ sz then none else cutK sz H i len off n lo h m H[i]? := by
  simp only [aslice]
  split
  · rfl
  · cases H[i]? with
    | none => rfl
    | some e => cases e <;> rfl
theorem cutK_arr (sz : Nat) (H : Heap) (i len off n lo h m : Nat) (fl lk fu se es) : cutK sz H i len off n lo h m (some (.arr fl lk fu se es)) = if es.length = len ∧ se = sz ∧ off = 0 ∧ n = len ∧ lo = 0 ∧ h = m ∧ m ≤ n then
      some (.own H.length h sz 0 h, H.set i .dead ++ [.arr fl lk true sz (es.take h)]) else none := rfl
attribute [go_sem] aop_appendZ appZK_int aop_cap capK_imm aslice_own_mx cutK_arr

theorem rowsR (l : List Run) : rowsOk 3 (l.map encRun) = true := rowsOk_map (f := encRun) (fun _ => rfl) l
theorem noImm_encRun (l : List Run) : noImmLL (l.map encRun) = true := noImmLL_map (fun _ => rfl) l

/-! ### slices.Grow, Concat and Clone of runs -/
theorem grow_nil (n : Nat) (hn : n ≤ 1000000) : call E (.func (.func 169) [] []) [nilS, .lit (.int .i64 n)] []
    = some (if n = 0 then (nilS, []) else (.own 0 n 3 0 0, [.arr true false false 3 (List.replicate n [.lit (.int .i64 0), .lit (.int .i64 0), .lit (.int .u32 0)])])) := by
  rw [call_func E E169]
  have h0 : ¬ (n : Int) < 0 := by omega
  have w0 : IntKind.wrap .i64 0 = 0 := rfl
  have w1 : IntKind.wrap .i64 (n : Int) = n := wrap64 (by omega) (by omega)
  by_cases h : n = 0
  · subst h
    simp [go_sem, ir169, w0, purse_eq]
  · have h1 : 0 < (n : Int) := by omega
    have h1' : 0 < n := by omega
    have h2 : (n : Int) ≤ 70368744177664 := by omega
    have h3 : (n : Int) * 24 ≤ 70368744177664 := by omega
    have h4 : ¬ (70368744177664 < n * 24) := by omega
    have hr : rowsOk 3 (List.replicate n [AVal.lit (.int .i64 0), .lit (.int .i64 0), .lit (.int .u32 0)]) = true := by
      simp [rowsOk]
    simp [go_sem, ir169, h, h0, h1, h1', h2, h3, h4, hr, w0, w1, purse_eq, flatL, flatV]
theorem concat2_spec (X Y : List Run) (hl : X.length + Y.length ≤ 1000000) (fu xn xf yn yf : Bool) :
    call E (.func (.func 146) [] []) [.imm false fu true [[.imm xn xf true (X.map encRun)], [.imm yn yf true (Y.map encRun)]]] []
      = some (if X ++ Y = [] then (nilS, []) else (.own 0 (X ++ Y).length 3 0 (X ++ Y).length, [.arr true false false 3 ((X ++ Y).map encRun)])) := by
  rw [call_func E E146]
  have hG := grow_nil (X.length + Y.length) hl
  have wx : IntKind.wrap .i64 (X.length : Int) = X.length := wrap64 (by omega) (by omega)
  have wxy : IntKind.wrap .i64 ((X.length : Int) + (Y.length : Int)) = ((X.length + Y.length : Nat) : Int) := by rw [wrap64 (by omega) (by omega)]; omega
  have w1 : IntKind.wrap .i64 1 = 1 := rfl
  have w2 : IntKind.wrap .i64 2 = 2 := rfl
  have h0 : ¬ (X.length : Int) < 0 := by omega
  have h1 : ¬ ((X.length + Y.length : Nat) : Int) < 0 := by omega
  have h1' : ¬ (X.length : Int) + (Y.length : Int) < 0 := by omega
  have rX := rowsR X
  have rY := rowsR Y
  simp only [Int.natCast_add] at wxy hG h1
  simp [go_sem, ir146, purse_eq]
  rw [run_inLoop']
  simp [go_sem, purse_eq, run_codeL E L146_0.eq_1, wx, w1, h0]
  rw [run_inLoop']
  simp [go_sem, purse_eq, run_codeL E L146_0.eq_1, wxy, w2, h1']
  rw [run_inLoop']
  simp [go_sem, purse_eq, run_codeL E L146_0.eq_1]
  by_cases hX : X = []
  · subst hX
    by_cases hY : Y = []
    · subst hY
      simp [nilS] at hG
      simp [go_sem, hG, nilS, purse_eq]
      rw [run_inLoop']
      simp [go_sem, purse_eq, run_codeL E L146_1.eq_1, w1]
      rw [run_inLoop']
      simp [go_sem, purse_eq, run_codeL E L146_1.eq_1, w2]
      rw [run_inLoop']
      simp [go_sem, purse_eq, run_codeL E L146_1.eq_1]
    · have hp := List.length_pos_iff.2 hY
      have hne : ¬ 0 = Y.length := by omega
      have hb : ¬ (70368744177664 < Y.length * 24) := by omega
      simp [nilS, hY] at hG
      simp [go_sem, hG, nilS, purse_eq]
      rw [run_inLoop']
      simp [go_sem, purse_eq, run_codeL E L146_1.eq_1, w1, hY]
      rw [run_inLoop']
      simp [go_sem, purse_eq, run_codeL E L146_1.eq_1, w2, hY, rY, hne, hb]
      rw [run_inLoop']
      simp [go_sem, purse_eq, run_codeL E L146_1.eq_1, hY]
  · have hp := List.length_pos_iff.2 hX
    have hne : ¬ 0 = X.length + Y.length := by omega
    have hb : ¬ (70368744177664 < X.length * 24) := by omega
    have hb2 : ¬ (70368744177664 < (X.length + Y.length) * 24) := by omega
    simp [nilS, hX] at hG
    simp [go_sem, hG, nilS, purse_eq]
    rw [run_inLoop']
    simp [go_sem, purse_eq, run_codeL E L146_1.eq_1, w1, hX, rX, hne, hb]
    rw [run_inLoop']
    by_cases hY : Y = []
    · subst hY
      simp [go_sem, purse_eq, run_codeL E L146_1.eq_1, w2, hX]
      rw [run_inLoop']
      simp [go_sem, purse_eq, run_codeL E L146_1.eq_1, hX]
    · simp [go_sem, purse_eq, run_codeL E L146_1.eq_1, w2, hX, hY, rY, hb2]
      rw [run_inLoop']
      simp [go_sem, purse_eq, run_codeL E L146_1.eq_1, hX]
theorem rclone_spec (X : List Run) (hl : X.length ≤ 1000000) (xf : Bool) :
    call E (.func (.func 118) [] []) [.imm false xf true (X.map encRun)] [] = some (.own 0 X.length 3 0 X.length, [.arr true false X.isEmpty 3 (X.map encRun)]) := by
  rw [call_func E E118]
  have rX := rowsR X
  have hb : ¬ (70368744177664 < X.length * 24) := by omega
  cases X with
  | nil => simp [go_sem, ir118, purse_eq]
  | cons x r =>
    simp at rX
    have hb' : ¬ (70368744177664 < (r.length + 1) * 24) := by simp at hl; omega
    simp [go_sem, ir118, rX, hb', purse_eq]
theorem rclone_nil : call E (.func (.func 118) [] []) [nilS] [] = some (nilS, []) := by
  rw [call_func E E118]
  simp [go_sem, ir118, purse_eq, nilS]
end Go.AM.R1
open Go Go.AM
namespace Go.AM.R1

/-! ### A file, and the log in a new one -/
def fileB (bV : AVal) (sure : Nat) (most : Int) (cr : Bool) : Entry := .box [bV, .lit (.int .i64 sure), .lit (.int .i64 most), .lit (.bool cr)]
theorem fnew_spec (most : Int) (h : 1 ≤ most ∧ most ≤ 67108864) : call E (.func (.func 55) [] []) [.lit (.int .i64 most)] [] = some (.tup [.ptr 0 0, .lit (.int .i64 0)], [fileB nilS 0 most false]) := by
  rw [call_func E E55]
  have h1 : ¬ most < 1 := by omega
  have h2 : ¬ 67108864 < most := by omega
  simp [go_sem, ir55, h1, h2, fileB, nilS, purse_eq, List.range_succ]
theorem fcheck_spec (bV : AVal) (sure : Nat) (most : Int) (cr : Bool) (H : Heap) (hr : reach (fileB bV sure most cr :: H) purse (refsV bV ++ []) [0] = some (List.range (H.length + 1))) : True := trivial

/-! #### New -/
def fN (most : Int) (cr : Bool) : Heap := [fileB nilS 0 most cr]
theorem ncheck (most : Int) (cr : Bool) : call E (.func (.func 111) [] []) [.ptr 0 0] (fN most cr) = some (.lit (.int .i64 (if cr = true then 25 else 0)), fN most cr) := by
  rw [call_func E E111]
  cases cr <;> simp [go_sem, ir111, fN, fileB, nilS, purse_eq, List.range_succ]
theorem nsize (most : Int) (cr : Bool) : call E (.func (.func 112) [] []) [.ptr 0 0] (fN most cr) = some (.lit (.int .i64 0), fN most cr) := by
  rw [call_func E E112]
  simp [go_sem, ir112, fN, fileB, nilS, purse_eq, List.range_succ]
theorem nflush (most : Int) (cr : Bool) : call E (.func (.func 57) [] []) [.ptr 0 0] (fN most cr) = some (.lit (.int .i64 (if cr = true then 25 else 0)), fN most cr) := by
  rw [call_func E E57]
  have h1 := ncheck most cr
  have h2 := nsize most cr
  cases cr
  · simp [fN, fileB, nilS] at h1 h2
    simp [go_sem, ir57, fN, fileB, nilS, h1, h2, purse_eq, List.range_succ]
  · simp [fN, fileB, nilS] at h1 h2
    simp [go_sem, ir57, fN, fileB, nilS, h1, h2, purse_eq, List.range_succ]
theorem nlen (most : Int) (cr : Bool) : call E (.func (.func 61) [] []) [.ptr 0 0] (fN most cr) = some (.lit (.int .i64 0), fN most cr) := by
  rw [call_func E E61]
  have h2 := nsize most cr
  simp [fN, fileB, nilS] at h2
  simp [go_sem, ir61, fN, fileB, nilS, h2, purse_eq, List.range_succ]
theorem nsure (most : Int) (cr : Bool) : call E (.func (.func 120) [] []) [.ptr 0 0] (fN most cr) = some (.lit (.int .i64 0), fN most cr) := by
  rw [call_func E E120]
  simp [go_sem, ir120, fN, fileB, nilS, purse_eq, List.range_succ]
theorem bclone_nil (fu : Bool) : call E (.func (.func 79) [] []) [.imm true fu true []] [] = some (nilS, []) := by
  rw [call_func E E79]
  simp [go_sem, ir79, purse_eq]
theorem nbytes (most : Int) (cr : Bool) : call E (.func (.func 73) [] []) [.ptr 0 0] (fN most cr) = some (nilS, fN most cr) := by
  rw [call_func E E73]
  have h2 := bclone_nil true
  simp [nilS] at h2
  simp [go_sem, ir73, fN, fileB, nilS, h2, purse_eq, List.range_succ]
theorem nkeep (most : Int) (cr : Bool) : call E (.func (.func 153) [] []) [.ptr 0 0, .lit (.int .i64 0)] (fN most cr) = some (.tup [], fN most cr) := by
  rw [call_func E E153]
  simp [go_sem, ir153, fN, fileB, nilS, purse_eq, List.range_succ]
theorem ncut (most : Int) : call E (.func (.func 116) [] []) [.ptr 0 0, .lit (.int .i64 0)] (fN most false) = some (.lit (.int .i64 0), fN most false) := by
  rw [call_func E E116]
  have h1 := ncheck most false
  have h2 := nsize most false
  have h3 := nkeep most false
  simp [fN, fileB, nilS] at h1 h2 h3
  simp [go_sem, ir116, fN, fileB, nilS, h1, h2, h3, purse_eq, List.range_succ]
/-! #### Log: empty -/
def lN (most : Int) (cr : Bool) : Heap := [.box [.ptr 1 0, nilS, nilS, nilS], fileB nilS 0 most cr]
theorem nlast (most : Int) (cr : Bool) : call E (.func (.func 115) [] []) [.ptr 0 0] (lN most cr) = some (.agg [.lit (.int .i64 0), .lit (.int .i64 0)], lN most cr) := by
  rw [call_func E E115]
  simp [go_sem, ir115, lN, fileB, nilS, purse_eq, List.range_succ]
theorem ticks_nil : call E (.func (.func 49) [] []) [nilS] [] = some (.tup [.lit (.int .i64 0), .lit (.int .i64 0)], []) := by
  have := ticks_spec [] (by simp) (by simp) true true
  simpa [nilS, ticks, ticksGo] using this
theorem nwaiting (most : Int) (cr : Bool) : call E (.func (.func 119) [] []) [.ptr 0 0] (lN most cr) = some (.lit (.int .i64 0), lN most cr) := by
  rw [call_func E E119]
  have h := ticks_nil
  simp [nilS] at h
  simp [go_sem, ir119, lN, fileB, nilS, h, purse_eq, List.range_succ]
theorem nticks (most : Int) (cr : Bool) : call E (.func (.func 64) [] []) [.ptr 0 0] (lN most cr) = some (.lit (.int .i64 0), lN most cr) := by
  rw [call_func E E64]
  have h1 := nlast most cr
  have h2 := nwaiting most cr
  have w : IntKind.wrap .i64 0 = 0 := rfl
  simp [lN, fileB, nilS] at h1 h2
  simp [go_sem, ir64, lN, fileB, nilS, h1, h2, w, purse_eq, List.range_succ]
theorem nlflush (most : Int) (cr : Bool) : call E (.func (.func 75) [] []) [.ptr 0 0] (lN most cr) = some (.lit (.int .i64 (if cr = true then 25 else 0)), lN most cr) := by
  rw [call_func E E75]
  have h1 := nflush most cr
  cases cr
  · simp [fN, fileB, nilS] at h1
    simp [go_sem, ir75, lN, fileB, nilS, h1, purse_eq, List.range_succ]
  · simp [fN, fileB, nilS] at h1
    simp [go_sem, ir75, lN, fileB, nilS, h1, purse_eq, List.range_succ]
theorem nruns (most : Int) (cr : Bool) : call E (.func (.func 60) [] []) [.ptr 0 0] (lN most cr) = some (.tup [nilS, .lit (.int .i64 0)], lN most cr) := by
  rw [call_func E E60]
  have h := rclone_nil
  simp [nilS] at h
  simp [go_sem, ir60, lN, fileB, nilS, h, purse_eq, List.range_succ]
theorem nlsure (most : Int) (cr : Bool) : call E (.func (.func 66) [] []) [.ptr 0 0] (lN most cr) = some (.lit (.int .i64 0), lN most cr) := by
  rw [call_func E E66]
  simp [go_sem, ir66, lN, fileB, nilS, purse_eq, List.range_succ]
  rw [run_inLoop']
  simp [go_sem, purse_eq, List.range_succ, run_codeL E L66_0.eq_1]
/-- What goes through no bytes at all. -/
theorem nblocks1 (most : Int) : call E (.func (.func 145) [] [.ptr 0 0]) [.yld 1]
      [.box [nilS], .loop 0 none [(5, .ptr 2 0)] [16, 17] A58_0 B58_0, .box [.ptr 3 0], .box [.ptr 4 0, nilS, nilS, nilS], fileB nilS 0 most false]
    = some (.tup [], [.box [nilS], .loop 0 none [(5, .ptr 2 0)] [16, 17] A58_0 B58_0, .box [.ptr 3 0], .box [.ptr 4 0, nilS, nilS, nilS], fileB nilS 0 most false]) := by
  rw [call_func E E145]
  have hG := bget_spec [] (by simp) (by simp) true true (.inr rfl)
  have hg : getB [] = ((0, []), 0, 13) := by decide
  rw [hg] at hG
  simp [resV, resHl, nilS] at hG
  simp [go_sem, ir145, fileB, purse_eq, nilS]
  rw [run_inLoop']
  simp [go_sem, purse_eq, List.range_succ]
  simp [go_sem, run_codeL E L145_0.eq_1, hG, purse_eq, List.range_succ]
theorem nopen (most : Int) : call E (.func (.func 58) [] []) [.ptr 0 0] (fN most false) = some (.tup [.ptr 1 0, .lit (.int .i64 0), .lit (.int .i64 0)], [fileB nilS 0 most false, .box [.ptr 0 0, nilS, nilS, nilS]]) := by
  rw [call_func E E58]
  have h1 := nbytes most false
  have h2 := blocks_spec true true []
  have h3 := nblocks1 most
  have h4 := nlen most false
  have h5 := nlast most false
  have h6 := ncut most
  have w : IntKind.wrap .i64 0 = 0 := rfl
  simp [fN, lN, fileB, nilS] at h1 h2 h3 h4 h5 h6
  simp [go_sem, ir58, fN, fileB, nilS, h1, h2, h3, h4, h5, h6, w, purse_eq, List.range_succ]
theorem lmade_spec (most : Int) (h : 1 ≤ most ∧ most ≤ 67108864) : call E (.func (.func 69) [] []) [.lit (.int .i64 most)] [] = some (.tup [.ptr 0 0, .ptr 1 0], lN most false) := by
  rw [call_func E E69]
  have h1 := fnew_spec most h
  have h2 := nopen most
  simp [fN, fileB, nilS] at h1 h2
  simp [go_sem, ir69, h1, h2, lN, fileB, nilS, purse_eq, List.range_succ]
end Go.AM.R1
open Go Go.AM
namespace Go.AM.R1

/-! ### A log with one block; and with runs that wait -/
def endE (n : Nat) (T : Int) : List AVal := [.lit (.int .i64 n), .lit (.int .i64 T)]
def fB (ff : Bool) (fb : List Nat) (sure : Nat) (most : Int) (cr : Bool) : Heap := [fileB (.own 1 fb.length 1 0 fb.length) sure most cr, .arr true false ff 1 (fb.map encB)]
theorem bcheck1 (ff : Bool) (fb : List Nat) (sure : Nat) (most : Int) (cr : Bool) : call E (.func (.func 111) [] []) [.ptr 0 0] (fB ff fb sure most cr) = some (.lit (.int .i64 (if cr = true then 25 else 0)), fB ff fb sure most cr) := by
  rw [call_func E E111]
  cases cr <;> simp [go_sem, ir111, fB, fileB, purse_eq, List.range_succ]
theorem bsize1 (ff : Bool) (fb : List Nat) (sure : Nat) (most : Int) (cr : Bool) : call E (.func (.func 112) [] []) [.ptr 0 0] (fB ff fb sure most cr) = some (.lit (.int .i64 fb.length), fB ff fb sure most cr) := by
  rw [call_func E E112]
  simp [go_sem, ir112, fB, fileB, purse_eq, List.range_succ]
theorem bflush1 (ff : Bool) (fb : List Nat) (sure : Nat) (most : Int) (cr : Bool) : call E (.func (.func 57) [] []) [.ptr 0 0] (fB ff fb sure most cr) = some (.lit (.int .i64 (if cr = true then 25 else 0)), fB ff fb (if cr = true then sure else fb.length) most cr) := by
  rw [call_func E E57]
  have h1 := bcheck1 ff fb sure most cr
  have h2 := bsize1 ff fb sure most cr
  cases cr
  · simp [fB, fileB] at h1 h2
    simp [go_sem, ir57, fB, fileB, h1, h2, purse_eq, List.range_succ]
  · simp [fB, fileB] at h1 h2
    simp [go_sem, ir57, fB, fileB, h1, h2, purse_eq, List.range_succ]
theorem bsure1 (ff : Bool) (fb : List Nat) (sure : Nat) (most : Int) (cr : Bool) : call E (.func (.func 120) [] []) [.ptr 0 0] (fB ff fb sure most cr) = some (.lit (.int .i64 sure), fB ff fb sure most cr) := by
  rw [call_func E E120]
  simp [go_sem, ir120, fB, fileB, purse_eq, List.range_succ]
/-- Bytes that are put into a new file. -/
theorem nadd (most : Int) (b : List Nat) (hb : b ≠ []) (hl : b.length ≤ 1000000) (fu : Bool) : call E (.func (.func 113) [] []) [.ptr 0 0, .imm false fu true (b.map encB)] (fN most false)
    = some (.tup [], fB false b 0 most false) := by
  rw [call_func E E113]
  have hr := rowsB b
  have hp := List.length_pos_iff.2 hb
  have hbb : ¬ (70368744177664 < b.length) := by omega
  simp [go_sem, ir113, fN, fB, fileB, nilS, hr, hb, hbb, purse_eq, List.range_succ]
theorem nfappend (most : Int) (b : List Nat) (hb : b ≠ []) (hl : b.length ≤ 1000000) (hm : (b.length : Int) ≤ most) (hm2 : most ≤ 67108864) (fu : Bool) : call E (.func (.func 56) [] []) [.ptr 0 0, .imm false fu true (b.map encB)] (fN most false)
    = some (.lit (.int .i64 0), fB false b 0 most false) := by
  rw [call_func E E56]
  have h1 := ncheck most false
  have h2 := nsize most false
  have h3 := nadd most b hb hl fu
  have w : IntKind.wrap .i64 (most - 0) = most := by rw [Int.sub_zero, wrap64 (by omega) (by omega)]
  have w' : IntKind.wrap .i64 most = most := by rw [wrap64 (by omega) (by omega)]
  have h4 : ¬ most < (b.length : Int) := by omega
  simp [fN, fB, fileB, nilS] at h1 h2 h3
  simp [go_sem, ir56, fN, fB, fileB, nilS, h1, h2, h3, w, w', h4, purse_eq, List.range_succ]
/-! #### Runs that wait -/
def lW (lk : Bool) (W : List Run) (most : Int) : Heap := [.box [.ptr 1 0, nilS, nilS, .own 2 W.length 3 0 W.length], fileB nilS 0 most false, .arr true lk false 3 (W.map encRun)]
theorem wlast (lk : Bool) (W : List Run) (most : Int) : call E (.func (.func 115) [] []) [.ptr 0 0] (lW lk W most) = some (.agg [.lit (.int .i64 0), .lit (.int .i64 0)], lW lk W most) := by
  rw [call_func E E115]
  simp [go_sem, ir115, lW, fileB, nilS, purse_eq, List.range_succ]
/-- Runs that wait in a log with its file's bytes. -/
def lV (ff lk : Bool) (fb : List Nat) (W : List Run) (most : Int) : Heap := [.box [.ptr 1 0, nilS, nilS, .own 3 W.length 3 0 W.length], fileB (.own 2 fb.length 1 0 fb.length) 0 most false, .arr true false ff 1 (fb.map encB), .arr true lk false 3 (W.map encRun)]
theorem vwaiting (ff lk : Bool) (fb : List Nat) (W : List Run) (hl : W.length ≤ 4096) (hc : chk W = 0) (most : Int) : call E (.func (.func 119) [] []) [.ptr 0 0] (lV ff lk fb W most) = some (.lit (.int .i64 (sumN W)), lV ff true fb W most) := by
  rw [call_func E E119]
  have hT := ticks_spec W (by omega) (fun r hr => by have := (chk_right hc).1 r hr; exact ⟨by omega, by omega⟩) false false
  rw [ticks_eq, if_pos hc, hc] at hT
  simp [go_sem, ir119, lV, fileB, nilS, hT, purse_eq, List.range_succ]
theorem vwrite (ff lk : Bool) (fb : List Nat) (W : List Run) (hW : W ≠ []) (hl : W.length ≤ 4096) (hc : chk W = 0) (hj : joined [] W = W) (most : Int) (n : Nat) (T : Int) (fu : Bool) :
    call E (.func (.func 114) [] []) [.ptr 0 0, .imm false fu true (W.map encRun), .agg (endE n T)] (lV ff lk fb W most)
      = some (.tup [], [.box [.ptr 1 0, .own 4 W.length 3 0 W.length, .own 5 1 2 0 1, .own 3 W.length 3 0 W.length], fileB (.own 2 fb.length 1 0 fb.length) 0 most false, .arr true false ff 1 (fb.map encB), .arr true lk false 3 (W.map encRun), .arr true false false 3 (W.map encRun), .arr true false false 2 [endE n T]]) := by
  rw [call_func E E114]
  have hN := (chk_right hc).1
  have hok : ∀ r ∈ W, r.Ok := fun r hr => by have := hN r hr; exact ⟨by omega, by omega⟩
  have hsu := (chk_right hc).2
  have hJ := join_spec W (by omega) hok false false
  rw [joinGo_eq W 0 [] (by rw [posSum_of_right _ (fun r hr => by have := hN r hr; omega)]; omega), hj] at hJ
  have hr := rowsR W
  have hbb : ¬ (70368744177664 < W.length * 24) := by omega
  simp [resV, resH, hW] at hJ
  simp [go_sem, ir114, lV, fileB, endE, nilS, hr, hW, hbb, hJ, purse_eq, List.range_succ]
/-- What the file's bytes are, when all is written. -/
theorem wflush (lk : Bool) (W : List Run) (hc : chkB 0 W = 0) (hj : joined [] W = W) (hd : ∀ r ∈ W, 0 ≤ r.Drive ∧ r.Drive ≤ 4294967295) (most : Int) (hm : ((putBk (0, W)).length : Int) ≤ most) (hm2 : most ≤ 67108864) :
    call E (.func (.func 75) [] []) [.ptr 0 0] (lW lk W most)
      = some (.lit (.int .i64 0), [.box [.ptr 1 0, .own 3 W.length 3 0 W.length, .own 4 1 2 0 1, nilS], fileB (.own 5 (putBk (0, W)).length 1 0 (putBk (0, W)).length) (putBk (0, W)).length most false, .arr true true false 3 (W.map encRun),
          .arr true false false 3 (W.map encRun), .arr true false false 2 [endE (putBk (0, W)).length (sumN W)], .arr true false false 1 ((putBk (0, W)).map encB)]) := by
  rw [call_func E E75]
  obtain ⟨c1, c2, c3, c4, c5, c6⟩ := chkB_ok hc
  have hN := (chk_right c4).1
  have hok : ∀ r ∈ W, r.Ok := fun r hr => by have := hN r hr; exact ⟨by omega, by omega⟩
  have hsu := (chk_right c4).2
  have h1 := fun lk => wlast lk W most
  have hP := bput_spec 0 (by omega) W (by omega) hok false false hc
  rw [show wholeB (numsN 0 W) = putBk (0, W) from rfl] at hP
  have hlen := putBk_len (x := (0, W)) hc
  have hne : putBk (0, W) ≠ [] := by intro q; rw [q] at hlen; simp at hlen
  have hA := nfappend most (putBk (0, W)) hne (by omega) hm hm2 false
  have hWt := vwaiting false true (putBk (0, W)) W (by omega) c4 most
  have w1 : IntKind.wrap .i64 ((putBk (0, W)).length : Int) = (putBk (0, W)).length := wrap64 (by omega) (by omega)
  have w2 : IntKind.wrap .i64 (sumN W) = sumN W := wrap64 (by omega) (by omega)
  have hWr := vwrite false true (putBk (0, W)) W c2 (by omega) c4 hj most (putBk (0, W)).length (sumN W) false
  have hF := bflush1 false (putBk (0, W)) 0 most false
  generalize putBk (0, W) = B at *
  have h1t := h1 true
  have h1f := h1 lk
  simp [lW, fileB, nilS] at h1t h1f
  simp [encBlk] at hP
  simp [fN, fB, fileB, nilS] at hA hF
  simp [lV, fileB, nilS, endE] at hWt hWr
  simp [go_sem, ir75, lW, fileB, nilS, c2, h1f, h1t, hP, hA, hWt, hWr, hF, w1, w2, endE, purse_eq, List.range_succ]
end Go.AM.R1
open Go Go.AM
namespace Go.AM.R1

/-! ### A log with one block -/
def lB (ff lw : Bool) (fb : List Nat) (W : List Run) (T : Int) (sure : Nat) (most : Int) (cr : Bool) : Heap :=
  [.box [.ptr 1 0, .own 3 W.length 3 0 W.length, .own 4 1 2 0 1, nilS], fileB (.own 2 fb.length 1 0 fb.length) sure most cr, .arr true false ff 1 (fb.map encB), .arr true lw false 3 (W.map encRun), .arr true false false 2 [endE fb.length T]]
theorem blast1 (ff lw : Bool) (fb W T sure most cr) : call E (.func (.func 115) [] []) [.ptr 0 0] (lB ff lw fb W T sure most cr) = some (.agg (endE fb.length T), lB ff lw fb W T sure most cr) := by
  rw [call_func E E115]
  have w : IntKind.wrap .i64 (1 - 1) = 0 := rfl
  have w' : IntKind.wrap .i64 0 = 0 := rfl
  simp [go_sem, ir115, lB, fileB, endE, nilS, w, w', purse_eq, List.range_succ]
theorem bwaiting1 (ff lw : Bool) (fb W T sure most cr) : call E (.func (.func 119) [] []) [.ptr 0 0] (lB ff lw fb W T sure most cr) = some (.lit (.int .i64 0), lB ff lw fb W T sure most cr) := by
  rw [call_func E E119]
  have h := ticks_nil
  simp [nilS] at h
  simp [go_sem, ir119, lB, fileB, endE, nilS, h, purse_eq, List.range_succ]
theorem bticks1 (ff lw : Bool) (fb W) (T : Int) (hT : 0 ≤ T ∧ T ≤ 1073741824) (sure most cr) : call E (.func (.func 64) [] []) [.ptr 0 0] (lB ff lw fb W T sure most cr) = some (.lit (.int .i64 T), lB ff lw fb W T sure most cr) := by
  rw [call_func E E64]
  have h1 := blast1 ff lw fb W T sure most cr
  have h2 := bwaiting1 ff lw fb W T sure most cr
  have w : IntKind.wrap .i64 (T + 0) = T := by rw [Int.add_zero, wrap64 (by omega) (by omega)]
  have w' : IntKind.wrap .i64 T = T := wrap64 (by omega) (by omega)
  simp [lB, fileB, endE, nilS] at h1 h2
  simp [go_sem, ir64, lB, fileB, endE, nilS, h1, h2, w, w', purse_eq, List.range_succ]
theorem blflush1 (ff lw : Bool) (fb W T sure most cr) : call E (.func (.func 75) [] []) [.ptr 0 0] (lB ff lw fb W T sure most cr) = some (.lit (.int .i64 (if cr = true then 25 else 0)), lB ff lw fb W T (if cr = true then sure else fb.length) most cr) := by
  rw [call_func E E75]
  have h1 := bflush1 ff fb sure most cr
  cases cr
  · simp [fB, fileB] at h1
    simp [go_sem, ir75, lB, fileB, endE, nilS, h1, purse_eq, List.range_succ]
  · simp [fB, fileB] at h1
    simp [go_sem, ir75, lB, fileB, endE, nilS, h1, purse_eq, List.range_succ]
theorem bruns1 (ff lw : Bool) (fb W) (hW : W ≠ []) (hl : W.length ≤ 4096) (T sure most cr) : call E (.func (.func 60) [] []) [.ptr 0 0] (lB ff lw fb W T sure most cr)
    = some (.tup [.own 5 W.length 3 0 W.length, .lit (.int .i64 0)], lB ff true fb W T sure most cr ++ [.arr true false false 3 (W.map encRun)]) := by
  rw [call_func E E60]
  have h := rclone_spec W (by omega) false
  have hWe : W.isEmpty = false := by cases W with | nil => exact absurd rfl hW | cons x r => rfl
  rw [hWe] at h
  simp [go_sem, ir60, lB, fileB, endE, nilS, h, purse_eq, List.range_succ]
theorem blsure1 (ff lw : Bool) (fb W) (T sure most cr) (hs : fb.length ≤ sure) : call E (.func (.func 66) [] []) [.ptr 0 0] (lB ff lw fb W T sure most cr) = some (.lit (.int .i64 T), lB ff lw fb W T sure most cr) := by
  rw [call_func E E66]
  have h1 := bsure1 ff fb sure most cr
  have w1 : IntKind.wrap .i64 1 = 1 := rfl
  simp [fB, fileB] at h1
  simp [go_sem, ir66, lB, fileB, endE, nilS, purse_eq, List.range_succ]
  rw [run_inLoop']
  simp [go_sem, purse_eq, List.range_succ]
  simp [go_sem, run_codeL E L66_0.eq_1, h1, hs, w1, purse_eq, List.range_succ]
  rw [run_inLoop']
  simp [go_sem, purse_eq, List.range_succ]
  simp [go_sem, run_codeL E L66_0.eq_1, purse_eq, List.range_succ]
/-! ### Runs that are put in -/
theorem nlappend (W : List Run) (r : List Run) (hl : r.length ≤ 12) (hok : ∀ x ∈ r, x.Ok) (hn : ∀ x ∈ r, x.N ≤ 1000000) (most : Int) (nl fu : Bool) (hW : joined [] r = W) :
    call E (.func (.func 109) [] []) [.ptr 0 0, .imm nl fu true (r.map encRun)] (lN most false)
      = some (if chk r = 0 then (.lit (.int .i64 0), if r = [] then lN most false else lW false W most) else (.lit (.int .i64 (chk r)), lN most false)) := by
  rw [call_func E E109]
  have hT := ticks_spec r (by omega) hok nl fu
  rw [ticks_eq] at hT
  by_cases hc : chk r = 0
  · rw [if_pos hc] at hT ⊢
    rw [hc] at hT
    have hN := (chk_right hc).1
    have hsu := (chk_right hc).2
    have hps := posSum_le r 1000000 (by omega) hn
    have hpr := posSum_of_right r (fun x hx => by have := hN x hx; omega)
    have hC := concat2_spec [] r (by simp; omega) false true true nl fu
    have hC2 := concat2_spec [] r (by simp; omega) true true true nl fu
    have hK := nticks most false
    have wT : IntKind.wrap .i64 (0 + sumN r) = sumN r := by rw [Int.zero_add, wrap64 (by omega) (by omega)]
    have wT' : IntKind.wrap .i64 (sumN r) = sumN r := wrap64 (by omega) (by omega)
    have hnb : ¬ 1073741824 < sumN r := by omega
    simp [lN, fileB, nilS] at hK
    by_cases hr : r = []
    · subst hr
      have hJ := join_spec [] (by simp) (by simp) true true
      simp [joinGo, resV, resH, nilS, sumN] at hJ hC hC2 hT wT wT'
      have w0 : IntKind.wrap .i64 0 = 0 := rfl
      simp [go_sem, ir109, lN, fileB, nilS, hT, hC, hC2, hJ, hK, w0, purse_eq, List.range_succ]
    · have hJ := join_spec r (by omega) hok false false
      rw [joinGo_eq r 0 [] (by omega), hW] at hJ
      have hjc := joined_chk hc
      have hWne : W ≠ [] := by
        intro q
        have h1 := hjc.2.1
        rw [hW, q] at h1
        cases r with
        | nil => exact hr rfl
        | cons x xs =>
          have h2 := hN x (by simp)
          have h3 : 0 ≤ sumN xs := by
            have := expand_length xs (fun y hy => by have := hN y (by simp [hy]); omega)
            omega
          rw [show sumN (x :: xs) = x.N + sumN xs from rfl] at h1
          simp [sumN] at h1
          omega
      have hWl := joined_length r []
      rw [hW] at hWl
      simp at hWl
      have hl4 : ¬ (4096 : Int) < (W.length : Int) := by omega
      simp [resV, resH, hWne] at hJ
      simp [hr] at hC hC2
      simp [go_sem, ir109, lN, lW, fileB, nilS, hr, hT, hC, hC2, hJ, hK, wT, wT', hnb, hl4, purse_eq, List.range_succ]
  · rw [if_neg hc] at hT ⊢
    simp [go_sem, ir109, lN, fileB, nilS, hT, hc, purse_eq, List.range_succ]
/-! ### Without a log -/
theorem zruns : call E (.func (.func 60) [] []) [.lit (.pointer none)] [] = some (.tup [nilS, .lit (.int .i64 2)], []) := by
  rw [call_func E E60]; simp [go_sem, ir60, purse_eq, nilS]
theorem zappend (nl fu : Bool) (rows : List (List AVal)) : call E (.func (.func 109) [] []) [.lit (.pointer none), .imm nl fu true rows] [] = some (.lit (.int .i64 2), []) := by
  rw [call_func E E109]; simp [go_sem, ir109, purse_eq, nilS]
theorem zflush : call E (.func (.func 75) [] []) [.lit (.pointer none)] [] = some (.lit (.int .i64 2), []) := by
  rw [call_func E E75]; simp [go_sem, ir75, purse_eq, nilS]
theorem zticks : call E (.func (.func 64) [] []) [.lit (.pointer none)] [] = some (.lit (.int .i64 0), []) := by
  rw [call_func E E64]; simp [go_sem, ir64, purse_eq, nilS]
theorem zsure : call E (.func (.func 66) [] []) [.lit (.pointer none)] [] = some (.lit (.int .i64 0), []) := by
  rw [call_func E E66]; simp [go_sem, ir66, purse_eq, nilS]
theorem zblocks : call E (.func (.func 63) [] []) [.lit (.pointer none)] [] = some (.lit (.int .i64 0), []) := by
  rw [call_func E E63]; simp [go_sem, ir63, purse_eq, nilS]
theorem zblocks1 : call E (.func (.func 145) [] [.ptr 0 0]) [.yld 1]
      [.box [nilS], .loop 0 none [(5, .ptr 2 0)] [16, 17] A58_0 B58_0, .box [.ptr 3 0], .box [.lit (.pointer none), nilS, nilS, nilS]]
    = some (.tup [], [.box [nilS], .loop 0 none [(5, .ptr 2 0)] [16, 17] A58_0 B58_0, .box [.ptr 3 0], .box [.lit (.pointer none), nilS, nilS, nilS]]) := by
  rw [call_func E E145]
  have hG := bget_spec [] (by simp) (by simp) true true (.inr rfl)
  have hg : getB [] = ((0, []), 0, 13) := by decide
  rw [hg] at hG
  simp [resV, resHl, nilS] at hG
  simp [go_sem, ir145, purse_eq, nilS]
  rw [run_inLoop']
  simp [go_sem, purse_eq, List.range_succ]
  simp [go_sem, run_codeL E L145_0.eq_1, hG, purse_eq, List.range_succ]
theorem zopen : call E (.func (.func 58) [] []) [.lit (.pointer none)] [] = some (.tup [.lit (.pointer none), .lit (.int .i64 0), .lit (.int .i64 2)], []) := by
  have h1 : call E (.func (.func 73) [] []) [.lit (.pointer none)] [] = some (nilS, []) := by
    rw [call_func E E73]; simp [go_sem, ir73, purse_eq, nilS]
  have h2 := blocks_spec true true []
  have h3 := zblocks1
  have h4 : call E (.func (.func 61) [] []) [.lit (.pointer none)] [] = some (.lit (.int .i64 0), []) := by
    rw [call_func E E61]; simp [go_sem, ir61, purse_eq, nilS]
  have h5 : call E (.func (.func 115) [] []) [.ptr 0 0] [.box [.lit (.pointer none), nilS, nilS, nilS]] = some (.agg [.lit (.int .i64 0), .lit (.int .i64 0)], [.box [.lit (.pointer none), nilS, nilS, nilS]]) := by
    rw [call_func E E115]
    simp [go_sem, ir115, nilS, purse_eq, List.range_succ]
  have h7 : call E (.func (.func 111) [] []) [.lit (.pointer none)] [] = some (.lit (.int .i64 2), []) := by
    rw [call_func E E111]; simp [go_sem, ir111, purse_eq, nilS]
  have h6 : call E (.func (.func 116) [] []) [.lit (.pointer none), .lit (.int .i64 0)] [] = some (.lit (.int .i64 2), []) := by
    rw [call_func E E116]; simp [go_sem, ir116, h7, purse_eq, nilS]
  rw [call_func E E58]
  have w : IntKind.wrap .i64 0 = 0 := rfl
  simp [nilS] at h1 h2 h3 h5
  simp [go_sem, ir58, nilS, h1, h2, h3, h4, h5, h6, w, purse_eq, List.range_succ]
end Go.AM.R1
open Go Go.AM
namespace Go.AM.R1

theorem tidy_dup17 : ∀ {l : List Run}, (∀ r ∈ l, right r = true) → Tidy l → dup l = false
  | [], _, _ => rfl
  | [_], _, _ => rfl
  | a :: b :: l, hr, ht => by
    have h0 := ht.2 0 (by simp)
    simp only [List.getElem_cons_zero, List.getElem_cons_succ] at h0
    have ha := hr a (by simp)
    have hb := hr b (by simp)
    simp only [right, Bool.and_eq_true, decide_eq_true_eq] at ha hb
    rw [dup, tidy_dup17 (l := b :: l) (fun r h => hr r (by simp [h])) ⟨fun x hx => ht.1 x (by simp [hx]), fun i hi => by have := ht.2 (i + 1) (by simpa using hi); simpa using this⟩, Bool.or_false, decide_eq_false_iff_not]
    intro e
    have hbus : a.Bus = b.Bus := by rw [ha.2, hb.2, e]
    simp [alike, e, hbus] at h0

theorem bkeep1 (ff : Bool) (fb : List Nat) (most : Int) (cr : Bool) : call E (.func (.func 153) [] []) [.ptr 0 0, .lit (.int .i64 fb.length)] (fB ff fb fb.length most cr)
    = some (.tup [], [fileB (.own 2 fb.length 1 0 fb.length) fb.length most cr, .dead, .arr true false true 1 (fb.map encB)]) := by
  rw [call_func E E153]
  have ht : List.take fb.length (fb.map encB) = fb.map encB := take_allB fb
  simp [go_sem, ir153, fB, fileB, ht, purse_eq, List.range_succ]
/-! ### Few -/
def fewR (r : List Run) : Bool := decide (r.length ≤ 12) && r.all fun x => decide (x.N ≤ 1000000)
theorem few17_loop (r : List Run) (hl : r.length ≤ 12) (nl fu : Bool) (rest : List Item) (R : Bool → Option (AVal × Heap))
    (hk : ∀ τ, lk 0 τ = .imm false true true [[.imm nl fu true (r.map encRun)]] → lk 3 τ = .lit (.int .i64 0) → finK 0 [.tmp 2] (run E 0 rest τ []) = R true) (hf : R false = some (.lit (.bool false), [])) :
    ∀ (d i : Nat), i + d = r.length →
    finK 0 [.tmp 2] (run E 0 (.code L68_1 :: .inLoop [1000000, 0, 3, 4] L68_1 :: .inBlock 2 :: rest) [(0, .imm false true true [[.imm nl fu true (r.map encRun)]]), (3, .lit (.int .i64 0)), (4, .lit (.int .i64 i))] []) = R ((r.drop i).all fun x => decide (x.N ≤ 1000000)) := by
  intro d
  induction d with
  | zero =>
    intro i hi
    have : i = r.length := by omega
    subst this
    simp [go_sem, run_codeL E L68_1.eq_1]
    exact hk _ rfl rfl
  | succ d ih =>
    intro i hi
    have hlt : i < r.length := by omega
    have wi := wrapIdx (i := i) (by omega)
    rw [List.drop_eq_getElem_cons hlt, List.all_cons]
    by_cases h : r[i].N ≤ 1000000
    · have h' : ¬ 1000000 < r[i].N := by omega
      have ih2 := ih (i + 1) (by omega)
      rw [decide_eq_true h, Bool.true_and]
      simp [go_sem, run_codeL E L68_1.eq_1, hlt, List.getElem?_eq_getElem hlt, encRun, h', wi, purse_eq]
      rw [run_inLoop']
      simp [go_sem, purse_eq]
      simpa using ih2
    · have h' : 1000000 < r[i].N := by omega
      rw [decide_eq_false h, Bool.false_and, hf]
      simp [go_sem, run_codeL E L68_1.eq_1, hlt, List.getElem?_eq_getElem hlt, encRun, h', purse_eq]
theorem few17_spec (r : List Run) (nl fu : Bool) : call E (.func (.func 68) [] []) [.imm false true true [[.imm nl fu true (r.map encRun)]]] [] = some (.lit (.bool (fewR r)), []) := by
  rw [call_func E E68]
  simp [go_sem, ir68, purse_eq]
  rw [run_inLoop']
  simp [go_sem, purse_eq]
  by_cases hl : r.length ≤ 12
  · have hl' : ¬ (12 : Int) < (r.length : Int) := by omega
    have hf : fewR r = (r.drop 0).all fun x => decide (x.N ≤ 1000000) := by simp [fewR, hl]
    have w1 : IntKind.wrap .i64 1 = 1 := rfl
    rw [hf]
    simp [go_sem, run_codeL E L68_0.eq_1, hl', purse_eq]
    rw [run_inLoop']
    simp [go_sem, purse_eq]
    have h := fun rest hk => few17_loop r hl nl fu rest (fun b => some (.lit (.bool b), [])) hk rfl r.length 0 (by omega)
    simp at h
    refine h _ ?_
    intro τ t0 t3
    simp [go_sem, t0, t3, w1, purse_eq]
    rw [run_inLoop']
    simp [go_sem, purse_eq, t0, run_codeL E L68_0.eq_1]
  · have hl' : (12 : Int) < (r.length : Int) := by omega
    have hf : fewR r = false := by simp [fewR, hl]
    rw [hf]
    simp [go_sem, run_codeL E L68_0.eq_1, hl', purse_eq]
end Go.AM.R1
open Go Go.AM
namespace Go.AM.R1

/-! ### A file in general -/
def fF (fo ff : Bool) (fb : List Nat) (sure : Nat) (most : Int) (cr : Bool) : Heap := if fo = true then fB ff fb sure most cr else [fileB nilS sure most cr]
theorem fcheck (fo ff : Bool) (fb : List Nat) (sure : Nat) (most : Int) (cr : Bool) : call E (.func (.func 111) [] []) [.ptr 0 0] (fF fo ff fb sure most cr) = some (.lit (.int .i64 (if cr = true then 25 else 0)), fF fo ff fb sure most cr) := by
  rw [call_func E E111]
  cases cr <;> cases fo <;> simp [go_sem, ir111, fF, fB, fileB, nilS, purse_eq, List.range_succ]
theorem fsize (fo ff : Bool) (fb : List Nat) (hfo : fo = false → fb = []) (sure : Nat) (most : Int) (cr : Bool) : call E (.func (.func 112) [] []) [.ptr 0 0] (fF fo ff fb sure most cr) = some (.lit (.int .i64 fb.length), fF fo ff fb sure most cr) := by
  rw [call_func E E112]
  cases fo
  · have := hfo rfl
    subst this
    simp [go_sem, ir112, fF, fB, fileB, nilS, purse_eq, List.range_succ]
  · simp [go_sem, ir112, fF, fB, fileB, nilS, purse_eq, List.range_succ]
theorem fflush (fo ff : Bool) (fb : List Nat) (hfo : fo = false → fb = []) (sure : Nat) (most : Int) (cr : Bool) : call E (.func (.func 57) [] []) [.ptr 0 0] (fF fo ff fb sure most cr)
    = some (.lit (.int .i64 (if cr = true then 25 else 0)), fF fo ff fb (if cr = true then sure else fb.length) most cr) := by
  rw [call_func E E57]
  have h1 := fcheck fo ff fb sure most cr
  have h2 := fsize fo ff fb hfo sure most cr
  cases cr <;> cases fo <;> simp [fF, fB, fileB, nilS] at h1 h2 <;> simp [go_sem, ir57, fF, fB, fileB, nilS, h1, h2, purse_eq, List.range_succ]
theorem fsure (fo ff : Bool) (fb : List Nat) (sure : Nat) (most : Int) (cr : Bool) : call E (.func (.func 120) [] []) [.ptr 0 0] (fF fo ff fb sure most cr) = some (.lit (.int .i64 sure), fF fo ff fb sure most cr) := by
  rw [call_func E E120]
  cases fo <;> simp [go_sem, ir120, fF, fB, fileB, nilS, purse_eq, List.range_succ]
theorem flen (fo ff : Bool) (fb : List Nat) (hfo : fo = false → fb = []) (sure : Nat) (most : Int) (cr : Bool) : call E (.func (.func 61) [] []) [.ptr 0 0] (fF fo ff fb sure most cr) = some (.lit (.int .i64 fb.length), fF fo ff fb sure most cr) := by
  rw [call_func E E61]
  have h2 := fsize fo ff fb hfo sure most cr
  cases fo <;> simp [fF, fB, fileB, nilS] at h2 <;> simp [go_sem, ir61, fF, fB, fileB, nilS, h2, purse_eq, List.range_succ]
/-- Its bytes, handed out. -/
theorem fbytes (fo ff : Bool) (fb : List Nat) (hl : fb.length ≤ 1000000) (sure : Nat) (most : Int) (cr : Bool) : call E (.func (.func 73) [] []) [.ptr 0 0] (fF fo ff fb sure most cr)
    = some (if fo = true then .own 2 fb.length 1 0 fb.length else nilS, fF fo ff fb sure most cr ++ (if fo = true then [.arr true false fb.isEmpty 1 (fb.map encB)] else [])) := by
  rw [call_func E E73]
  have h1 := bclone_nil true
  have h2 := fun fu => clone_spec fb fu (by omega)
  simp [nilS] at h1
  have h2f := h2 (ff && decide (0 + fb.length = fb.length))
  simp at h2f
  cases fo <;> simp [go_sem, ir73, fF, fB, fileB, nilS, h1, h2f, purse_eq, List.range_succ]
theorem fadd (fo ff : Bool) (fb : List Nat) (hfo : fo = false → fb = []) (sure : Nat) (most : Int) (b : List Nat) (hb : b ≠ []) (hl : fb.length + b.length ≤ 1000000) (fu : Bool) : call E (.func (.func 113) [] []) [.ptr 0 0, .imm false fu true (b.map encB)] (fF fo ff fb sure most false)
    = some (.tup [], fF true false (fb ++ b) sure most false) := by
  rw [call_func E E113]
  have hr := rowsB b
  have hp := List.length_pos_iff.2 hb
  have hbb : ¬ (70368744177664 < b.length) := by omega
  have hbb2 : ¬ (70368744177664 < fb.length + b.length) := by omega
  cases fo
  · have := hfo rfl
    subst this
    simp [go_sem, ir113, fF, fB, fileB, nilS, hr, hb, hbb, purse_eq, List.range_succ]
  · simp [go_sem, ir113, fF, fB, fileB, nilS, hr, hb, hbb2, purse_eq, List.range_succ]
theorem fappend (fo ff : Bool) (fb : List Nat) (hfo : fo = false → fb = []) (sure : Nat) (most : Int) (hm : 0 ≤ most ∧ most ≤ 67108864) (cr : Bool) (b : List Nat) (hb : b ≠ []) (hl : fb.length + b.length ≤ 1000000) (fu : Bool) :
    call E (.func (.func 56) [] []) [.ptr 0 0, .imm false fu true (b.map encB)] (fF fo ff fb sure most cr)
      = some (if cr = true then (.lit (.int .i64 25), fF fo ff fb sure most cr) else if most < (fb.length : Int) + b.length then (.lit (.int .i64 15), fF fo ff fb sure most false) else (.lit (.int .i64 0), fF true false (fb ++ b) sure most false)) := by
  rw [call_func E E56]
  have h1 := fcheck fo ff fb sure most cr
  have h2 := fsize fo ff fb hfo sure most false
  have h3 := fadd fo ff fb hfo sure most b hb hl fu
  have w : IntKind.wrap .i64 (most - (fb.length : Int)) = most - fb.length := by rw [wrap64 (by omega) (by omega)]
  cases cr
  · by_cases h4 : most < (fb.length : Int) + b.length
    · have h5 : most - (fb.length : Int) < b.length := by omega
      cases fo <;> simp [fF, fB, fileB, nilS] at h1 h2 h3 <;> simp [go_sem, ir56, fF, fB, fileB, nilS, h1, h2, h3, w, h4, h5, purse_eq, List.range_succ]
    · have h5 : ¬ most - (fb.length : Int) < b.length := by omega
      cases fo <;> simp [fF, fB, fileB, nilS] at h1 h2 h3 <;> simp [go_sem, ir56, fF, fB, fileB, nilS, h1, h2, h3, w, h4, h5, purse_eq, List.range_succ]
  · cases fo <;> simp [fF, fB, fileB, nilS] at h1 <;> simp [go_sem, ir56, fF, fB, fileB, nilS, h1, purse_eq, List.range_succ]
end Go.AM.R1
open Go Go.AM
namespace Go.AM.R1

/-! ### A log in general -/
/-- Where each block ends. -/
def endsGo : Nat → Int → List Bk → List (Nat × Int)
  | _, _, [] => []
  | p, t, x :: r => (p + (putBk x).length, t + sumN x.2) :: endsGo (p + (putBk x).length) (t + sumN x.2) r
def encEnd (e : Nat × Int) : List AVal := endE e.1 e.2
theorem endsGo_length : ∀ (l : List Bk) (p : Nat) (t : Int), (endsGo p t l).length = l.length
  | [], _, _ => rfl
  | x :: l, p, t => by simp only [endsGo, List.length_cons, endsGo_length l]
theorem endsGo_append : ∀ (l m : List Bk) (p : Nat) (t : Int), endsGo p t (l ++ m) = endsGo p t l ++ endsGo (p + (blksB l).length) (t + totB l) m
  | [], m, p, t => by simp [endsGo, blksB, totB]
  | x :: l, m, p, t => by
    simp only [List.cons_append, endsGo, endsGo_append l m, blksB_cons, totB, List.length_append]
    rw [Nat.add_assoc, Int.add_assoc]
theorem endsGo_last (l : List Bk) (h : l ≠ []) (p : Nat) (t : Int) : (endsGo p t l)[l.length - 1]? = some (p + (blksB l).length, t + totB l) := by
  rcases List.eq_nil_or_concat l with e | ⟨o, x, rfl⟩
  · exact absurd e h
  · rw [List.concat_eq_append, endsGo_append, List.getElem?_append_right (by simp [endsGo_length])]
    simp [endsGo, endsGo_length, blksB_append, totB_append, blksB, totB]
    omega
/-- A log: its file's array, its blocks, and what waits. -/
def lS (fo ff lw lq : Bool) (L : List Bk) (W : List Run) (sure : Nat) (most : Int) (cr : Bool) : Heap :=
  if fo = false then
    (if W = [] then [.box [.ptr 1 0, nilS, nilS, nilS], fileB nilS sure most cr]
     else [.box [.ptr 1 0, nilS, nilS, .own 2 W.length 3 0 W.length], fileB nilS sure most cr, .arr true lq false 3 (W.map encRun)])
  else if L = [] then
    (if W = [] then [.box [.ptr 1 0, nilS, nilS, nilS], fileB (.own 2 0 1 0 0) sure most cr, .arr true false ff 1 []]
     else [.box [.ptr 1 0, nilS, nilS, .own 3 W.length 3 0 W.length], fileB (.own 2 0 1 0 0) sure most cr, .arr true false ff 1 [], .arr true lq false 3 (W.map encRun)])
  else
    (if W = [] then [.box [.ptr 1 0, .own 3 (joined [] (allR L)).length 3 0 (joined [] (allR L)).length, .own 4 L.length 2 0 L.length, nilS], fileB (.own 2 (blksB L).length 1 0 (blksB L).length) sure most cr, .arr true false ff 1 ((blksB L).map encB), .arr true lw false 3 ((joined [] (allR L)).map encRun), .arr true false false 2 ((endsGo 0 0 L).map encEnd)]
     else [.box [.ptr 1 0, .own 3 (joined [] (allR L)).length 3 0 (joined [] (allR L)).length, .own 4 L.length 2 0 L.length, .own 5 W.length 3 0 W.length], fileB (.own 2 (blksB L).length 1 0 (blksB L).length) sure most cr, .arr true false ff 1 ((blksB L).map encB), .arr true lw false 3 ((joined [] (allR L)).map encRun), .arr true false false 2 ((endsGo 0 0 L).map encEnd), .arr true lq false 3 (W.map encRun)])
theorem gblocks (fo ff lw lq : Bool) (L W) (hfo : fo = false → L = []) (hl : L.length ≤ 1000000) (sure most cr) : call E (.func (.func 63) [] []) [.ptr 0 0] (lS fo ff lw lq L W sure most cr) = some (.lit (.int .i64 L.length), lS fo ff lw lq L W sure most cr) := by
  rw [call_func E E63]
  by_cases hW : W = []
  · by_cases hL : L = []
    · cases fo <;> simp [go_sem, ir63, lS, hW, hL, fileB, nilS, purse_eq, List.range_succ]
    · have : fo = true := by cases fo with | true => rfl | false => exact absurd (hfo rfl) hL
      subst this
      simp [go_sem, ir63, lS, hW, hL, fileB, nilS, purse_eq, List.range_succ]
  · by_cases hL : L = []
    · cases fo <;> simp [go_sem, ir63, lS, hW, hL, fileB, nilS, purse_eq, List.range_succ]
    · have : fo = true := by cases fo with | true => rfl | false => exact absurd (hfo rfl) hL
      subst this
      simp [go_sem, ir63, lS, hW, hL, fileB, nilS, purse_eq, List.range_succ]
theorem glast (fo ff lw lq : Bool) (L W) (hfo : fo = false → L = []) (hl : L.length ≤ 1000000) (sure most cr) : call E (.func (.func 115) [] []) [.ptr 0 0] (lS fo ff lw lq L W sure most cr)
    = some (.agg (endE (blksB L).length (totB L)), lS fo ff lw lq L W sure most cr) := by
  rw [call_func E E115]
  by_cases hL : L = []
  · by_cases hW : W = []
    · cases fo <;> simp [go_sem, ir115, lS, hW, hL, fileB, nilS, purse_eq, List.range_succ, endE, blksB, totB]
    · cases fo <;> simp [go_sem, ir115, lS, hW, hL, fileB, nilS, purse_eq, List.range_succ, endE, blksB, totB]
  · have : fo = true := by cases fo with | true => rfl | false => exact absurd (hfo rfl) hL
    subst this
    have hp := List.length_pos_iff.2 hL
    have he := endsGo_last L hL 0 0
    simp only [Nat.zero_add, Int.zero_add] at he
    have hel := endsGo_length L 0 0
    have hi' : L.length - 1 < (endsGo 0 0 L).length := by omega
    have hx : (endsGo 0 0 L)[L.length - 1] = ((blksB L).length, totB L) := by simpa [List.getElem?_eq_getElem hi'] using he
    have w : IntKind.wrap .i64 ((L.length : Int) - 1) = ((L.length - 1 : Nat) : Int) := by rw [wrap64 (by omega) (by omega)]; omega
    have hlt : L.length - 1 < L.length := by omega
    have h0 : ¬ L.length = 0 := by omega
    clear he
    generalize L.length - 1 = i at *
    by_cases hW : W = []
    · simp [go_sem, ir115, lS, hW, hL, fileB, nilS, purse_eq, List.range_succ, w, hlt, hel, hx, h0, encEnd, endE]
    · simp [go_sem, ir115, lS, hW, hL, fileB, nilS, purse_eq, List.range_succ, w, hlt, hel, hx, h0, encEnd, endE]
theorem gwaiting (fo ff lw lq : Bool) (L W) (hfo : fo = false → L = []) (hl : W.length ≤ 4096) (hc : chk W = 0) (sure most cr) : call E (.func (.func 119) [] []) [.ptr 0 0] (lS fo ff lw lq L W sure most cr)
    = some (.lit (.int .i64 (sumN W)), lS fo ff lw true L W sure most cr) := by
  rw [call_func E E119]
  by_cases hW : W = []
  · have h := ticks_nil
    simp [nilS] at h
    by_cases hL : L = []
    · cases fo <;> simp [go_sem, ir119, lS, hW, hL, h, fileB, nilS, purse_eq, List.range_succ, sumN]
    · have : fo = true := by cases fo with | true => rfl | false => exact absurd (hfo rfl) hL
      subst this
      simp [go_sem, ir119, lS, hW, hL, h, fileB, nilS, purse_eq, List.range_succ, sumN]
  · have hT := ticks_spec W (by omega) (fun r hr => by have := (chk_right hc).1 r hr; exact ⟨by omega, by omega⟩) false false
    rw [ticks_eq, if_pos hc, hc] at hT
    by_cases hL : L = []
    · cases fo <;> simp [go_sem, ir119, lS, hW, hL, hT, fileB, nilS, purse_eq, List.range_succ]
    · have : fo = true := by cases fo with | true => rfl | false => exact absurd (hfo rfl) hL
      subst this
      simp [go_sem, ir119, lS, hW, hL, hT, fileB, nilS, purse_eq, List.range_succ]
theorem gticks (fo ff lw lq : Bool) (L W) (hfo : fo = false → L = []) (hlL : L.length ≤ 1000000) (hl : W.length ≤ 4096) (hc : chk W = 0) (ht : 0 ≤ totB L ∧ totB L ≤ 1073741824) (sure most cr) : call E (.func (.func 64) [] []) [.ptr 0 0] (lS fo ff lw lq L W sure most cr)
    = some (.lit (.int .i64 (totB L + sumN W)), lS fo ff lw true L W sure most cr) := by
  rw [call_func E E64]
  have h1 := glast fo ff lw lq L W hfo hlL sure most cr
  have h2 := gwaiting fo ff lw lq L W hfo hl hc sure most cr
  have hsu := (chk_right hc).2
  have w : IntKind.wrap .i64 (totB L + sumN W) = totB L + sumN W := wrap64 (by omega) (by omega)
  generalize totB L = T at *
  by_cases hW : W = []
  · by_cases hL : L = []
    · cases fo <;> simp [lS, hW, hL, fileB, nilS, endE] at h1 h2 <;> simp [hW] at w <;> simp [go_sem, ir64, lS, hW, hL, h1, h2, w, fileB, nilS, purse_eq, List.range_succ]
    · have : fo = true := by cases fo with | true => rfl | false => exact absurd (hfo rfl) hL
      subst this
      simp [lS, hW, hL, fileB, nilS, endE] at h1 h2
      simp [hW] at w
      simp [go_sem, ir64, lS, hW, hL, h1, h2, w, fileB, nilS, purse_eq, List.range_succ]
  · by_cases hL : L = []
    · cases fo <;> simp [lS, hW, hL, fileB, nilS, endE] at h1 h2 <;> simp [go_sem, ir64, lS, hW, hL, h1, h2, w, fileB, nilS, purse_eq, List.range_succ]
    · have : fo = true := by cases fo with | true => rfl | false => exact absurd (hfo rfl) hL
      subst this
      simp [lS, hW, hL, fileB, nilS, endE] at h1 h2
      simp [go_sem, ir64, lS, hW, hL, h1, h2, w, fileB, nilS, purse_eq, List.range_succ]
end Go.AM.R1
open Go Go.AM
namespace Go.AM.R1

theorem foT {fo : Bool} {L : List Bk} (hfo : fo = false → L = []) (hL : L ≠ []) : fo = true := by
  cases fo with
  | true => rfl
  | false => exact absurd (hfo rfl) hL
theorem gruns (fo ff lw lq : Bool) (L W) (hfo : fo = false → L = []) (hJ : (joined [] (allR L)).length ≤ 1000000) (hJn : L ≠ [] → joined [] (allR L) ≠ []) (sure most cr) : call E (.func (.func 60) [] []) [.ptr 0 0] (lS fo ff lw lq L W sure most cr)
    = some (.tup [if L = [] then nilS else .own (lS fo ff lw lq L W sure most cr).length (joined [] (allR L)).length 3 0 (joined [] (allR L)).length, .lit (.int .i64 0)], lS fo ff true lq L W sure most cr ++ (if L = [] then [] else [.arr true false false 3 ((joined [] (allR L)).map encRun)])) := by
  rw [call_func E E60]
  have h0 := rclone_nil
  simp [nilS] at h0
  by_cases hL : L = []
  · by_cases hW : W = []
    · cases fo <;> simp [go_sem, ir60, lS, hW, hL, h0, fileB, nilS, purse_eq, List.range_succ]
    · cases fo <;> simp [go_sem, ir60, lS, hW, hL, h0, fileB, nilS, purse_eq, List.range_succ]
  · have := foT hfo hL
    subst this
    have h := rclone_spec (joined [] (allR L)) hJ false
    have hne := hJn hL
    have hJe : (joined [] (allR L)).isEmpty = false := by cases hq : joined [] (allR L) with | nil => exact absurd hq hne | cons x r => rfl
    rw [hJe] at h
    by_cases hW : W = []
    · simp [go_sem, ir60, lS, hW, hL, h, fileB, nilS, purse_eq, List.range_succ]
    · simp [go_sem, ir60, lS, hW, hL, h, fileB, nilS, purse_eq, List.range_succ]
/-- A log, with what waited before still lying there. -/
def lSJ (fo ff lw : Bool) (L : List Bk) (W0 W : List Run) (sure : Nat) (most : Int) (cr : Bool) : Heap :=
  if fo = false then [.box [.ptr 1 0, nilS, nilS, .own 3 W.length 3 0 W.length], fileB nilS sure most cr, .arr true true false 3 (W0.map encRun), .arr true false false 3 (W.map encRun)]
  else if L = [] then [.box [.ptr 1 0, nilS, nilS, .own 4 W.length 3 0 W.length], fileB (.own 2 0 1 0 0) sure most cr, .arr true false ff 1 [], .arr true true false 3 (W0.map encRun), .arr true false false 3 (W.map encRun)]
  else [.box [.ptr 1 0, .own 3 (joined [] (allR L)).length 3 0 (joined [] (allR L)).length, .own 4 L.length 2 0 L.length, .own 6 W.length 3 0 W.length], fileB (.own 2 (blksB L).length 1 0 (blksB L).length) sure most cr, .arr true false ff 1 ((blksB L).map encB), .arr true lw false 3 ((joined [] (allR L)).map encRun), .arr true false false 2 ((endsGo 0 0 L).map encEnd), .arr true true false 3 (W0.map encRun), .arr true false false 3 (W.map encRun)]
/-- What an Append tells. -/
def appE (L : List Bk) (W r : List Run) : Int := if chk r ≠ 0 then chk r else if 1073741824 < totB L + sumN W + sumN r ∨ 4096 < (joined [] (W ++ r)).length then 12 else 0
theorem sum_joined {W r : List Run} (h1 : chk W = 0) (h2 : chk r = 0) : sumN (joined [] (W ++ r)) = sumN W + sumN r ∧ (∀ x ∈ W ++ r, 1 ≤ x.N ∧ x.N ≤ 1073741824) := by
  have a := (chk_right h1).1
  have b := (chk_right h2).1
  have hall : ∀ x ∈ W ++ r, 1 ≤ x.N ∧ x.N ≤ 1073741824 := by
    intro x hx
    rcases List.mem_append.1 hx with h | h
    · exact a x h
    · exact b x h
  refine ⟨?_, hall⟩
  have hJ1 : ∀ r' ∈ joined [] (W ++ r), 1 ≤ r'.N := (tidy_joined (W ++ r) [] ⟨by simp, by simp⟩).1
  have e1 := expand_length (joined [] (W ++ r)) (fun x hx => by have := hJ1 x hx; omega)
  have e2 := expand_length (W ++ r) (fun x hx => by have := hall x hx; omega)
  rw [expand_joined _ [] (by simp), show expand ([] : List Run) = [] from rfl, List.nil_append] at e1
  rw [← sumN_append]
  omega
theorem joined_ne {l : List Run} (h : ∀ x ∈ l, 1 ≤ x.N) (hne : l ≠ []) : joined [] l ≠ [] := by
  intro q
  have hJ1 : ∀ r' ∈ joined [] l, 1 ≤ r'.N := (tidy_joined l [] ⟨by simp, by simp⟩).1
  have e2 := expand_length l (fun x hx => by have := h x hx; omega)
  have e1 := congrArg List.length (expand_joined l [] (by simp))
  rw [q, show expand ([] : List Run) = [] from rfl, List.nil_append, List.length_nil] at e1
  cases l with
  | nil => exact hne rfl
  | cons x xs =>
    have h3 := h x (by simp)
    have h4 := expand_length xs (fun y hy => by have := h y (by simp [hy]); omega)
    rw [show sumN (x :: xs) = x.N + sumN xs from rfl] at e2
    omega
theorem gappend (fo ff lw lq : Bool) (L) (W r : List Run) (hfo : fo = false → L = []) (hlL : L.length ≤ 1000000) (hlW : W.length ≤ 4096) (hcW : chk W = 0) (ht : 0 ≤ totB L ∧ totB L ≤ 1073741824) (hlr : r.length ≤ 900000) (hok : ∀ x ∈ r, x.Ok) (sure most cr) (nl fu : Bool) :
    call E (.func (.func 109) [] []) [.ptr 0 0, .imm nl fu true (r.map encRun)] (lS fo ff lw lq L W sure most cr)
      = some (.lit (.int .i64 (appE L W r)), if chk r ≠ 0 then lS fo ff lw lq L W sure most cr else if appE L W r ≠ 0 then lS fo ff lw true L W sure most cr else if W = [] then lS fo ff lw false L (joined [] (W ++ r)) sure most cr else lSJ fo ff lw L W (joined [] (W ++ r)) sure most cr) := by
  rw [call_func E E109]
  have hT := ticks_spec r (by omega) hok nl fu
  rw [ticks_eq] at hT
  by_cases hc : chk r = 0
  · rw [if_pos hc, hc] at hT
    simp only [hc, ne_eq, not_true_eq_false, if_false]
    obtain ⟨hsum, hall⟩ := sum_joined hcW hc
    have hsW := (chk_right hcW).2
    have hsr := (chk_right hc).2
    have hK := fun lq => gticks fo ff lw lq L W hfo hlL hlW hcW ht sure most cr
    have wT : IntKind.wrap .i64 (totB L + sumN W + sumN r) = totB L + sumN W + sumN r := wrap64 (by omega) (by omega)
    have hps := posSum_of_right (W ++ r) (fun x hx => by have := hall x hx; omega)
    rw [sumN_append] at hps
    have hokA : ∀ x ∈ W ++ r, x.Ok := fun x hx => by have := hall x hx; exact ⟨by omega, by omega⟩
    have hC := fun fu xn xf yn yf => concat2_spec W r (by omega) fu xn xf yn yf
    have hJ := fun nl fu => join_spec (W ++ r) (by simp; omega) hokA nl fu
    rw [joinGo_eq (W ++ r) 0 [] (by omega)] at hJ
    have hjl := joined_length (W ++ r) []
    simp at hjl
    by_cases he : W ++ r = []
    · have hW : W = [] := (List.append_eq_nil_iff.1 he).1
      have hr : r = [] := (List.append_eq_nil_iff.1 he).2
      subst hW hr
      have ha : appE L [] [] = 0 := by
        unfold appE
        rw [if_neg (by simp [hc]), if_neg]
        simp [sumN, joined]; omega
      rw [ha]
      have hC1 := hC true true true nl fu
      have hJ1 := hJ true true
      have hK1 := hK lq
      have w2 : IntKind.wrap .i64 (totB L) = totB L := wrap64 (by omega) (by omega)
      have h2 : ¬ 1073741824 < totB L := by omega
      generalize totB L = T at *
      simp [joined, resV, resH, nilS, sumN] at hC1 hJ1 hT hK1 wT
      by_cases hL : L = []
      · cases fo <;> simp [lS, hL, fileB, nilS] at hK1 <;> simp [go_sem, ir109, lS, hL, hT, hC1, hJ1, hK1, w2, h2, joined, fileB, nilS, purse_eq, List.range_succ]
      · have := foT hfo hL
        subst this
        simp [lS, hL, fileB, nilS] at hK1
        simp [go_sem, ir109, lS, hL, hT, hC1, hJ1, hK1, w2, h2, joined, fileB, nilS, purse_eq, List.range_succ]
    · have hWn : joined [] (W ++ r) ≠ [] := joined_ne (fun x hx => (hall x hx).1) he
      have hJ1 := hJ false false
      simp [resV, resH, hWn] at hJ1
      have ha : appE L W r = if 1073741824 < totB L + sumN W + sumN r ∨ 4096 < (joined [] (W ++ r)).length then 12 else 0 := by unfold appE; rw [if_neg (by simp [hc])]
      rw [ha]
      generalize hQ : joined [] (W ++ r) = Q at *
      by_cases hW : W = []
      · subst hW
        have hK1 := hK lq
        have hC1 := hC true true true nl fu
        simp [nilS] at he hC1 hJ1
        simp [he] at hC1
        by_cases h1 : 1073741824 < totB L + sumN [] + sumN r
        · rw [if_pos (.inl h1)]
          generalize totB L = T at *
          simp [sumN] at hK1 wT h1
          by_cases hL : L = []
          · cases fo <;> simp [lS, hL, fileB, nilS] at hK1 <;> simp [go_sem, ir109, lS, hL, hT, hC1, hJ1, hK1, wT, h1, hWn, fileB, nilS, purse_eq, List.range_succ]
          · have := foT hfo hL
            subst this
            simp [lS, hL, fileB, nilS] at hK1
            simp [go_sem, ir109, lS, hL, hT, hC1, hJ1, hK1, wT, h1, hWn, fileB, nilS, purse_eq, List.range_succ]
        · by_cases h2 : 4096 < Q.length
          · rw [if_pos (.inr h2)]
            have h2' : (4096 : Int) < (Q.length : Int) := by omega
            generalize totB L = T at *
            simp [sumN] at hK1 wT
            have h1' : ¬ 1073741824 < T + sumN r := by simpa [sumN] using h1
            by_cases hL : L = []
            · cases fo <;> simp [lS, hL, fileB, nilS] at hK1 <;> simp [go_sem, ir109, lS, hL, hT, hC1, hJ1, hK1, wT, h1', h2', hWn, fileB, nilS, purse_eq, List.range_succ]
            · have := foT hfo hL
              subst this
              simp [lS, hL, fileB, nilS] at hK1
              simp [go_sem, ir109, lS, hL, hT, hC1, hJ1, hK1, wT, h1', h2', hWn, fileB, nilS, purse_eq, List.range_succ]
          · rw [if_neg (by rintro (q | q); exact h1 q; exact h2 q)]
            have h2' : ¬ (4096 : Int) < (Q.length : Int) := by omega
            generalize totB L = T at *
            simp [sumN] at hK1 wT
            have h1' : ¬ 1073741824 < T + sumN r := by simpa [sumN] using h1
            by_cases hL : L = []
            · cases fo <;> simp [lS, hL, fileB, nilS] at hK1 <;> simp [go_sem, ir109, lS, hL, hT, hC1, hJ1, hK1, wT, h1', h2', hWn, fileB, nilS, purse_eq, List.range_succ]
            · have := foT hfo hL
              subst this
              simp [lS, hL, fileB, nilS] at hK1
              simp [go_sem, ir109, lS, hL, hT, hC1, hJ1, hK1, wT, h1', h2', hWn, fileB, nilS, purse_eq, List.range_succ]
      · have hK1 := hK true
        have hC1 := hC true false false nl fu
        simp [hW] at hC1
        by_cases h1 : 1073741824 < totB L + sumN W + sumN r
        · rw [if_pos (.inl h1)]
          generalize totB L = T at *
          by_cases hL : L = []
          · cases fo <;> simp [lS, hL, hW, fileB, nilS] at hK1 <;> simp [go_sem, ir109, lS, lSJ, hL, hW, hT, hC1, hJ1, hK1, wT, h1, hWn, fileB, nilS, purse_eq, List.range_succ]
          · have := foT hfo hL
            subst this
            simp [lS, hL, hW, fileB, nilS] at hK1
            simp [go_sem, ir109, lS, lSJ, hL, hW, hT, hC1, hJ1, hK1, wT, h1, hWn, fileB, nilS, purse_eq, List.range_succ]
        · by_cases h2 : 4096 < Q.length
          · rw [if_pos (.inr h2)]
            have h2' : (4096 : Int) < (Q.length : Int) := by omega
            generalize totB L = T at *
            by_cases hL : L = []
            · cases fo <;> simp [lS, hL, hW, fileB, nilS] at hK1 <;> simp [go_sem, ir109, lS, lSJ, hL, hW, hT, hC1, hJ1, hK1, wT, h1, h2', hWn, fileB, nilS, purse_eq, List.range_succ]
            · have := foT hfo hL
              subst this
              simp [lS, hL, hW, fileB, nilS] at hK1
              simp [go_sem, ir109, lS, lSJ, hL, hW, hT, hC1, hJ1, hK1, wT, h1, h2', hWn, fileB, nilS, purse_eq, List.range_succ]
          · rw [if_neg (by rintro (q | q); exact h1 q; exact h2 q)]
            have h2' : ¬ (4096 : Int) < (Q.length : Int) := by omega
            generalize totB L = T at *
            by_cases hL : L = []
            · cases fo <;> simp [lS, hL, hW, fileB, nilS] at hK1 <;> simp [go_sem, ir109, lS, lSJ, hL, hW, hT, hC1, hJ1, hK1, wT, h1, h2', hWn, fileB, nilS, purse_eq, List.range_succ]
            · have := foT hfo hL
              subst this
              simp [lS, hL, hW, fileB, nilS] at hK1
              simp [go_sem, ir109, lS, lSJ, hL, hW, hT, hC1, hJ1, hK1, wT, h1, h2', hWn, fileB, nilS, purse_eq, List.range_succ]
  · rw [if_neg hc] at hT
    have ha : appE L W r = chk r := by unfold appE; rw [if_pos hc]
    rw [ha, if_pos hc]
    by_cases hL : L = []
    · by_cases hW : W = []
      · cases fo <;> simp [go_sem, ir109, lS, hL, hW, hT, hc, fileB, nilS, purse_eq, List.range_succ]
      · cases fo <;> simp [go_sem, ir109, lS, hL, hW, hT, hc, fileB, nilS, purse_eq, List.range_succ]
    · have := foT hfo hL
      subst this
      by_cases hW : W = []
      · simp [go_sem, ir109, lS, hL, hW, hT, hc, fileB, nilS, purse_eq, List.range_succ]
      · simp [go_sem, ir109, lS, hL, hW, hT, hc, fileB, nilS, purse_eq, List.range_succ]
end Go.AM.R1
open Go Go.AM
namespace Go.AM.R1

/-- A log whose block's bytes are in the file already. -/
def lT (ff lw lq : Bool) (L : List Bk) (W : List Run) (fb : List Nat) (sure : Nat) (most : Int) : Heap :=
  if L = [] then [.box [.ptr 1 0, nilS, nilS, .own 3 W.length 3 0 W.length], fileB (.own 2 fb.length 1 0 fb.length) sure most false, .arr true false ff 1 (fb.map encB), .arr true lq false 3 (W.map encRun)]
  else [.box [.ptr 1 0, .own 3 (joined [] (allR L)).length 3 0 (joined [] (allR L)).length, .own 4 L.length 2 0 L.length, .own 5 W.length 3 0 W.length], fileB (.own 2 fb.length 1 0 fb.length) sure most false, .arr true false ff 1 (fb.map encB), .arr true lw false 3 ((joined [] (allR L)).map encRun), .arr true false false 2 ((endsGo 0 0 L).map encEnd), .arr true lq false 3 (W.map encRun)]
theorem twaiting (ff lw lq : Bool) (L W) (hW : W ≠ []) (hl : W.length ≤ 4096) (hc : chk W = 0) (fb sure most) : call E (.func (.func 119) [] []) [.ptr 0 0] (lT ff lw lq L W fb sure most) = some (.lit (.int .i64 (sumN W)), lT ff lw true L W fb sure most) := by
  rw [call_func E E119]
  have hT := ticks_spec W (by omega) (fun r hr => by have := (chk_right hc).1 r hr; exact ⟨by omega, by omega⟩) false false
  rw [ticks_eq, if_pos hc, hc] at hT
  by_cases hL : L = []
  · simp [go_sem, ir119, lT, hL, hT, fileB, nilS, purse_eq, List.range_succ]
  · simp [go_sem, ir119, lT, hL, hT, fileB, nilS, purse_eq, List.range_succ]
theorem joined_joined (A W : List Run) : joined [] (joined [] A ++ W) = joined [] (A ++ W) := by
  rw [joined_append, joined_self, ← joined_append]
/-- A block noted. -/
theorem gwrite (ff lw lq : Bool) (L W) (hW : W ≠ []) (hl : W.length ≤ 4096) (hc : chk W = 0) (hj : joined [] W = W) (hg : L ≠ [] → chk (allR L) = 0 ∧ (joined [] (allR L)).length ≤ 500000 ∧ joined [] (allR L) ≠ [] ∧ L.length ≤ 500000) (fb : List Nat) (sure most) (n : Nat) (T : Int) (fu : Bool) :
    call E (.func (.func 114) [] []) [.ptr 0 0, .imm false fu true (W.map encRun), .agg (endE n T)] (lT ff lw lq L W fb sure most)
      = some (.tup [], if L = [] then [.box [.ptr 1 0, .own 4 W.length 3 0 W.length, .own 5 1 2 0 1, .own 3 W.length 3 0 W.length], fileB (.own 2 fb.length 1 0 fb.length) sure most false, .arr true false ff 1 (fb.map encB), .arr true lq false 3 (W.map encRun), .arr true false false 3 (W.map encRun), .arr true false false 2 [endE n T]]
        else [.box [.ptr 1 0, .own 6 (joined [] (allR L ++ W)).length 3 0 (joined [] (allR L ++ W)).length, .own 4 (L.length + 1) 2 0 (L.length + 1), .own 5 W.length 3 0 W.length], fileB (.own 2 fb.length 1 0 fb.length) sure most false, .arr true false ff 1 (fb.map encB), .arr true true false 3 ((joined [] (allR L) ++ W).map encRun), .arr true false false 2 ((endsGo 0 0 L).map encEnd ++ [endE n T]), .arr true lq false 3 (W.map encRun), .arr true false false 3 ((joined [] (allR L ++ W)).map encRun)]) := by
  rw [call_func E E114]
  have hN := (chk_right hc).1
  have hok : ∀ r ∈ W, r.Ok := fun r hr => by have := hN r hr; exact ⟨by omega, by omega⟩
  have hsu := (chk_right hc).2
  have hr := rowsR W
  by_cases hL : L = []
  · have hJ := join_spec W (by omega) hok false false
    rw [joinGo_eq W 0 [] (by rw [posSum_of_right _ (fun r hr => by have := hN r hr; omega)]; omega), hj] at hJ
    have hbb : ¬ (70368744177664 < W.length * 24) := by omega
    simp [resV, resH, hW] at hJ
    simp [go_sem, ir114, lT, hL, fileB, endE, nilS, hr, hW, hbb, hJ, purse_eq, List.range_succ]
  · obtain ⟨a1, a2, a3, a4⟩ := hg hL
    have hjc := joined_chk a1
    obtain ⟨hsum, hall⟩ := sum_joined hjc.1 hc
    have hsj := (chk_right hjc.1).2
    have hps := posSum_of_right (joined [] (allR L) ++ W) (fun x hx => by have := hall x hx; omega)
    rw [sumN_append] at hps
    have hokA : ∀ x ∈ joined [] (allR L) ++ W, x.Ok := fun x hx => by have := hall x hx; exact ⟨by omega, by omega⟩
    have hJ := join_spec (joined [] (allR L) ++ W) (by simp; omega) hokA false false
    rw [joinGo_eq _ 0 [] (by omega)] at hJ
    have hQn : joined [] (joined [] (allR L) ++ W) ≠ [] := joined_ne (fun x hx => (hall x hx).1) (by simp [hW])
    rw [joined_joined] at hJ hQn
    have hel := endsGo_length L 0 0
    have hbb : ¬ (70368744177664 < ((joined [] (allR L)).length + W.length) * 24) := by omega
    have hbe : ¬ (70368744177664 < (L.length + 1) * 16) := by omega
    have hpos := List.length_pos_iff.2 hL
    have hn0 : ¬ L.length = 0 := by omega
    simp only [lT, hL, if_false]
    generalize joined [] (allR L ++ W) = Q at *
    generalize joined [] (allR L) = J at *
    generalize endsGo 0 0 L = es at *
    simp [resV, resH, hQn] at hJ
    simp [go_sem, ir114, hL, fileB, endE, nilS, hr, hW, hbb, hbe, hJ, hel, hn0, purse_eq, List.range_succ]
end Go.AM.R1
open Go Go.AM
namespace Go.AM.R1

theorem gflush0 (fo ff lw lq : Bool) (L) (hfo : fo = false → L = []) (sure most cr) : call E (.func (.func 75) [] []) [.ptr 0 0] (lS fo ff lw lq L [] sure most cr)
    = some (.lit (.int .i64 (if cr = true then 25 else 0)), lS fo ff lw lq L [] (if cr = true then sure else (blksB L).length) most cr) := by
  rw [call_func E E75]
  have h1 := fflush fo ff (blksB L) (fun h => by rw [hfo h]; rfl) sure most cr
  by_cases hL : L = []
  · rw [hL, show blksB [] = [] from rfl] at h1
    cases cr <;> cases fo <;> simp [fF, fB, fileB, nilS] at h1 <;> simp [go_sem, ir75, lS, hL, h1, fileB, nilS, purse_eq, List.range_succ, show blksB [] = [] from rfl]
  · have := foT hfo hL
    subst this
    cases cr <;> simp [fF, fB, fileB, nilS] at h1 <;> simp [go_sem, ir75, lS, hL, h1, fileB, nilS, purse_eq, List.range_succ]
/-- What a Flush that wrote a block leaves. -/
def flH (fo lw : Bool) (L : List Bk) (W : List Run) (most : Int) : Heap :=
  if fo = false then [.box [.ptr 1 0, .own 3 W.length 3 0 W.length, .own 4 1 2 0 1, nilS], fileB (.own 5 (putBk (0, W)).length 1 0 (putBk (0, W)).length) (putBk (0, W)).length most false, .arr true true false 3 (W.map encRun), .arr true false false 3 (W.map encRun), .arr true false false 2 [endE (putBk (0, W)).length (sumN W)], .arr true false false 1 ((putBk (0, W)).map encB)]
  else if L = [] then [.box [.ptr 1 0, .own 4 W.length 3 0 W.length, .own 5 1 2 0 1, nilS], fileB (.own 2 (putBk (0, W)).length 1 0 (putBk (0, W)).length) (putBk (0, W)).length most false, .arr true false false 1 ((putBk (0, W)).map encB), .arr true true false 3 (W.map encRun), .arr true false false 3 (W.map encRun), .arr true false false 2 [endE (putBk (0, W)).length (sumN W)]]
  else [.box [.ptr 1 0, .own 6 (joined [] (allR L ++ W)).length 3 0 (joined [] (allR L ++ W)).length, .own 4 (L.length + 1) 2 0 (L.length + 1), nilS], fileB (.own 2 (blksB L ++ putBk (totB L, W)).length 1 0 (blksB L ++ putBk (totB L, W)).length) (blksB L ++ putBk (totB L, W)).length most false, .arr true false false 1 ((blksB L ++ putBk (totB L, W)).map encB), .arr true true false 3 ((joined [] (allR L) ++ W).map encRun), .arr true false false 2 ((endsGo 0 0 L).map encEnd ++ [endE ((blksB L).length + (putBk (totB L, W)).length) (totB L + sumN W)]), .arr true true false 3 (W.map encRun), .arr true false false 3 ((joined [] (allR L ++ W)).map encRun)]
theorem gflush (fo ff lw lq : Bool) (L W) (hfo : fo = false → L = []) (hW : W ≠ []) (hc : chkB (totB L) W = 0) (hj : joined [] W = W) (hd : ∀ r ∈ W, 0 ≤ r.Drive ∧ r.Drive ≤ 4294967295) (ht : 0 ≤ totB L ∧ totB L ≤ 1073741824)
    (hg : L ≠ [] → chk (allR L) = 0 ∧ (joined [] (allR L)).length ≤ 500000 ∧ joined [] (allR L) ≠ [] ∧ L.length ≤ 500000) (hb : (blksB L).length ≤ 900000) (sure : Nat) (most : Int) (hm : 0 ≤ most ∧ most ≤ 67108864) (cr : Bool) :
    call E (.func (.func 75) [] []) [.ptr 0 0] (lS fo ff lw lq L W sure most cr)
      = some (if cr = true then (.lit (.int .i64 25), lS fo ff lw true L W sure most cr) else if most < ((blksB L).length : Int) + (putBk (totB L, W)).length then (.lit (.int .i64 15), lS fo ff lw true L W sure most cr) else (.lit (.int .i64 0), flH fo lw L W most)) := by
  rw [call_func E E75]
  obtain ⟨c1, c2, c3, c4, c5, c6⟩ := chkB_ok hc
  have hN := (chk_right c4).1
  have hok : ∀ r ∈ W, r.Ok := fun r hr => by have := hN r hr; exact ⟨by omega, by omega⟩
  have hsu := (chk_right c4).2
  have hLl : L.length ≤ 1000000 := by
    by_cases hL : L = []
    · rw [hL]; simp
    · have := (hg hL).2.2.2; omega
  have h1 := glast fo ff lw lq L W hfo hLl sure most cr
  have hP := bput_spec (totB L) (by omega) W (by omega) hok false false hc
  rw [show wholeB (numsN (totB L) W) = putBk (totB L, W) from rfl] at hP
  have hlen := putBk_len (x := (totB L, W)) hc
  have hne : putBk (totB L, W) ≠ [] := by intro q; rw [q] at hlen; simp at hlen
  have hA := fappend fo ff (blksB L) (fun h => by rw [hfo h]; rfl) sure most hm cr (putBk (totB L, W)) hne (by omega) false
  have hF := fflush true false (blksB L ++ putBk (totB L, W)) (by intro h; cases h) sure most false
  have hWt := twaiting false lw true L W hW c3 c4 (blksB L ++ putBk (totB L, W)) sure most
  have hWr := gwrite false lw true L W hW c3 c4 hj hg (blksB L ++ putBk (totB L, W)) sure most ((blksB L).length + (putBk (totB L, W)).length) (totB L + sumN W) false
  have w1 : IntKind.wrap .i64 (((blksB L).length : Int) + ((putBk (totB L, W)).length : Int)) = (((blksB L).length + (putBk (totB L, W)).length : Nat) : Int) := by rw [wrap64 (by omega) (by omega)]; omega
  have w2 : IntKind.wrap .i64 (totB L + sumN W) = totB L + sumN W := wrap64 (by omega) (by omega)
  simp [encBlk] at hP
  cases cr
  · by_cases h4 : most < ((blksB L).length : Int) + (putBk (totB L, W)).length
    · simp only [h4, if_true, Bool.false_eq_true, if_false] at hA ⊢
      by_cases hL : L = []
      · subst hL
        simp only [show blksB [] = [] from rfl, show totB [] = 0 from rfl] at *
        generalize putBk (0, W) = B at *
        cases fo <;> simp [lS, hW, fileB, nilS, endE] at h1 <;> simp [fF, fB, fileB, nilS] at hA <;> simp [go_sem, ir75, lS, hW, h1, hP, hA, fileB, nilS, endE, purse_eq, List.range_succ]
      · have := foT hfo hL
        subst this
        simp [lS, hW, hL, fileB, nilS, endE] at h1
        simp [fF, fB, fileB, nilS] at hA
        simp [go_sem, ir75, lS, hW, hL, h1, hP, hA, fileB, nilS, endE, purse_eq, List.range_succ]
    · simp only [h4, if_true, Bool.false_eq_true, if_false] at hA ⊢
      by_cases hL : L = []
      · subst hL
        simp only [show blksB [] = [] from rfl, show totB [] = 0 from rfl, List.nil_append, List.length_nil, Nat.zero_add, Int.zero_add, Int.natCast_zero] at *
        cases fo
        · simp [lS, hW, fileB, nilS, endE] at h1
          simp [fF, fB, fileB, nilS] at hA hF
          simp [lT, fileB, nilS, endE] at hWt hWr
          simp [go_sem, ir75, lS, flH, hW, h1, hP, hA, hWt, hWr, hF, w1, w2, fileB, nilS, endE, purse_eq, List.range_succ]
        · simp [lS, hW, fileB, nilS, endE] at h1
          simp [fF, fB, fileB, nilS] at hA hF
          simp [lT, fileB, nilS, endE] at hWt hWr
          simp [go_sem, ir75, lS, flH, hW, h1, hP, hA, hWt, hWr, hF, w1, w2, fileB, nilS, endE, purse_eq, List.range_succ]
      · have := foT hfo hL
        subst this
        simp [lS, hW, hL, fileB, nilS, endE] at h1
        simp [fF, fB, fileB, nilS] at hA hF
        simp [lT, hL, fileB, nilS, endE] at hWt hWr
        simp at w1
        simp [go_sem, ir75, lS, flH, hW, hL, h1, hP, hA, hWt, hWr, hF, w1, w2, fileB, nilS, endE, purse_eq, List.range_succ]
  · simp only [if_true] at hA ⊢
    by_cases hL : L = []
    · subst hL
      simp only [show blksB [] = [] from rfl, show totB [] = 0 from rfl] at *
      generalize putBk (0, W) = B at *
      cases fo <;> simp [lS, hW, fileB, nilS, endE] at h1 <;> simp [fF, fB, fileB, nilS] at hA <;> simp [go_sem, ir75, lS, hW, h1, hP, hA, fileB, nilS, endE, purse_eq, List.range_succ]
    · have := foT hfo hL
      subst this
      simp [lS, hW, hL, fileB, nilS, endE] at h1
      simp [fF, fB, fileB, nilS] at hA
      simp [go_sem, ir75, lS, hW, hL, h1, hP, hA, fileB, nilS, endE, purse_eq, List.range_succ]
end Go.AM.R1
open Go Go.AM
namespace Go.AM.R1

/-! ### A log that is opened in a file -/
def lO (lw : Bool) (ff : Bool) (L : List Bk) (fb : List Nat) (sure : Nat) (most : Int) : Heap :=
  if L = [] then [.box [.ptr 1 0, nilS, nilS, nilS], fileB (.own 2 fb.length 1 0 fb.length) sure most false, .arr true false ff 1 (fb.map encB)]
  else [.box [.ptr 1 0, .own 3 (joined [] (allR L)).length 3 0 (joined [] (allR L)).length, .own 4 L.length 2 0 L.length, nilS], fileB (.own 2 fb.length 1 0 fb.length) sure most false, .arr true false ff 1 (fb.map encB), .arr true lw false 3 ((joined [] (allR L)).map encRun), .arr true false false 2 ((endsGo 0 0 L).map encEnd)]
theorem owrite (ff lw : Bool) (L W) (hW : W ≠ []) (hl : W.length ≤ 4096) (hc : chk W = 0) (hj : joined [] W = W) (hg : L ≠ [] → chk (allR L) = 0 ∧ (joined [] (allR L)).length ≤ 500000 ∧ joined [] (allR L) ≠ [] ∧ L.length ≤ 500000) (fb : List Nat) (sure most) (n : Nat) (T : Int) (fu : Bool) :
    call E (.func (.func 114) [] []) [.ptr 0 0, .imm false fu true (W.map encRun), .agg (endE n T)] (lO lw ff L fb sure most)
      = some (.tup [], if L = [] then [.box [.ptr 1 0, .own 3 W.length 3 0 W.length, .own 4 1 2 0 1, nilS], fileB (.own 2 fb.length 1 0 fb.length) sure most false, .arr true false ff 1 (fb.map encB), .arr true false false 3 (W.map encRun), .arr true false false 2 [endE n T]]
        else [.box [.ptr 1 0, .own 5 (joined [] (allR L ++ W)).length 3 0 (joined [] (allR L ++ W)).length, .own 4 (L.length + 1) 2 0 (L.length + 1), nilS], fileB (.own 2 fb.length 1 0 fb.length) sure most false, .arr true false ff 1 (fb.map encB), .arr true true false 3 ((joined [] (allR L) ++ W).map encRun), .arr true false false 2 ((endsGo 0 0 L).map encEnd ++ [endE n T]), .arr true false false 3 ((joined [] (allR L ++ W)).map encRun)]) := by
  rw [call_func E E114]
  have hN := (chk_right hc).1
  have hok : ∀ r ∈ W, r.Ok := fun r hr => by have := hN r hr; exact ⟨by omega, by omega⟩
  have hsu := (chk_right hc).2
  have hr := rowsR W
  by_cases hL : L = []
  · have hJ := join_spec W (by omega) hok false false
    rw [joinGo_eq W 0 [] (by rw [posSum_of_right _ (fun r hr => by have := hN r hr; omega)]; omega), hj] at hJ
    have hbb : ¬ (70368744177664 < W.length * 24) := by omega
    simp [resV, resH, hW] at hJ
    simp [go_sem, ir114, lO, hL, fileB, endE, nilS, hr, hW, hbb, hJ, purse_eq, List.range_succ]
  · obtain ⟨a1, a2, a3, a4⟩ := hg hL
    have hjc := joined_chk a1
    obtain ⟨hsum, hall⟩ := sum_joined hjc.1 hc
    have hsj := (chk_right hjc.1).2
    have hps := posSum_of_right (joined [] (allR L) ++ W) (fun x hx => by have := hall x hx; omega)
    rw [sumN_append] at hps
    have hokA : ∀ x ∈ joined [] (allR L) ++ W, x.Ok := fun x hx => by have := hall x hx; exact ⟨by omega, by omega⟩
    have hJ := join_spec (joined [] (allR L) ++ W) (by simp; omega) hokA false false
    rw [joinGo_eq _ 0 [] (by omega)] at hJ
    have hQn : joined [] (joined [] (allR L) ++ W) ≠ [] := joined_ne (fun x hx => (hall x hx).1) (by simp [hW])
    rw [joined_joined] at hJ hQn
    have hel := endsGo_length L 0 0
    have hbb : ¬ (70368744177664 < ((joined [] (allR L)).length + W.length) * 24) := by omega
    have hbe : ¬ (70368744177664 < (L.length + 1) * 16) := by omega
    have hpos := List.length_pos_iff.2 hL
    have hn0 : ¬ L.length = 0 := by omega
    simp only [lO, hL, if_false]
    generalize joined [] (allR L ++ W) = Q at *
    generalize joined [] (allR L) = J at *
    generalize endsGo 0 0 L = es at *
    simp [resV, resH, hQn] at hJ
    simp [go_sem, ir114, hL, fileB, endE, nilS, hr, hW, hbb, hbe, hJ, hel, hn0, purse_eq, List.range_succ]
/-- What a round of Open sees. -/
def oH (ff : Bool) (L : List Bk) (fb : List Nat) (sure : Nat) (most : Int) : Heap :=
  if L = [] then [.loop 0 none [(5, .ptr 1 0)] [16, 17] A58_0 B58_0, .box [.ptr 2 0], .box [.ptr 3 0, nilS, nilS, nilS], fileB (.own 4 fb.length 1 0 fb.length) sure most false, .arr true false ff 1 (fb.map encB)]
  else [.loop 0 none [(5, .ptr 1 0)] [16, 17] A58_0 B58_0, .box [.ptr 2 0], .box [.ptr 3 0, .own 5 (joined [] (allR L)).length 3 0 (joined [] (allR L)).length, .own 6 L.length 2 0 L.length, nilS], fileB (.own 4 fb.length 1 0 fb.length) sure most false, .arr true false ff 1 (fb.map encB), .arr true false false 3 ((joined [] (allR L)).map encRun), .arr true false false 2 ((endsGo 0 0 L).map encEnd)]
theorem oY (ff : Bool) (L : List Bk) (x : Bk) (hW : x.2 ≠ []) (hl : x.2.length ≤ 4096) (hc : chk x.2 = 0) (hj : joined [] x.2 = x.2) (hg : L ≠ [] → chk (allR L) = 0 ∧ (joined [] (allR L)).length ≤ 500000 ∧ joined [] (allR L) ≠ [] ∧ L.length ≤ 500000) (fb : List Nat) (sure : Nat) (most : Int) (n : Nat) (T : Int) :
    call E (.yld 0) [.agg (encBk x), .agg (endE n T)] (oH ff L fb sure most)
      = some (.lit (.bool true), if L = [] then [.loop 0 none [(5, .ptr 1 0)] [16, 17] A58_0 B58_0, .box [.ptr 2 0], .box [.ptr 3 0, .own 5 x.2.length 3 0 x.2.length, .own 6 1 2 0 1, nilS], fileB (.own 4 fb.length 1 0 fb.length) sure most false, .arr true false ff 1 (fb.map encB), .arr true false false 3 (x.2.map encRun), .arr true false false 2 [endE n T]]
        else [.loop 0 none [(5, .ptr 1 0)] [16, 17] A58_0 B58_0, .box [.ptr 2 0], .box [.ptr 3 0, .own 7 (joined [] (allR L ++ x.2)).length 3 0 (joined [] (allR L ++ x.2)).length, .own 6 (L.length + 1) 2 0 (L.length + 1), nilS], fileB (.own 4 fb.length 1 0 fb.length) sure most false, .arr true false ff 1 (fb.map encB), .arr true true false 3 ((joined [] (allR L) ++ x.2).map encRun), .arr true false false 2 ((endsGo 0 0 L).map encEnd ++ [endE n T]), .arr true false false 3 ((joined [] (allR L ++ x.2)).map encRun)]) := by
  have hw := owrite ff false L x.2 hW hl hc hj hg fb sure most n T false
  by_cases hL : L = []
  · simp [lO, hL, fileB, endE, nilS] at hw
    simp [go_sem, oH, hL, encBk, fileB, endE, nilS, run_codeL E A58_0.eq_1, run_codeL E B58_0.eq_1, hw, purse_eq, List.range_succ]
  · simp [lO, hL, fileB, endE, nilS] at hw
    simp [go_sem, oH, hL, encBk, fileB, endE, nilS, run_codeL E A58_0.eq_1, run_codeL E B58_0.eq_1, hw, purse_eq, List.range_succ]
end Go.AM.R1
open Go Go.AM
namespace Go.AM.R1

theorem joined_nodup17 : ∀ (l o : List Run) (x : Run), (∀ r ∈ l, 1 ≤ r.N) → dup (x :: l) = false → joined (o ++ [x]) l = o ++ [x] ++ l
  | [], o, x, _, _ => by simp [joined]
  | r :: l, o, x, hN, hd => by
    rw [dup, Bool.or_eq_false_iff] at hd
    have hr := hN r (by simp)
    have hna : ¬ alike x r = true := by
      have := hd.1
      simp only [decide_eq_false_iff_not] at this
      simp [alike, this]
    rw [joined, if_neg (by omega), push_snoc, if_neg hna, show o ++ [x, r] = (o ++ [x]) ++ [r] from by simp, joined_nodup17 l (o ++ [x]) r (fun y hy => hN y (by simp [hy])) hd.2]
    simp
theorem joined_of_nodup17 {l : List Run} (hN : ∀ r ∈ l, 1 ≤ r.N) (hd : dup l = false) : joined [] l = l := by
  cases l with
  | nil => rfl
  | cons x l =>
    have hx := hN x (by simp)
    rw [joined, if_neg (by omega), push_nil]
    have := joined_nodup17 l [] x (fun r hr => hN r (by simp [hr])) hd
    simpa using this
theorem acc_facts {acc : List Bk} (hg : Good 0 acc) (hb : (blksB acc).length ≤ 1000000) : acc ≠ [] → chk (allR acc) = 0 ∧ (joined [] (allR acc)).length ≤ 500000 ∧ joined [] (allR acc) ≠ [] ∧ acc.length ≤ 500000 := by
  intro hne
  have h1 := good_chk (by omega) (by omega) hg
  have h2 := runs_le acc
  have h3 := joined_length (allR acc) []
  have h4 := good_len acc 0 hg
  simp at h3
  refine ⟨h1, by omega, joined_ne (fun x hx => ((chk_right h1).1 x hx).1) ?_, by omega⟩
  cases acc with
  | nil => exact absurd rfl hne
  | cons x r =>
    have := (chkB_ok hg.2.1).2.1
    rw [allR_cons]
    intro q
    exact this (List.append_eq_nil_iff.1 q).1
def oB (nl fu ff : Bool) (b : List Nat) (acc : List Bk) (p : Nat) (t : Int) (fb : List Nat) (sure : Nat) (most : Int) : Heap :=
  if acc = [] then [.box [.imm nl fu true (b.map encB)], .loop 0 none [(5, .ptr 2 0)] [16, 17] A58_0 B58_0, .box [.ptr 3 0], .box [.ptr 4 0, nilS, nilS, nilS], fileB (.own 5 fb.length 1 0 fb.length) sure most false, .arr true false ff 1 (fb.map encB), .box [.lit (.int .i64 p), .lit (.int .i64 t)]]
  else [.box [.imm nl fu true (b.map encB)], .loop 0 none [(5, .ptr 2 0)] [16, 17] A58_0 B58_0, .box [.ptr 3 0], .box [.ptr 4 0, .own 6 (joined [] (allR acc)).length 3 0 (joined [] (allR acc)).length, .own 7 acc.length 2 0 acc.length, nilS], fileB (.own 5 fb.length 1 0 fb.length) sure most false, .arr true false ff 1 (fb.map encB),
    .arr true false false 3 ((joined [] (allR acc)).map encRun), .arr true false false 2 ((endsGo 0 0 acc).map encEnd), .box [.lit (.int .i64 p), .lit (.int .i64 t)]]
def oF (nl fu ff : Bool) (b : List Nat) (acc : List Bk) (fb : List Nat) (sure : Nat) (most : Int) : Heap :=
  if acc = [] then [.box [.imm nl fu true (b.map encB)], .loop 0 none [(5, .ptr 2 0)] [16, 17] A58_0 B58_0, .box [.ptr 3 0], .box [.ptr 4 0, nilS, nilS, nilS], fileB (.own 5 fb.length 1 0 fb.length) sure most false, .arr true false ff 1 (fb.map encB)]
  else [.box [.imm nl fu true (b.map encB)], .loop 0 none [(5, .ptr 2 0)] [16, 17] A58_0 B58_0, .box [.ptr 3 0], .box [.ptr 4 0, .own 6 (joined [] (allR acc)).length 3 0 (joined [] (allR acc)).length, .own 7 acc.length 2 0 acc.length, nilS], fileB (.own 5 fb.length 1 0 fb.length) sure most false, .arr true false ff 1 (fb.map encB),
    .arr true false false 3 ((joined [] (allR acc)).map encRun), .arr true false false 2 ((endsGo 0 0 acc).map encEnd)]
def atO (acc : List Bk) : Nat := if acc = [] then 6 else 8
theorem open_loop (b : List Nat) (hb : ∀ c ∈ b, c < 256) (hl : b.length ≤ 1000000) (nl fu ff : Bool) (hnl : nl = false ∨ b = []) (fb : List Nat) (sure : Nat) (most : Int) :
    ∀ (d p : Nat) (t : Int) (acc : List Bk), b.length + 1 ≤ p + d → p ≤ b.length → Good 0 acc → p = (blksB acc).length → t = totB acc →
   finK 6 [] (run E 6 [.code L145_0, .inLoop [1000000, 0, 1, 3] L145_0, .inBlock 0]
     [(0, .yld 1), (1, .ptr 0 0), (3, .ptr (atO acc) 0)] (oB nl fu ff b acc p t fb sure most))
    = some (.tup [], oF nl fu ff b (scanGo d b p t acc).1 fb sure most) := by
  intro d
  induction d with
  | zero => intro p t acc hd hp; omega
  | succ d ih =>
    intro p t acc hd hp hga hpe hte
    have hta := good_tot acc 0 (by omega) (by omega) hga
    have hG := bget_spec (b.drop p) (fun c hc => hb c (List.mem_of_mem_drop hc)) (by simp; omega) nl (fu) (by rcases hnl with h | h; exact .inl h; subst h; exact .inr (by simp))
    rw [List.map_drop] at hG
    have hr := rowsB b
    have hfa := acc_facts hga (by omega)
    by_cases h : (getB (b.drop p)).2.2 = 0
    · obtain ⟨g1, g2, g3, g4, g5⟩ := get_good (fun c hc => hb c (List.mem_of_mem_drop hc)) h
      have gk := chkB_ok g1
      simp at g4
      by_cases h2 : (getB (b.drop p)).1.1 = t
      · have hn : scanGo (d + 1) b p t acc = scanGo d b (p + (getB (b.drop p)).2.1.toNat) (t + sumN (getB (b.drop p)).1.2) (acc ++ [(getB (b.drop p)).1]) := by
          rw [scanGo, if_pos ⟨h, h2⟩]
        rw [hn]
        clear hn
        have hT := ticks_spec (getB (b.drop p)).1.2 (by omega) (chkB_Ok g1) false false
        rw [ticks_eq, if_pos gk.2.2.2.1, gk.2.2.2.1] at hT
        have hs := (chk_right gk.2.2.2.1).2
        rw [h] at hG
        have hlen : (putBk (getB (b.drop p)).1).length = (getB (b.drop p)).2.1.toNat := by
          show (wholeB (numsN _ _)).length = _
          rw [← g5]; simp; omega
        have hgn : Good 0 (acc ++ [(getB (b.drop p)).1]) := by
          rw [good_append]
          refine ⟨hga, ?_, g1, g2, trivial⟩
          rw [Int.zero_add, ← hte, h2]
        have ih2 := ih (p + (getB (b.drop p)).2.1.toNat) (t + sumN (getB (b.drop p)).1.2) (acc ++ [(getB (b.drop p)).1]) (by omega) (by omega) hgn (by
          rw [blksB_append, List.length_append, ← hpe]
          show _ = p + (putBk (getB (b.drop p)).1 ++ []).length
          rw [List.append_nil, hlen]) (by rw [totB_append, ← hte]; simp [totB])
        have wp : IntKind.wrap .i64 ((p : Int) + (getB (b.drop p)).2.1) = ((p + (getB (b.drop p)).2.1.toNat : Nat) : Int) := by rw [wrap64 (by omega) (by omega)]; omega
        have wt : IntKind.wrap .i64 (t + sumN (getB (b.drop p)).1.2) = t + sumN (getB (b.drop p)).1.2 := by rw [wrap64 (by omega) (by omega)]
        have hR := gk.2.1
        have hY := oY ff acc (getB (b.drop p)).1 gk.2.1 gk.2.2.1 gk.2.2.2.1 (joined_of_nodup17 (fun r hr => ((chk_right gk.2.2.2.1).1 r hr).1) gk.2.2.2.2.1) hfa fb sure most (p + (getB (b.drop p)).2.1.toNat) (t + sumN (getB (b.drop p)).1.2)
        have hends : endsGo 0 0 (acc ++ [(getB (b.drop p)).1]) = endsGo 0 0 acc ++ [(p + (getB (b.drop p)).2.1.toNat, t + sumN (getB (b.drop p)).1.2)] := by
          rw [endsGo_append]
          simp only [endsGo, Nat.zero_add, Int.zero_add, hlen, ← hpe, ← hte]
        have hallR : allR (acc ++ [(getB (b.drop p)).1]) = allR acc ++ (getB (b.drop p)).1.2 := by rw [allR_append]; simp [allR]
        have hne : acc ++ [(getB (b.drop p)).1] ≠ [] := by simp
        have hjn := joined_of_nodup17 (l := (getB (b.drop p)).1.2) (fun r hr => ((chk_right gk.2.2.2.1).1 r hr).1) gk.2.2.2.2.1
        simp only [oB, hne, if_false, atO, hends, hallR, List.length_append, List.length_singleton, List.map_append, List.map_cons, List.map_nil] at ih2
        generalize oF nl fu ff b _ fb sure most = F at *
        clear g5 hlen hgn hends hallR hne
        generalize getB (b.drop p) = g at *
        obtain ⟨⟨f, W⟩, m, e⟩ := g
        simp only [] at *
        subst h2
        simp [resV, resHl, hR] at hG
        by_cases ha0 : acc = []
        · subst ha0
          rw [show allR ([] : List Bk) = [] from rfl, List.nil_append, hjn] at ih2
          simp [oH, encBk, fileB, endE, nilS] at hY
          simp [fileB, encEnd, endE, endsGo, nilS] at ih2
          simp [go_sem, run_codeL E L145_0.eq_1, hp, hr, take_allB, hG, hT, wp, wt, oB, atO, fileB, purse_eq, hY, nilS]
          rw [run_inLoop']
          simp [go_sem, purse_eq, List.range_succ]
          simpa using ih2
        · simp [oH, ha0, encBk, fileB, endE, nilS] at hY
          simp [fileB, encEnd, endE, nilS] at ih2
          simp [go_sem, run_codeL E L145_0.eq_1, hp, hr, take_allB, hG, hT, wp, wt, oB, atO, ha0, fileB, purse_eq, hY, nilS]
          rw [run_inLoop']
          simp [go_sem, purse_eq, List.range_succ]
          simpa using ih2
      · have hn : scanGo (d + 1) b p t acc = (acc, p, t) := by
          rw [scanGo, if_neg (by intro q; exact h2 q.2)]
        rw [hn]
        clear hn
        rw [h] at hG
        have hR := gk.2.1
        clear g5
        generalize getB (b.drop p) = g at *
        obtain ⟨⟨f, W⟩, m, e⟩ := g
        simp only [] at *
        simp [resV, resHl, hR] at hG
        by_cases ha0 : acc = []
        · subst ha0
          simp [go_sem, run_codeL E L145_0.eq_1, hp, hr, take_allB, hG, oB, oF, atO, fileB, purse_eq, List.range_succ, h2, nilS]
        · simp [go_sem, run_codeL E L145_0.eq_1, hp, hr, take_allB, hG, oB, oF, atO, ha0, fileB, purse_eq, List.range_succ, h2, nilS]
    · have hn : scanGo (d + 1) b p t acc = (acc, p, t) := by
        rw [scanGo, if_neg (by intro q; exact h q.1)]
      rw [hn]
      clear hn
      obtain ⟨g1, g2⟩ := get_bad h
      generalize getB (b.drop p) = g at *
      obtain ⟨⟨f, W⟩, m, e⟩ := g
      simp only [Prod.mk.injEq] at *
      obtain ⟨g1, g3⟩ := g1
      subst g1 g2 g3
      simp [resV, resHl] at hG
      by_cases ha0 : acc = []
      · subst ha0
        simp [go_sem, run_codeL E L145_0.eq_1, hp, hr, take_allB, hG, oB, oF, atO, fileB, purse_eq, List.range_succ, h, nilS]
      · simp [go_sem, run_codeL E L145_0.eq_1, hp, hr, take_allB, hG, oB, oF, atO, ha0, fileB, purse_eq, List.range_succ, h, nilS]
end Go.AM.R1
open Go Go.AM
namespace Go.AM.R1

theorem olast (lw ff : Bool) (L : List Bk) (hl : L.length ≤ 1000000) (fb : List Nat) (sure : Nat) (most : Int) : call E (.func (.func 115) [] []) [.ptr 0 0] (lO lw ff L fb sure most)
    = some (.agg (endE (blksB L).length (totB L)), lO lw ff L fb sure most) := by
  rw [call_func E E115]
  by_cases hL : L = []
  · simp [go_sem, ir115, lO, hL, fileB, nilS, purse_eq, List.range_succ, endE, blksB, totB]
  · have hp := List.length_pos_iff.2 hL
    have he := endsGo_last L hL 0 0
    simp only [Nat.zero_add, Int.zero_add] at he
    have hel := endsGo_length L 0 0
    have hi' : L.length - 1 < (endsGo 0 0 L).length := by omega
    have hx : (endsGo 0 0 L)[L.length - 1] = ((blksB L).length, totB L) := by simpa [List.getElem?_eq_getElem hi'] using he
    have w : IntKind.wrap .i64 ((L.length : Int) - 1) = ((L.length - 1 : Nat) : Int) := by rw [wrap64 (by omega) (by omega)]; omega
    have hlt : L.length - 1 < L.length := by omega
    have h0 : ¬ L.length = 0 := by omega
    clear he
    generalize L.length - 1 = i at *
    simp [go_sem, ir115, lO, hL, fileB, nilS, purse_eq, List.range_succ, w, hlt, hel, hx, h0, encEnd, endE]
theorem fkeep (ff : Bool) (fb : List Nat) (n : Nat) (hn : n ≤ fb.length) (sure : Nat) (most : Int) (cr : Bool) : call E (.func (.func 153) [] []) [.ptr 0 0, .lit (.int .i64 n)] (fB ff fb sure most cr)
    = some (.tup [], [fileB (.own 2 n 1 0 n) (min sure n) most cr, .dead, .arr true false true 1 ((fb.take n).map encB)]) := by
  rw [call_func E E153]
  have hmin : (if (n : Int) < (sure : Int) then (n : Int) else (sure : Int)) = ((min sure n : Nat) : Int) := by split <;> omega
  by_cases h : (n : Int) < (sure : Int)
  · have e : min sure n = n := by omega
    rw [e]
    have h' : n < sure := by omega
    simp [go_sem, ir153, fB, fileB, hn, h, h', purse_eq, List.range_succ]
  · have e : min sure n = sure := by omega
    rw [e]
    have h' : ¬ n < sure := by omega
    simp [go_sem, ir153, fB, fileB, hn, h, h', purse_eq, List.range_succ]
theorem fcut (ff : Bool) (fb : List Nat) (n : Nat) (hn : n ≤ fb.length) (sure : Nat) (most : Int) : call E (.func (.func 116) [] []) [.ptr 0 0, .lit (.int .i64 n)] (fB ff fb sure most false)
    = some (.lit (.int .i64 0), [fileB (.own 2 n 1 0 n) (min sure n) most false, .dead, .arr true false true 1 ((fb.take n).map encB)]) := by
  rw [call_func E E116]
  have h1 := bcheck1 ff fb sure most false
  have h2 := bsize1 ff fb sure most false
  have h3 := fkeep ff fb n hn sure most false
  have h4 : ¬ (n : Int) < 0 := by omega
  have h5 : ¬ (fb.length : Int) < (n : Int) := by omega
  have h6 : ¬ fb.length < n := by omega
  generalize fb.take n = fb' at *
  generalize min sure n = s' at *
  simp [fB, fileB] at h1 h2 h3
  simp [go_sem, ir116, fB, fileB, h1, h2, h3, h4, h5, h6, purse_eq, List.range_succ]
theorem oblocks1 (b : List Nat) (hb : ∀ c ∈ b, c < 256) (hl : b.length ≤ 1000000) (nl fu ff : Bool) (hnl : nl = false ∨ b = []) (fb : List Nat) (sure : Nat) (most : Int) :
    call E (.func (.func 145) [] [.ptr 0 0]) [.yld 1] [.box [.imm nl fu true (b.map encB)], .loop 0 none [(5, .ptr 2 0)] [16, 17] A58_0 B58_0, .box [.ptr 3 0], .box [.ptr 4 0, nilS, nilS, nilS], fileB (.own 5 fb.length 1 0 fb.length) sure most false, .arr true false ff 1 (fb.map encB)]
     = some (.tup [], oF nl fu ff b (scanB b).1 fb sure most) := by
  rw [call_func E E145]
  have h := open_loop b hb hl nl fu ff hnl fb sure most (b.length + 1) 0 0 [] (by omega) (by omega) trivial rfl rfl
  rw [show scanGo (b.length + 1) b 0 0 [] = scanB b from rfl] at h
  generalize oF nl fu ff b (scanB b).1 fb sure most = F at h ⊢
  simp [oB, atO, fileB, nilS] at h
  simp [go_sem, ir145, purse_eq, fileB, nilS]
  rw [run_inLoop']
  simp [go_sem, purse_eq, List.range_succ]
  exact h
theorem gopen (ff : Bool) (fb : List Nat) (hb : ∀ c ∈ fb, c < 256) (hl : fb.length ≤ 1000000) (sure : Nat) (most : Int) :
    call E (.func (.func 58) [] []) [.ptr 0 0] (fB ff fb sure most false)
      = some (.tup [.ptr 3 0, .lit (.int .i64 ((fb.length : Int) - (scanB fb).2.1)), .lit (.int .i64 0)],
        [fileB (.own 2 (scanB fb).2.1 1 0 (scanB fb).2.1) (min sure (scanB fb).2.1) most false, .dead, .arr true false true 1 ((fb.take (scanB fb).2.1).map encB)] ++
          (if (scanB fb).1 = [] then [.box [.ptr 0 0, nilS, nilS, nilS]] else [.box [.ptr 0 0, .own 4 (joined [] (allR (scanB fb).1)).length 3 0 (joined [] (allR (scanB fb).1)).length, .own 5 (scanB fb).1.length 2 0 (scanB fb).1.length, nilS], .arr true false false 3 ((joined [] (allR (scanB fb).1)).map encRun), .arr true false false 2 ((endsGo 0 0 (scanB fb).1).map encEnd)])) := by
  rw [call_func E E58]
  obtain ⟨f1, f2, f3, f4, f5⟩ := scanB_facts hb
  have hln := good_len _ 0 f1
  have h1 := fbytes true ff fb hl sure most false
  have h2 := blocks_spec false fb.isEmpty (fb.map encB)
  have h3 := oblocks1 fb hb hl false fb.isEmpty ff (.inl rfl) fb sure most
  have h4 := flen true ff fb (by intro h; cases h) sure most false
  have h5 := olast false ff (scanB fb).1 (by omega) fb sure most
  rw [← f2] at h5
  have h6 := fcut ff fb (scanB fb).2.1 f3 sure most
  have w : IntKind.wrap .i64 ((fb.length : Int) - ((scanB fb).2.1 : Int)) = (fb.length : Int) - (scanB fb).2.1 := wrap64 (by omega) (by omega)
  generalize hsc : scanB fb = sc at *
  obtain ⟨L, n, T⟩ := sc
  simp only [] at *
  generalize fb.take n = fb' at *
  generalize min sure n = s' at *
  simp [fF, fB, fileB, nilS] at h1 h4 h6
  by_cases hL : L = []
  · simp [oF, hL, fileB, nilS] at h3
    simp [lO, hL, fileB, endE, nilS] at h5
    simp [go_sem, ir58, fB, fileB, nilS, hL, h1, h2, h3, h4, h5, h6, w, purse_eq, List.range_succ]
  · simp [oF, hL, fileB, nilS] at h3
    simp [lO, hL, fileB, endE, nilS] at h5
    simp [go_sem, ir58, fB, fileB, nilS, hL, h1, h2, h3, h4, h5, h6, w, purse_eq, List.range_succ]
end Go.AM.R1
open Go Go.AM
namespace Go.AM.R1

theorem gsure0 (lq : Bool) (W) (most cr) : call E (.func (.func 66) [] []) [.ptr 0 0] (lS false false false lq [] W 0 most cr) = some (.lit (.int .i64 0), lS false false false lq [] W 0 most cr) := by
  rw [call_func E E66]
  by_cases hW : W = []
  · simp [go_sem, ir66, lS, hW, fileB, nilS, purse_eq, List.range_succ]
    rw [run_inLoop']
    simp [go_sem, purse_eq, List.range_succ, run_codeL E L66_0.eq_1]
  · simp [go_sem, ir66, lS, hW, fileB, nilS, purse_eq, List.range_succ]
    rw [run_inLoop']
    simp [go_sem, purse_eq, List.range_succ, run_codeL E L66_0.eq_1]
theorem ends_fold : ∀ (l : List Bk) (p : Nat) (t : Int), (endsGo p t l).foldl (fun _ e => e.2) t = t + totB l
  | [], p, t => by simp [endsGo, totB]
  | x :: l, p, t => by rw [endsGo, List.foldl_cons, ends_fold l, totB]; omega
theorem ends_le : ∀ (l : List Bk) (p : Nat) (t : Int), ∀ e ∈ endsGo p t l, e.1 ≤ p + (blksB l).length
  | [], p, t => by simp [endsGo]
  | x :: l, p, t => by
    intro e he
    rw [blksB_cons, List.length_append]
    rcases List.mem_cons.1 he with h | h
    · subst h; show p + _ ≤ _; omega
    · have := ends_le l _ _ e h; omega
theorem sure_loopA (ff lw : Bool) (nb sure nj : Nat) (most : Int) (cr : Bool) (B J : List (List AVal)) (es : List (Nat × Int)) (hl : es.length ≤ 1000000) (hs : ∀ e ∈ es, e.1 ≤ sure) (k : List Item) (R : Int → Option (AVal × Heap))
    (hS : call E (.func (.func 120) [] []) [.ptr 0 0] [fileB (.own 1 nb 1 0 nb) sure most cr, .arr true false ff 1 B] = some (.lit (.int .i64 sure), [fileB (.own 1 nb 1 0 nb) sure most cr, .arr true false ff 1 B]))
    (hk : ∀ τ t, lk 3 τ = .lit (.int .i64 t) → finK 5 [.tmp 2] (run E 5 k τ [.box [.ptr 1 0, .own 3 nj 3 0 nj, .own 4 es.length 2 0 es.length, nilS], fileB (.own 2 nb 1 0 nb) sure most cr, .arr true false ff 1 B, .arr true lw false 3 J, .arr true false false 2 (es.map encEnd)]) = R t) :
    ∀ (d i : Nat) (t : Int), i + d = es.length →
    finK 5 [.tmp 2] (run E 5 (.code L66_0 :: .inLoop [0, 3, 11, 12, 13] L66_0 :: .inBlock 0 :: k)
      [(0, .ptr 0 0), (3, .lit (.int .i64 t)), (11, .own 4 es.length 2 0 es.length), (12, .lit (.int .i64 es.length)), (13, .lit (.int .i64 i))]
      [.box [.ptr 1 0, .own 3 nj 3 0 nj, .own 4 es.length 2 0 es.length, nilS], fileB (.own 2 nb 1 0 nb) sure most cr, .arr true false ff 1 B, .arr true lw false 3 J, .arr true false false 2 (es.map encEnd)]) = R ((es.drop i).foldl (fun _ e => e.2) t) := by
  intro d
  induction d with
  | zero =>
    intro i t hi
    have : i = es.length := by omega
    subst this
    simp [go_sem, run_codeL E L66_0.eq_1]
    exact hk _ _ rfl
  | succ d ih =>
    intro i t hi
    have hlt : i < es.length := by omega
    have wi := wrapIdx (i := i) (by omega)
    have hx := hs es[i] (List.getElem_mem hlt)
    have ih2 := ih (i + 1) es[i].2 (by omega)
    rw [List.drop_eq_getElem_cons hlt, List.foldl_cons]
    generalize R _ = Q at ih2 ⊢
    simp [fileB, nilS] at hS ih2
    simp [go_sem, run_codeL E L66_0.eq_1, hlt, List.getElem?_eq_getElem hlt, encEnd, endE, fileB, nilS, hS, hx, wi, purse_eq, List.range_succ]
    rw [run_inLoop']
    simp [go_sem, purse_eq, List.range_succ]
    exact ih2
theorem sure_loopB (ff lw lq : Bool) (nb sure nj nw : Nat) (most : Int) (cr : Bool) (B J W : List (List AVal)) (es : List (Nat × Int)) (hl : es.length ≤ 1000000) (hs : ∀ e ∈ es, e.1 ≤ sure) (k : List Item) (R : Int → Option (AVal × Heap))
    (hS : call E (.func (.func 120) [] []) [.ptr 0 0] [fileB (.own 1 nb 1 0 nb) sure most cr, .arr true false ff 1 B] = some (.lit (.int .i64 sure), [fileB (.own 1 nb 1 0 nb) sure most cr, .arr true false ff 1 B]))
    (hk : ∀ τ t, lk 3 τ = .lit (.int .i64 t) → finK 6 [.tmp 2] (run E 6 k τ [.box [.ptr 1 0, .own 3 nj 3 0 nj, .own 4 es.length 2 0 es.length, .own 5 nw 3 0 nw], fileB (.own 2 nb 1 0 nb) sure most cr, .arr true false ff 1 B, .arr true lw false 3 J, .arr true false false 2 (es.map encEnd), .arr true lq false 3 W]) = R t) :
    ∀ (d i : Nat) (t : Int), i + d = es.length →
    finK 6 [.tmp 2] (run E 6 (.code L66_0 :: .inLoop [0, 3, 11, 12, 13] L66_0 :: .inBlock 0 :: k)
      [(0, .ptr 0 0), (3, .lit (.int .i64 t)), (11, .own 4 es.length 2 0 es.length), (12, .lit (.int .i64 es.length)), (13, .lit (.int .i64 i))]
      [.box [.ptr 1 0, .own 3 nj 3 0 nj, .own 4 es.length 2 0 es.length, .own 5 nw 3 0 nw], fileB (.own 2 nb 1 0 nb) sure most cr, .arr true false ff 1 B, .arr true lw false 3 J, .arr true false false 2 (es.map encEnd), .arr true lq false 3 W]) = R ((es.drop i).foldl (fun _ e => e.2) t) := by
  intro d
  induction d with
  | zero =>
    intro i t hi
    have : i = es.length := by omega
    subst this
    simp [go_sem, run_codeL E L66_0.eq_1]
    exact hk _ _ rfl
  | succ d ih =>
    intro i t hi
    have hlt : i < es.length := by omega
    have wi := wrapIdx (i := i) (by omega)
    have hx := hs es[i] (List.getElem_mem hlt)
    have ih2 := ih (i + 1) es[i].2 (by omega)
    rw [List.drop_eq_getElem_cons hlt, List.foldl_cons]
    generalize R _ = Q at ih2 ⊢
    simp [fileB, nilS] at hS ih2
    simp [go_sem, run_codeL E L66_0.eq_1, hlt, List.getElem?_eq_getElem hlt, encEnd, endE, fileB, nilS, hS, hx, wi, purse_eq, List.range_succ]
    rw [run_inLoop']
    simp [go_sem, purse_eq, List.range_succ]
    exact ih2
theorem gsure (ff lw lq : Bool) (L W) (hL : L ≠ []) (hl : L.length ≤ 1000000) (most cr) : call E (.func (.func 66) [] []) [.ptr 0 0] (lS true ff lw lq L W (blksB L).length most cr) = some (.lit (.int .i64 (totB L)), lS true ff lw lq L W (blksB L).length most cr) := by
  rw [call_func E E66]
  have hS := fsure true ff (blksB L) (blksB L).length most cr
  simp only [fF, if_true, fB] at hS
  have e1 := ends_fold L 0 0
  have e2 := fun e he => by have := ends_le L 0 0 e he; rwa [Nat.zero_add] at this
  have e3 := endsGo_length L 0 0
  rw [Int.zero_add] at e1
  rw [← e1]
  by_cases hW : W = []
  · simp [go_sem, ir66, lS, hW, hL, fileB, nilS, purse_eq, List.range_succ]
    rw [run_inLoop']
    simp [go_sem, purse_eq, List.range_succ]
    have h := fun k hk => sure_loopA ff lw (blksB L).length (blksB L).length (joined [] (allR L)).length most cr ((blksB L).map encB) ((joined [] (allR L)).map encRun) (endsGo 0 0 L) (by omega) e2 k (fun t => some (.lit (.int .i64 t), lS true ff lw lq L W (blksB L).length most cr)) hS hk (endsGo 0 0 L).length 0 0 (by omega)
    simp [hW, hL, lS, fileB, nilS, e3] at h
    refine h _ ?_
    intro τ t t3
    simp [go_sem, t3, purse_eq, List.range_succ]
  · simp [go_sem, ir66, lS, hW, hL, fileB, nilS, purse_eq, List.range_succ]
    rw [run_inLoop']
    simp [go_sem, purse_eq, List.range_succ]
    have h := fun k hk => sure_loopB ff lw lq (blksB L).length (blksB L).length (joined [] (allR L)).length W.length most cr ((blksB L).map encB) ((joined [] (allR L)).map encRun) (W.map encRun) (endsGo 0 0 L) (by omega) e2 k (fun t => some (.lit (.int .i64 t), lS true ff lw lq L W (blksB L).length most cr)) hS hk (endsGo 0 0 L).length 0 0 (by omega)
    simp [hW, hL, lS, fileB, nilS, e3] at h
    refine h _ ?_
    intro τ t t3
    simp [go_sem, t3, purse_eq, List.range_succ]
theorem fopen1 (ff : Bool) (fb : List Nat) (hl : fb.length ≤ 1000000) (sure : Nat) (most : Int) : call E (.func (.func 76) [] []) [.ptr 0 0] (fB ff fb sure most false)
    = some (.tup [.ptr 2 0, .lit (.int .i64 0)], fB ff fb sure most false ++ [fileB (.own 3 fb.length 1 0 fb.length) fb.length most false, .arr true false fb.isEmpty 1 (fb.map encB)]) := by
  rw [call_func E E76]
  have h1 := bsize1 ff fb sure most false
  have h2 := clone_spec fb ff (by omega)
  simp [fB, fileB] at h1
  simp [go_sem, ir76, fB, fileB, nilS, h1, h2, purse_eq, List.range_succ]
theorem fopen0 (most : Int) : call E (.func (.func 76) [] []) [.ptr 0 0] [fileB nilS 0 most false]
    = some (.tup [.ptr 1 0, .lit (.int .i64 0)], [fileB nilS 0 most false, fileB nilS 0 most false]) := by
  rw [call_func E E76]
  have h1 := nsize most false
  have h2 := bclone_nil true
  have h3 := bclone_nil false
  simp [fN, fileB, nilS] at h1 h2 h3
  simp [go_sem, ir76, fileB, nilS, h1, h2, h3, purse_eq, List.range_succ]
end Go.AM.R1
open Go Go.AM
namespace Go.AM.R1
/-! ### What is sure, in general -/
def sureOf (s : Nat) (L : List Bk) : Int := (endsGo 0 0 L).foldl (fun a e => if e.1 ≤ s then e.2 else a) 0
def rsG (s : Nat) : Nat → Int → List Bk → Int
  | _, a, [] => a
  | p, a, x :: r => rsG s (p + (putBk x).length) (if p + (putBk x).length ≤ s then a + sumN x.2 else a) r
theorem rsG_eq (s : Nat) : ∀ (l : List Bk) (p : Nat) (t a : Int), (p ≤ s → a = t) → rsG s p a l = (endsGo p t l).foldl (fun a e => if e.1 ≤ s then e.2 else a) a
  | [], p, t, a, _ => rfl
  | x :: l, p, t, a, h => by
    rw [rsG, endsGo, List.foldl_cons]
    by_cases hp : p + (putBk x).length ≤ s
    · rw [if_pos hp, if_pos hp, h (by omega)]
      exact rsG_eq s l _ _ _ (fun _ => rfl)
    · rw [if_neg hp, if_neg hp]
      exact rsG_eq s l _ _ _ (fun q => absurd q hp)
theorem sureG_loopA (ff lw : Bool) (nb sure nj : Nat) (most : Int) (cr : Bool) (B J : List (List AVal)) (es : List (Nat × Int)) (hl : es.length ≤ 1000000) (k : List Item) (R : Int → Option (AVal × Heap))
    (hS : call E (.func (.func 120) [] []) [.ptr 0 0] [fileB (.own 1 nb 1 0 nb) sure most cr, .arr true false ff 1 B] = some (.lit (.int .i64 sure), [fileB (.own 1 nb 1 0 nb) sure most cr, .arr true false ff 1 B]))
    (hk : ∀ τ t, lk 3 τ = .lit (.int .i64 t) → finK 5 [.tmp 2] (run E 5 k τ [.box [.ptr 1 0, .own 3 nj 3 0 nj, .own 4 es.length 2 0 es.length, nilS], fileB (.own 2 nb 1 0 nb) sure most cr, .arr true false ff 1 B, .arr true lw false 3 J, .arr true false false 2 (es.map encEnd)]) = R t) :
    ∀ (d i : Nat) (t : Int), i + d = es.length →
    finK 5 [.tmp 2] (run E 5 (.code L66_0 :: .inLoop [0, 3, 11, 12, 13] L66_0 :: .inBlock 0 :: k)
      [(0, .ptr 0 0), (3, .lit (.int .i64 t)), (11, .own 4 es.length 2 0 es.length), (12, .lit (.int .i64 es.length)), (13, .lit (.int .i64 i))]
      [.box [.ptr 1 0, .own 3 nj 3 0 nj, .own 4 es.length 2 0 es.length, nilS], fileB (.own 2 nb 1 0 nb) sure most cr, .arr true false ff 1 B, .arr true lw false 3 J, .arr true false false 2 (es.map encEnd)]) = R ((es.drop i).foldl (fun a e => if e.1 ≤ sure then e.2 else a) t) := by
  intro d
  induction d with
  | zero =>
    intro i t hi
    have : i = es.length := by omega
    subst this
    simp [go_sem, run_codeL E L66_0.eq_1]
    exact hk _ _ rfl
  | succ d ih =>
    intro i t hi
    have hlt : i < es.length := by omega
    have wi := wrapIdx (i := i) (by omega)
    by_cases hx : es[i].1 ≤ sure
    · have ih2 := ih (i + 1) es[i].2 (by omega)
      rw [List.drop_eq_getElem_cons hlt, List.foldl_cons, if_pos hx]
      generalize R _ = Q at ih2 ⊢
      simp [fileB, nilS] at hS ih2
      simp [go_sem, run_codeL E L66_0.eq_1, hlt, List.getElem?_eq_getElem hlt, encEnd, endE, fileB, nilS, hS, hx, wi, purse_eq, List.range_succ]
      rw [run_inLoop']
      simp [go_sem, purse_eq, List.range_succ]
      exact ih2
    · have ih2 := ih (i + 1) t (by omega)
      rw [List.drop_eq_getElem_cons hlt, List.foldl_cons, if_neg hx]
      generalize R _ = Q at ih2 ⊢
      simp [fileB, nilS] at hS ih2
      simp [go_sem, run_codeL E L66_0.eq_1, hlt, List.getElem?_eq_getElem hlt, encEnd, endE, fileB, nilS, hS, hx, wi, purse_eq, List.range_succ]
      rw [run_inLoop']
      simp [go_sem, purse_eq, List.range_succ]
      exact ih2
theorem sureG_loopB (ff lw lq : Bool) (nb sure nj nw : Nat) (most : Int) (cr : Bool) (B J W : List (List AVal)) (es : List (Nat × Int)) (hl : es.length ≤ 1000000) (k : List Item) (R : Int → Option (AVal × Heap))
    (hS : call E (.func (.func 120) [] []) [.ptr 0 0] [fileB (.own 1 nb 1 0 nb) sure most cr, .arr true false ff 1 B] = some (.lit (.int .i64 sure), [fileB (.own 1 nb 1 0 nb) sure most cr, .arr true false ff 1 B]))
    (hk : ∀ τ t, lk 3 τ = .lit (.int .i64 t) → finK 6 [.tmp 2] (run E 6 k τ [.box [.ptr 1 0, .own 3 nj 3 0 nj, .own 4 es.length 2 0 es.length, .own 5 nw 3 0 nw], fileB (.own 2 nb 1 0 nb) sure most cr, .arr true false ff 1 B, .arr true lw false 3 J, .arr true false false 2 (es.map encEnd), .arr true lq false 3 W]) = R t) :
    ∀ (d i : Nat) (t : Int), i + d = es.length →
    finK 6 [.tmp 2] (run E 6 (.code L66_0 :: .inLoop [0, 3, 11, 12, 13] L66_0 :: .inBlock 0 :: k)
      [(0, .ptr 0 0), (3, .lit (.int .i64 t)), (11, .own 4 es.length 2 0 es.length), (12, .lit (.int .i64 es.length)), (13, .lit (.int .i64 i))]
      [.box [.ptr 1 0, .own 3 nj 3 0 nj, .own 4 es.length 2 0 es.length, .own 5 nw 3 0 nw], fileB (.own 2 nb 1 0 nb) sure most cr, .arr true false ff 1 B, .arr true lw false 3 J, .arr true false false 2 (es.map encEnd), .arr true lq false 3 W]) = R ((es.drop i).foldl (fun a e => if e.1 ≤ sure then e.2 else a) t) := by
  intro d
  induction d with
  | zero =>
    intro i t hi
    have : i = es.length := by omega
    subst this
    simp [go_sem, run_codeL E L66_0.eq_1]
    exact hk _ _ rfl
  | succ d ih =>
    intro i t hi
    have hlt : i < es.length := by omega
    have wi := wrapIdx (i := i) (by omega)
    by_cases hx : es[i].1 ≤ sure
    · have ih2 := ih (i + 1) es[i].2 (by omega)
      rw [List.drop_eq_getElem_cons hlt, List.foldl_cons, if_pos hx]
      generalize R _ = Q at ih2 ⊢
      simp [fileB, nilS] at hS ih2
      simp [go_sem, run_codeL E L66_0.eq_1, hlt, List.getElem?_eq_getElem hlt, encEnd, endE, fileB, nilS, hS, hx, wi, purse_eq, List.range_succ]
      rw [run_inLoop']
      simp [go_sem, purse_eq, List.range_succ]
      exact ih2
    · have ih2 := ih (i + 1) t (by omega)
      rw [List.drop_eq_getElem_cons hlt, List.foldl_cons, if_neg hx]
      generalize R _ = Q at ih2 ⊢
      simp [fileB, nilS] at hS ih2
      simp [go_sem, run_codeL E L66_0.eq_1, hlt, List.getElem?_eq_getElem hlt, encEnd, endE, fileB, nilS, hS, hx, wi, purse_eq, List.range_succ]
      rw [run_inLoop']
      simp [go_sem, purse_eq, List.range_succ]
      exact ih2
theorem sureG (fo ff lw lq : Bool) (L W) (hfo : fo = false → L = []) (hl : L.length ≤ 1000000) (sure most cr) : call E (.func (.func 66) [] []) [.ptr 0 0] (lS fo ff lw lq L W sure most cr) = some (.lit (.int .i64 (sureOf sure L)), lS fo ff lw lq L W sure most cr) := by
  rw [call_func E E66]
  by_cases hL : L = []
  · subst hL
    have e0 : sureOf sure [] = 0 := rfl
    rw [e0]
    by_cases hW : W = []
    · cases fo
      · simp [go_sem, ir66, lS, hW, fileB, nilS, purse_eq, List.range_succ]
        rw [run_inLoop']
        simp [go_sem, purse_eq, List.range_succ, run_codeL E L66_0.eq_1]
      · simp [go_sem, ir66, lS, hW, fileB, nilS, purse_eq, List.range_succ]
        rw [run_inLoop']
        simp [go_sem, purse_eq, List.range_succ, run_codeL E L66_0.eq_1]
    · cases fo
      · simp [go_sem, ir66, lS, hW, fileB, nilS, purse_eq, List.range_succ]
        rw [run_inLoop']
        simp [go_sem, purse_eq, List.range_succ, run_codeL E L66_0.eq_1]
      · simp [go_sem, ir66, lS, hW, fileB, nilS, purse_eq, List.range_succ]
        rw [run_inLoop']
        simp [go_sem, purse_eq, List.range_succ, run_codeL E L66_0.eq_1]
  · have := foT hfo hL
    subst this
    have hS := fsure true ff (blksB L) sure most cr
    simp only [fF, if_true, fB] at hS
    have e3 := endsGo_length L 0 0
    have e1 : sureOf sure L = ((endsGo 0 0 L).drop 0).foldl (fun a e => if e.1 ≤ sure then e.2 else a) 0 := rfl
    rw [e1]
    by_cases hW : W = []
    · simp [go_sem, ir66, lS, hW, hL, fileB, nilS, purse_eq, List.range_succ]
      rw [run_inLoop']
      simp [go_sem, purse_eq, List.range_succ]
      have h := fun k hk => sureG_loopA ff lw (blksB L).length sure (joined [] (allR L)).length most cr ((blksB L).map encB) ((joined [] (allR L)).map encRun) (endsGo 0 0 L) (by omega) k (fun t => some (.lit (.int .i64 t), lS true ff lw lq L W sure most cr)) hS hk (endsGo 0 0 L).length 0 0 (by omega)
      simp [hW, hL, lS, fileB, nilS, e3] at h
      refine h _ ?_
      intro τ t t3
      simp [go_sem, t3, purse_eq, List.range_succ]
    · simp [go_sem, ir66, lS, hW, hL, fileB, nilS, purse_eq, List.range_succ]
      rw [run_inLoop']
      simp [go_sem, purse_eq, List.range_succ]
      have h := fun k hk => sureG_loopB ff lw lq (blksB L).length sure (joined [] (allR L)).length W.length most cr ((blksB L).map encB) ((joined [] (allR L)).map encRun) (W.map encRun) (endsGo 0 0 L) (by omega) k (fun t => some (.lit (.int .i64 t), lS true ff lw lq L W sure most cr)) hS hk (endsGo 0 0 L).length 0 0 (by omega)
      simp [hW, hL, lS, fileB, nilS, e3] at h
      refine h _ ?_
      intro τ t t3
      simp [go_sem, t3, purse_eq, List.range_succ]
end Go.AM.R1
open Go Go.AM
namespace Go.AM.R1

/-! ### Few of a list -/
theorem fewRow_loop (l : List RowV) (nl fu : Bool) (i : Nat) (hi : i < l.length) (hr : l[i].l.length ≤ 12) (rest : List Item) (R : Bool → Option (AVal × Heap))
    (hk : ∀ τ, lk 0 τ = .imm nl fu true (l.map encRow) → lk 3 τ = .lit (.int .i64 i) → finK 0 [.tmp 2] (run E 0 rest τ []) = R true) (hf : R false = some (.lit (.bool false), [])) :
    ∀ (d j : Nat), j + d = l[i].l.length →
    finK 0 [.tmp 2] (run E 0 (.code L68_1 :: .inLoop [1000000, 0, 3, 4] L68_1 :: .inBlock 2 :: rest) [(0, .imm nl fu true (l.map encRow)), (3, .lit (.int .i64 i)), (4, .lit (.int .i64 j))] []) = R ((l[i].l.drop j).all fun x => decide (x.N ≤ 1000000)) := by
  intro d
  induction d with
  | zero =>
    intro j hj
    have : j = l[i].l.length := by omega
    subst this
    simp [go_sem, run_codeL E L68_1.eq_1, hi, List.getElem?_eq_getElem hi, encRow]
    exact hk _ rfl rfl
  | succ d ih =>
    intro j hj
    have hlt : j < l[i].l.length := by omega
    have wi := wrapIdx (i := j) (by omega)
    rw [List.drop_eq_getElem_cons hlt, List.all_cons]
    by_cases h : l[i].l[j].N ≤ 1000000
    · have h' : ¬ 1000000 < l[i].l[j].N := by omega
      have ih2 := ih (j + 1) (by omega)
      rw [decide_eq_true h, Bool.true_and]
      simp [go_sem, run_codeL E L68_1.eq_1, hi, List.getElem?_eq_getElem hi, hlt, List.getElem?_eq_getElem hlt, encRun, encRow, h', wi, purse_eq]
      rw [run_inLoop']
      simp [go_sem, purse_eq]
      simpa [encRow] using ih2
    · have h' : 1000000 < l[i].l[j].N := by omega
      rw [decide_eq_false h, Bool.false_and, hf]
      simp [go_sem, run_codeL E L68_1.eq_1, hi, List.getElem?_eq_getElem hi, hlt, List.getElem?_eq_getElem hlt, encRun, encRow, h', purse_eq]
def fewA (l : List RowV) : Bool := decide (l.length ≤ 40) && l.all fun r => fewR r.l
theorem fewA_loop (l : List RowV) (nl fu : Bool) :
    ∀ (d i : Nat), i + d = min l.length 41 →
    finK 0 [.tmp 2] (run E 0 [.code L68_0, .inLoop [1000000, 0, 3] L68_0, .inBlock 0, .code (.seq (.reg [⟨none, some 42, .copy (.t 0)⟩, ⟨none, some 43, .len (.t 42)⟩, ⟨none, some 44, .bin .leq (.t 43) (.c (.lit (.int .i64 40)))⟩, ⟨none, some 2, .copy (.t 44)⟩] [] []) .ret)] [(0, .imm nl fu true (l.map encRow)), (3, .lit (.int .i64 i))] [])
      = some (.lit (.bool (decide (l.length ≤ 40) && (l.drop i).all fun r => fewR r.l)), []) := by
  intro d
  induction d with
  | zero =>
    intro i hi
    have hle : ¬ (i < l.length ∧ i < 41) := by omega
    by_cases h40 : l.length ≤ 40
    · have : i = l.length := by omega
      subst this
      simp [go_sem, run_codeL E L68_0.eq_1, h40]
      omega
    · have : i = 41 := by omega
      subst this
      have h1 : (41 : Int) < (l.length : Int) ∨ (l.length : Int) = 41 := by omega
      have h40' : ¬ (l.length : Int) ≤ 40 := by omega
      by_cases h2 : (41 : Int) < (l.length : Int)
      · simp [go_sem, run_codeL E L68_0.eq_1, h2, h40, h40']
      · simp [go_sem, run_codeL E L68_0.eq_1, h2, h40, h40']
  | succ d ih =>
    intro i hi
    have hlt : i < l.length := by omega
    have hlt' : (i : Int) < 41 := by omega
    have hlt2 : i < 41 := by omega
    have wi := wrapIdx (i := i) (by omega)
    have ih2 := ih (i + 1) (by omega)
    rw [List.drop_eq_getElem_cons hlt, List.all_cons]
    by_cases hl : l[i].l.length ≤ 12
    · have hl' : ¬ (12 : Int) < (l[i].l.length : Int) := by omega
      have hl2 : ¬ 12 < l[i].l.length := by omega
      have hf : fewR l[i].l = (l[i].l.drop 0).all fun x => decide (x.N ≤ 1000000) := by simp [fewR, hl]
      rw [hf]
      simp [go_sem, run_codeL E L68_0.eq_1, hlt, hlt', hlt2, List.getElem?_eq_getElem hlt, encRow, hl', hl2, purse_eq]
      rw [run_inLoop']
      simp [go_sem, purse_eq]
      have h := fun rest hk => fewRow_loop l nl fu i hlt hl rest (fun b => some (.lit (.bool (decide (l.length ≤ 40) && (b && (l.drop (i + 1)).all fun r => fewR r.l))), [])) hk (by simp) l[i].l.length 0 (by omega)
      simp [encRow] at h ih2
      refine h _ ?_
      intro τ t0 t3
      simp [go_sem, t0, t3, wi, purse_eq]
      rw [run_inLoop']
      simp [go_sem, purse_eq, t0]
      exact ih2
    · have hl' : (12 : Int) < (l[i].l.length : Int) := by omega
      have hl2 : 12 < l[i].l.length := by omega
      have hf : fewR l[i].l = false := by simp [fewR, hl]
      rw [hf]
      simp [go_sem, run_codeL E L68_0.eq_1, hlt, hlt', hlt2, List.getElem?_eq_getElem hlt, encRow, hl', hl2, purse_eq]
theorem fewA_spec (l : List RowV) (nl fu : Bool) : call E (.func (.func 68) [] []) [.imm nl fu true (l.map encRow)] [] = some (.lit (.bool (fewA l)), []) := by
  rw [call_func E E68]
  have h := fewA_loop l nl fu (min l.length 41) 0 (by omega)
  simp at h
  simp [go_sem, ir68, purse_eq]
  rw [run_inLoop']
  simp [go_sem, purse_eq]
  exact h
end Go.AM.R1
open Go Go.AM
namespace Go.AM.R1

/-! ### What an act does -/
theorem gdoes0 (fo ff lw lq : Bool) (L) (hfo : fo = false → L = []) (sure most) (nl fu : Bool) : call E (.func (.func 72) [] []) [.ptr 0 0, .agg [.imm nl fu true []]] (lS fo ff lw lq L [] sure most false)
    = some (.lit (.int .i64 0), lS fo ff lw lq L [] (blksB L).length most false) := by
  rw [call_func E E72]
  have h := gflush0 fo ff lw lq L hfo sure most false
  simp only [Bool.false_eq_true, if_false] at h
  by_cases hL : L = []
  · cases fo <;> simp [lS, hL, fileB, nilS] at h <;> simp [go_sem, ir72, lS, hL, h, fileB, nilS, purse_eq, List.range_succ]
  · have := foT hfo hL
    subst this
    simp [lS, hL, fileB, nilS] at h
    simp [go_sem, ir72, lS, hL, h, fileB, nilS, purse_eq, List.range_succ]
theorem gdoesF (fo ff lw lq : Bool) (L W) (hfo : fo = false → L = []) (hW : W ≠ []) (hc : chkB (totB L) W = 0) (hj : joined [] W = W) (hd : ∀ r ∈ W, 0 ≤ r.Drive ∧ r.Drive ≤ 4294967295) (ht : 0 ≤ totB L ∧ totB L ≤ 1073741824)
    (hg : L ≠ [] → chk (allR L) = 0 ∧ (joined [] (allR L)).length ≤ 500000 ∧ joined [] (allR L) ≠ [] ∧ L.length ≤ 500000) (hb : (blksB L).length ≤ 900000) (sure : Nat) (most : Int) (hm : 0 ≤ most ∧ most ≤ 67108864) (nl fu : Bool) :
    call E (.func (.func 72) [] []) [.ptr 0 0, .agg [.imm nl fu true []]] (lS fo ff lw lq L W sure most false)
      = some (if most < ((blksB L).length : Int) + (putBk (totB L, W)).length then (.lit (.int .i64 15), lS fo ff lw true L W sure most false) else (.lit (.int .i64 0), flH fo lw L W most)) := by
  rw [call_func E E72]
  have h := gflush fo ff lw lq L W hfo hW hc hj hd ht hg hb sure most hm false
  simp only [Bool.false_eq_true, if_false] at h
  by_cases h4 : most < ((blksB L).length : Int) + (putBk (totB L, W)).length
  · simp only [h4, if_true] at h ⊢
    by_cases hL : L = []
    · cases fo <;> simp [lS, hL, hW, fileB, nilS] at h <;> simp [go_sem, ir72, lS, hL, hW, h, fileB, nilS, purse_eq, List.range_succ]
    · have := foT hfo hL
      subst this
      simp [lS, hL, hW, fileB, nilS] at h
      simp [go_sem, ir72, lS, hL, hW, h, fileB, nilS, purse_eq, List.range_succ]
  · simp only [h4, if_false] at h ⊢
    by_cases hL : L = []
    · subst hL
      cases fo <;> simp [lS, flH, hW, fileB, nilS] at h <;> simp [go_sem, ir72, lS, flH, hW, h, fileB, nilS, purse_eq, List.range_succ]
    · have := foT hfo hL
      subst this
      simp [lS, flH, hL, hW, fileB, nilS] at h
      simp [go_sem, ir72, lS, flH, hL, hW, h, fileB, nilS, purse_eq, List.range_succ]
theorem gdoesA (fo ff lw lq : Bool) (L) (W r : List Run) (hr : r ≠ []) (hfo : fo = false → L = []) (hlL : L.length ≤ 1000000) (hlW : W.length ≤ 4096) (hcW : chk W = 0) (ht : 0 ≤ totB L ∧ totB L ≤ 1073741824) (hlr : r.length ≤ 900000) (hok : ∀ x ∈ r, x.Ok) (sure most) (nl fu : Bool) :
    call E (.func (.func 72) [] []) [.ptr 0 0, .agg [.imm nl fu true (r.map encRun)]] (lS fo ff lw lq L W sure most false)
      = some (.lit (.int .i64 (appE L W r)), if chk r ≠ 0 then lS fo ff lw lq L W sure most false else if appE L W r ≠ 0 then lS fo ff lw true L W sure most false else if W = [] then lS fo ff lw false L (joined [] (W ++ r)) sure most false else lSJ fo ff lw L W (joined [] (W ++ r)) sure most false) := by
  rw [call_func E E72]
  have h := gappend fo ff lw lq L W r hfo hlL hlW hcW ht hlr hok sure most false nl fu
  have hJ : chk r = 0 → joined [] (W ++ r) ≠ [] := fun hc => joined_ne (fun x hx => ((sum_joined hcW hc).2 x hx).1) (by simp [hr])
  have hp : r.length ≠ 0 := fun q => hr (List.length_eq_zero_iff.1 q)
  by_cases hc : chk r = 0
  · have hJ := hJ hc
    by_cases ha : appE L W r = 0
    · generalize appE L W r = a at h ha ⊢
      subst ha
      by_cases hW : W = []
      · simp only [hc, hW, ne_eq, not_true_eq_false, if_false, if_true] at h hJ ⊢
        generalize joined [] ([] ++ r) = Q at *
        by_cases hL : L = []
        · cases fo <;> simp [lS, hL, hJ, fileB, nilS] at h <;> simp [go_sem, ir72, lS, hL, hJ, hr, hp, h, fileB, nilS, purse_eq, List.range_succ]
        · have := foT hfo hL
          subst this
          simp [lS, hL, hJ, fileB, nilS] at h
          simp [go_sem, ir72, lS, hL, hJ, hr, hp, h, fileB, nilS, purse_eq, List.range_succ]
      · simp only [hc, hW, ne_eq, not_true_eq_false, if_false, if_true] at h hJ ⊢
        generalize joined [] (W ++ r) = Q at *
        by_cases hL : L = []
        · cases fo <;> simp [lS, lSJ, hL, hW, hJ, fileB, nilS] at h <;> simp [go_sem, ir72, lS, lSJ, hL, hW, hJ, hr, hp, h, fileB, nilS, purse_eq, List.range_succ]
        · have := foT hfo hL
          subst this
          simp [lS, lSJ, hL, hW, hJ, fileB, nilS] at h
          simp [go_sem, ir72, lS, lSJ, hL, hW, hJ, hr, hp, h, fileB, nilS, purse_eq, List.range_succ]
    · generalize appE L W r = a at *
      simp only [hc, ha, ne_eq, not_true_eq_false, not_false_eq_true, if_false, if_true] at h ⊢
      by_cases hL : L = []
      · by_cases hW : W = []
        · cases fo <;> simp [lS, hL, hW, fileB, nilS] at h <;> simp [go_sem, ir72, lS, hL, hW, hr, hp, h, fileB, nilS, purse_eq, List.range_succ]
        · cases fo <;> simp [lS, hL, hW, fileB, nilS] at h <;> simp [go_sem, ir72, lS, hL, hW, hr, hp, h, fileB, nilS, purse_eq, List.range_succ]
      · have := foT hfo hL
        subst this
        by_cases hW : W = []
        · simp [lS, hL, hW, fileB, nilS] at h
          simp [go_sem, ir72, lS, hL, hW, hr, hp, h, fileB, nilS, purse_eq, List.range_succ]
        · simp [lS, hL, hW, fileB, nilS] at h
          simp [go_sem, ir72, lS, hL, hW, hr, hp, h, fileB, nilS, purse_eq, List.range_succ]
  · generalize appE L W r = a at *
    simp only [hc, ne_eq, not_true_eq_false, not_false_eq_true, if_false, if_true] at h ⊢
    by_cases hL : L = []
    · by_cases hW : W = []
      · cases fo <;> simp [lS, hL, hW, fileB, nilS] at h <;> simp [go_sem, ir72, lS, hL, hW, hr, hp, h, fileB, nilS, purse_eq, List.range_succ]
      · cases fo <;> simp [lS, hL, hW, fileB, nilS] at h <;> simp [go_sem, ir72, lS, hL, hW, hr, hp, h, fileB, nilS, purse_eq, List.range_succ]
    · have := foT hfo hL
      subst this
      by_cases hW : W = []
      · simp [lS, hL, hW, fileB, nilS] at h
        simp [go_sem, ir72, lS, hL, hW, hr, hp, h, fileB, nilS, purse_eq, List.range_succ]
      · simp [lS, hL, hW, fileB, nilS] at h
        simp [go_sem, ir72, lS, hL, hW, hr, hp, h, fileB, nilS, purse_eq, List.range_succ]
end Go.AM.R1
open Go Go.AM
namespace Go.AM.R1

/-! ### What holds at each act -/
structure FInv (most : Int) (i : Nat) (L : List Bk) (W : List Run) : Prop where
  good : Good 0 L
  ck : chk W = 0
  jo : joined [] W = W
  dr : ∀ r ∈ W, 0 ≤ r.Drive ∧ r.Drive ≤ 4294967295
  ln : W.length ≤ 12 * i
  su : totB L + sumN W ≤ 12000000 * i
  bs : ((blksB L).length : Int) ≤ most
theorem FInv.tot {most i L W} (h : FInv most i L W) : 0 ≤ totB L ∧ totB L ≤ 1073741824 := by
  have := good_tot L 0 (by omega) (by omega) h.good
  omega
theorem FInv.sum {most i L W} (h : FInv most i L W) : 0 ≤ sumN W ∧ sumN W ≤ 1073741824 := (chk_right h.ck).2
theorem FInv.pos {most i L W} (h : FInv most i L W) (hW : W ≠ []) : 0 < sumN W := by
  cases W with
  | nil => exact absurd rfl hW
  | cons x xs =>
    have h1 := (chk_right h.ck).1 x (by simp)
    have h4 := expand_length xs (fun y hy => by have := (chk_right h.ck).1 y (by simp [hy]); omega)
    rw [show sumN (x :: xs) = x.N + sumN xs from rfl]
    omega
theorem FInv.chkB {most i L W} (h : FInv most i L W) (hi : i ≤ 85) (hW : W ≠ []) : chkB (totB L) W = 0 := by
  have h1 := h.tot
  have h2 := h.sum
  have h3 := h.ln
  have h4 := h.su
  have hdup : dup W = false := tidy_dup17 (chk_all h.ck) (by have := tidy_joined W [] ⟨by simp, by simp⟩; rwa [h.jo] at this)
  unfold R1.chkB
  rw [if_neg (by omega), if_neg hW, if_neg (by omega), if_neg (by simp [h.ck]), if_neg (by simp [hdup]), if_neg (by omega)]
theorem FInv.succ {most i L W} (h : FInv most i L W) : FInv most (i + 1) L W := by
  have h3 := h.ln
  have h4 := h.su
  exact ⟨h.good, h.ck, h.jo, h.dr, by omega, by omega, h.bs⟩
theorem FInv.flush {most i L W} (h : FInv most i L W) (hi : i ≤ 85) (hW : W ≠ []) (hm : ¬ most < ((blksB L).length : Int) + (putBk (totB L, W)).length) : FInv most (i + 1) (L ++ [(totB L, W)]) [] := by
  have h4 := h.su
  have hc := h.chkB hi hW
  refine ⟨(good_append L _ 0).2 ⟨h.good, ?_⟩, rfl, rfl, by simp, by simp, ?_, ?_⟩
  · simp only [Int.zero_add]
    exact ⟨rfl, hc, h.dr, trivial⟩
  · rw [totB_append]
    simp [totB, sumN]
    omega
  · rw [blksB_append, List.length_append]
    rw [show blksB [(totB L, W)] = putBk (totB L, W) from by simp [blksB]]
    omega
theorem FInv.app {most i L W} (h : FInv most i L W) (hi : i < 85) {r : List Run} (hr : chk r = 0) (hl : r.length ≤ 12) (hn : ∀ x ∈ r, x.N ≤ 1000000) (hf : ∀ x ∈ r, x.Fit) : FInv most (i + 1) L (joined [] (W ++ r)) ∧ appE L W r = 0 := by
  have h3 := h.ln
  have h4 := h.su
  obtain ⟨h5, h6⟩ := sum_joined h.ck hr
  have hps := posSum_le r 1000000 (by omega) hn
  have hpr := posSum_of_right r (fun x hx => by have := h6 x (by simp [hx]); omega)
  have hjl := joined_length (W ++ r) []
  simp at hjl
  have hsr := (chk_right hr).2
  have hsw := h.sum
  have ht := h.tot
  have hc : chk (W ++ r) = 0 := by
    unfold chk
    rw [if_pos (by rw [List.all_append, chk_all_right h.ck, chk_all_right hr]; rfl), if_neg (by rw [sumN_append]; omega)]
  refine ⟨⟨h.good, (joined_chk hc).1, joined_self _, joined_drive ?_, by omega, by omega, h.bs⟩, ?_⟩
  · intro x hx
    rcases List.mem_append.1 hx with q | q
    · exact h.dr x q
    · exact (hf x q).2.2
  · unfold appE
    rw [if_neg (by simp [hr]), if_neg (by omega)]
theorem good_byte : ∀ (l : List Bk) (t : Int), Good t l → ∀ c ∈ blksB l, c < 256
  | [], _, _ => by simp [blksB]
  | x :: l, t, g => by
    intro c hc
    rw [blksB_cons] at hc
    rcases List.mem_append.1 hc with h | h
    · obtain ⟨h1, h2, h3, h4, h5, h6⟩ := chkB_ok g.2.1
      have hn := nums_bytes g.2.1
      exact wholeB_byte (numsN x.1 x.2) (fun n hn => by have := nums_lt h1 h3 (chk_right h4).1 n hn; omega) (by omega) c h
    · exact good_byte l _ g.2.2.2 c h
theorem chk_not15 (r : List Run) : chk r ≠ 15 := by
  unfold chk
  split
  · split <;> omega
  · omega
end Go.AM.R1
open Go Go.AM
namespace Go.AM.R1
/-! ### What was appended, and what there is -/
theorem joined_of_expand {l m : List Run} (h : expand l = expand m) : joined [] l = joined [] m := by
  rw [← joined_expand l, ← joined_expand m, h]
structure BInv (i : Nat) (L : List Bk) (W A : List Run) : Prop where
  fi : FInv 100000 i L W
  nb : (blksB L).length ≤ 20 * L.length + 10 * (allR L).length
  nl : L.length ≤ i
  nr : (allR L).length + W.length ≤ 12 * i
  ca : chk A = 0
  la : A.length ≤ 12 * i
  ex : expand A = expand (allR L ++ W)
  su : sumN A = totB L + sumN W
theorem BInv.succ {i L W A} (h : BInv i L W A) : BInv (i + 1) L W A := by
  obtain ⟨h1, h2, h3, h4, h5, h6, h7, h8⟩ := h
  exact ⟨h1.succ, h2, by omega, by omega, h5, by omega, h7, h8⟩
theorem putBk_len10 {x : Bk} (h : chkB x.1 x.2 = 0) : (putBk x).length ≤ 20 + 10 * x.2.length := by
  obtain ⟨h1, h2, h3, h4, h5, h6⟩ := chkB_ok h
  have := bytes_len5 (numsN x.1 x.2) (nums_lt h1 h3 (chk_right h4).1)
  have e : (numsN x.1 x.2).length = 2 * x.2.length + 2 := by simp only [numsN, List.length_cons, runN_length]
  have h7 := whole_len (numsN x.1 x.2)
  have h8 := putN_len64 (n := (bytesN (numsN x.1 x.2)).length) (by omega)
  have hp : (putN (bytesN (numsN x.1 x.2)).length).length ≤ 6 := by
    have := putN_length 4 (bytesN (numsN x.1 x.2)).length (by omega)
    omega
  rw [show putBk x = wholeB (numsN x.1 x.2) from rfl]
  omega
theorem BInv.room {i L W A} (h : BInv i L W A) (hi : i ≤ 85) (hW : W ≠ []) : ¬ (100000 : Int) < ((blksB L).length : Int) + (putBk (totB L, W)).length := by
  have h1 := putBk_len10 (x := (totB L, W)) (h.fi.chkB hi hW)
  have h2 := h.nb
  have h3 := h.nl
  have h4 := h.nr
  simp only [] at h1
  omega
theorem BInv.flush {i L W A} (h : BInv i L W A) (hi : i ≤ 85) (hW : W ≠ []) : BInv (i + 1) (L ++ [(totB L, W)]) [] A := by
  have h1 := putBk_len10 (x := (totB L, W)) (h.fi.chkB hi hW)
  have h2 := h.nb
  have h3 := h.nl
  have h4 := h.nr
  have h6 := h.la
  have e : allR (L ++ [(totB L, W)]) = allR L ++ W := by simp [allR]
  refine ⟨h.fi.flush hi hW (h.room hi hW), ?_, by simp; omega, ?_, h.ca, by omega, ?_, ?_⟩
  · rw [e, blksB_append, List.length_append, List.length_append, List.length_append, show blksB [(totB L, W)] = putBk (totB L, W) from by simp [blksB]]
    simp only [List.length_cons, List.length_nil] at *
    omega
  · rw [e]; simp; omega
  · rw [e, List.append_nil]; exact h.ex
  · rw [totB_append, h.su]; simp [totB, sumN]
theorem BInv.app {i L W A} (h : BInv i L W A) (hi : i < 85) {r : List Run} (hr : chk r = 0) (hl : r.length ≤ 12) (hn : ∀ x ∈ r, x.N ≤ 1000000) (hf : ∀ x ∈ r, x.Fit) : BInv (i + 1) L (joined [] (W ++ r)) (A ++ r) ∧ appE L W r = 0 := by
  obtain ⟨f1, f2⟩ := h.fi.app hi hr hl hn hf
  have h3 := h.nl
  have h4 := h.nr
  have h6 := h.la
  have hsu := h.su
  have hfs := f1.su
  obtain ⟨h5, h5'⟩ := sum_joined h.fi.ck hr
  have hjl := joined_length (W ++ r) []
  simp at hjl
  have ht := h.fi.tot
  have hc : chk (W ++ r) = 0 := by
    unfold chk
    rw [if_pos (by rw [List.all_append, chk_all_right h.fi.ck, chk_all_right hr]; rfl), if_neg (by rw [sumN_append]; omega)]
  refine ⟨⟨f1, h.nb, by omega, by omega, ?_, by simp; omega, ?_, ?_⟩, f2⟩
  · unfold chk
    rw [if_pos (by rw [List.all_append, chk_all_right h.ca, chk_all_right hr]; rfl), if_neg (by rw [sumN_append]; omega)]
  · rw [expand_append, h.ex, expand_append, expand_append, (joined_chk hc).2.2, expand_append, List.append_assoc]
  · rw [sumN_append]; omega
end Go.AM.R1
open Go Go.AM
namespace Go.AM.R1
def lG (ff lw lq : Bool) (L : List Bk) (W : List Run) (most : Int) : Heap := if L = [] then lS false false false lq [] W 0 most false else lS true ff lw lq L W (blksB L).length most false
def ixA (L : List Bk) (W : List Run) : Nat := if L = [] then (if W = [] then 2 else 3) else (if W = [] then 5 else 6)
set_option maxHeartbeats 4000000 in
theorem back1_A0 (ff lw lq : Bool) (l : List RowV) (nl fu : Bool) (nm fm : Bool) (mo : List RowV) (hl4 : l.length ≤ 40) (hfew : ∀ r ∈ l, fewR r.l = true) (hfit : ∀ r ∈ l, r.Fit) (i : Nat) (hi : i < l.length) (A : List Run) (v : BInv i ([] : List Bk) ([] : List Run) A) (k : List Item) (Q : Option (AVal × Heap))
    (ih : ∀ L' W' A' ff lw lq, BInv (i + 1) L' W' A' → finK 0 [.tmp 4] (run E 0 (.code L14_0 :: .inLoop [1000000, 0, 1, 5, 6, 7, 8] L14_0 :: .inBlock 0 :: k) [(0, .imm nl fu true (l.map encRow)), (1, .imm nm fm true (mo.map encRow)), (5, .ptr 0 0), (6, .ptr 1 0), (7, .own (ixA L' W') (A').length 3 0 (A').length), (8, .lit (.int .i64 ((i + 1 : Nat) : Int)))] (lG ff lw lq L' W' 100000 ++ [.arr true false (A').isEmpty 3 ((A').map encRun)])) = Q) :
    finK 0 [.tmp 4] (run E 0 (.code L14_0 :: .inLoop [1000000, 0, 1, 5, 6, 7, 8] L14_0 :: .inBlock 0 :: k) [(0, .imm nl fu true (l.map encRow)), (1, .imm nm fm true (mo.map encRow)), (5, .ptr 0 0), (6, .ptr 1 0), (7, .own (ixA ([] : List Bk) ([] : List Run)) (A).length 3 0 (A).length), (8, .lit (.int .i64 i))] (lG ff lw lq ([] : List Bk) ([] : List Run) 100000 ++ [.arr true false (A).isEmpty 3 ((A).map encRun)])) = Q := by
  have hfo : false = false → ([] : List Bk) = [] := (fun _ => rfl)
  have v1 := v.fi
  have hb := v1.bs
  have hln := v1.ln
  have ht := v1.tot
  have hsW := v1.sum
  have wi := wrapIdx (i := i) (by omega)
  have hg := acc_facts v1.good (by omega)
  have hla := v.la
  have hlL : ([] : List Bk).length ≤ 1000000 := by simp
  have hlW : ([] : List Run).length ≤ 4096 := by simp
  have hgi : (l.map encRow)[i]? = some (encRow l[i]) := by simp [List.getElem?_eq_getElem hi]
  have hmem := List.getElem_mem hi
  have hw := hfew _ hmem
  have hf0 := hfit _ hmem
  have hr : encRow l[i] = [.imm l[i].nl l[i].fu true (l[i].l.map encRun)] := rfl
  generalize l[i].nl = rn at *
  generalize l[i].fu = rf at *
  by_cases he : l[i].l = []
  · rw [he] at hr
    have D := gdoes0 false false false lq ([] : List Bk) hfo 0 100000 rn rf
    have ih := ih ([] : List Bk) [] A false false lq v.succ
    simp only [lG, lS, lSJ, flH, ixA, if_true, if_false, Bool.true_eq_false, reduceIte, reduceCtorEq] at D ih ⊢
    simp [lG, lS, ixA, fF, fB, fileB, nilS, endE, encEnd, show totB [] = 0 from rfl, show blksB [] = [] from rfl] at D ih
    simp [go_sem, run_codeL E L14_0.eq_1, hi, hgi, hr, wi, fileB, nilS, purse_eq, List.range_succ, D, lG, lS, ixA, fF, fB, fileB, nilS, endE, encEnd, show totB [] = 0 from rfl, show blksB [] = [] from rfl]
    rw [run_inLoop']
    simp [go_sem, purse_eq, List.range_succ]
    exact ih
  · have hl12 : l[i].l.length ≤ 12 := by simp [fewR] at hw; exact hw.1
    have hn : ∀ x ∈ l[i].l, x.N ≤ 1000000 := by simp [fewR] at hw; exact hw.2
    have hok : ∀ x ∈ l[i].l, x.Ok := fun x hx => (hf0.1 x hx).ok
    have D := gdoesA false false false lq ([] : List Bk) ([] : List Run) l[i].l he hfo hlL hlW v1.ck ht (by omega) hok 0 100000 rn rf
    by_cases hc : chk l[i].l = 0
    · obtain ⟨v2, ha⟩ := v.app (by omega) hc hl12 hn hf0.1
      have hJn : joined [] (([] : List Run) ++ l[i].l) ≠ [] := joined_ne (fun x hx => ((sum_joined v1.ck hc).2 x hx).1) (by simp [he])
      have ih := ih ([] : List Bk) (joined [] (([] : List Run) ++ l[i].l)) (A ++ l[i].l) false false false v2
      rw [show (A ++ l[i].l).isEmpty = false from by simp [he]] at ih
      simp only [ha, hc, ne_eq, not_true_eq_false, if_false, if_true] at D
      have rr := rowsR l[i].l
      have hrp := List.length_pos_iff.2 he
      have hr0 : ¬ l[i].l.length = 0 := by omega
      have hsz : ¬ (70368744177664 < (A.length + l[i].l.length) * 24) := by omega
      generalize joined [] (([] : List Run) ++ l[i].l) = Z at *
      simp only [lG, lS, lSJ, flH, ixA, hJn, if_true, if_false, Bool.true_eq_false, reduceIte, reduceCtorEq] at D ih  ⊢
      generalize l[i].l = r at *
      simp [lG, lS, ixA, fF, fB, fileB, nilS, endE, encEnd, show totB [] = 0 from rfl, show blksB [] = [] from rfl, lSJ, hJn] at D
      simp [lG, lS, ixA, fF, fB, fileB, nilS, endE, encEnd, show totB [] = 0 from rfl, show blksB [] = [] from rfl, hJn, he] at ih
      simp [go_sem, run_codeL E L14_0.eq_1, hi, hgi, hr, wi, fileB, nilS, purse_eq, List.range_succ, D, hJn, rr, hr0, hsz, he, lG, lS, ixA, fF, fB, fileB, nilS, endE, encEnd, show totB [] = 0 from rfl, show blksB [] = [] from rfl]
      rw [run_inLoop']
      simp [go_sem, purse_eq, List.range_succ]
      exact ih
    · have ha : appE ([] : List Bk) ([] : List Run) l[i].l = chk l[i].l := by unfold appE; rw [if_pos hc]
      have ih := ih ([] : List Bk) ([] : List Run) A false false lq v.succ
      simp only [ha, hc, ne_eq, not_false_eq_true, if_true] at D
      clear ha
      generalize chk l[i].l = c at *
      simp only [lG, lS, lSJ, flH, ixA, if_true, if_false, Bool.true_eq_false, reduceIte, reduceCtorEq] at D ih ⊢
      generalize l[i].l = r at *
      simp [lG, lS, ixA, fF, fB, fileB, nilS, endE, encEnd, show totB [] = 0 from rfl, show blksB [] = [] from rfl] at D ih
      simp [go_sem, run_codeL E L14_0.eq_1, hi, hgi, hr, wi, fileB, nilS, purse_eq, List.range_succ, D, hc, lG, lS, ixA, fF, fB, fileB, nilS, endE, encEnd, show totB [] = 0 from rfl, show blksB [] = [] from rfl]
      rw [run_inLoop']
      simp [go_sem, purse_eq, List.range_succ]
      exact ih
set_option maxHeartbeats 4000000 in
theorem back1_B0 (ff lw lq : Bool) (L : List Bk) (hL : L ≠ []) (l : List RowV) (nl fu : Bool) (nm fm : Bool) (mo : List RowV) (hl4 : l.length ≤ 40) (hfew : ∀ r ∈ l, fewR r.l = true) (hfit : ∀ r ∈ l, r.Fit) (i : Nat) (hi : i < l.length) (A : List Run) (v : BInv i L ([] : List Run) A) (k : List Item) (Q : Option (AVal × Heap))
    (ih : ∀ L' W' A' ff lw lq, BInv (i + 1) L' W' A' → finK 0 [.tmp 4] (run E 0 (.code L14_0 :: .inLoop [1000000, 0, 1, 5, 6, 7, 8] L14_0 :: .inBlock 0 :: k) [(0, .imm nl fu true (l.map encRow)), (1, .imm nm fm true (mo.map encRow)), (5, .ptr 0 0), (6, .ptr 1 0), (7, .own (ixA L' W') (A').length 3 0 (A').length), (8, .lit (.int .i64 ((i + 1 : Nat) : Int)))] (lG ff lw lq L' W' 100000 ++ [.arr true false (A').isEmpty 3 ((A').map encRun)])) = Q) :
    finK 0 [.tmp 4] (run E 0 (.code L14_0 :: .inLoop [1000000, 0, 1, 5, 6, 7, 8] L14_0 :: .inBlock 0 :: k) [(0, .imm nl fu true (l.map encRow)), (1, .imm nm fm true (mo.map encRow)), (5, .ptr 0 0), (6, .ptr 1 0), (7, .own (ixA L ([] : List Run)) (A).length 3 0 (A).length), (8, .lit (.int .i64 i))] (lG ff lw lq L ([] : List Run) 100000 ++ [.arr true false (A).isEmpty 3 ((A).map encRun)])) = Q := by
  have hfo : true = false → L = [] := (fun h => nomatch h)
  have v1 := v.fi
  have hb := v1.bs
  have hln := v1.ln
  have ht := v1.tot
  have hsW := v1.sum
  have wi := wrapIdx (i := i) (by omega)
  have hg := acc_facts v1.good (by omega)
  have hla := v.la
  obtain ⟨g1, g2, g3, g4⟩ := hg hL
  have hlL : L.length ≤ 1000000 := by omega
  have hlW : ([] : List Run).length ≤ 4096 := by simp
  have hgi : (l.map encRow)[i]? = some (encRow l[i]) := by simp [List.getElem?_eq_getElem hi]
  have hmem := List.getElem_mem hi
  have hw := hfew _ hmem
  have hf0 := hfit _ hmem
  have hr : encRow l[i] = [.imm l[i].nl l[i].fu true (l[i].l.map encRun)] := rfl
  generalize l[i].nl = rn at *
  generalize l[i].fu = rf at *
  by_cases he : l[i].l = []
  · rw [he] at hr
    have D := gdoes0 true ff lw lq L hfo (blksB L).length 100000 rn rf
    have ih := ih L [] A ff lw lq v.succ
    simp only [lG, lS, lSJ, flH, ixA, hL, if_true, if_false, Bool.true_eq_false, reduceIte, reduceCtorEq] at D ih ⊢
    generalize joined [] (allR L) = J at *
    generalize blksB L = bs at *
    generalize totB L = T at *
    generalize endsGo 0 0 L = es at *
    generalize L.length = nL at *
    simp [lG, lS, ixA, fF, fB, fileB, nilS, endE, encEnd, hL, show totB [] = 0 from rfl, show blksB [] = [] from rfl] at D ih
    simp [go_sem, run_codeL E L14_0.eq_1, hi, hgi, hr, wi, fileB, nilS, purse_eq, List.range_succ, D, lG, lS, ixA, fF, fB, fileB, nilS, endE, encEnd, hL, show totB [] = 0 from rfl, show blksB [] = [] from rfl]
    rw [run_inLoop']
    simp [go_sem, purse_eq, List.range_succ]
    exact ih
  · have hl12 : l[i].l.length ≤ 12 := by simp [fewR] at hw; exact hw.1
    have hn : ∀ x ∈ l[i].l, x.N ≤ 1000000 := by simp [fewR] at hw; exact hw.2
    have hok : ∀ x ∈ l[i].l, x.Ok := fun x hx => (hf0.1 x hx).ok
    have D := gdoesA true ff lw lq L ([] : List Run) l[i].l he hfo hlL hlW v1.ck ht (by omega) hok (blksB L).length 100000 rn rf
    by_cases hc : chk l[i].l = 0
    · obtain ⟨v2, ha⟩ := v.app (by omega) hc hl12 hn hf0.1
      have hJn : joined [] (([] : List Run) ++ l[i].l) ≠ [] := joined_ne (fun x hx => ((sum_joined v1.ck hc).2 x hx).1) (by simp [he])
      have ih := ih L (joined [] (([] : List Run) ++ l[i].l)) (A ++ l[i].l) ff lw false v2
      rw [show (A ++ l[i].l).isEmpty = false from by simp [he]] at ih
      simp only [ha, hc, ne_eq, not_true_eq_false, if_false, if_true] at D
      have rr := rowsR l[i].l
      have hrp := List.length_pos_iff.2 he
      have hr0 : ¬ l[i].l.length = 0 := by omega
      have hsz : ¬ (70368744177664 < (A.length + l[i].l.length) * 24) := by omega
      generalize joined [] (([] : List Run) ++ l[i].l) = Z at *
      simp only [lG, lS, lSJ, flH, ixA, hL, hJn, if_true, if_false, Bool.true_eq_false, reduceIte, reduceCtorEq] at D ih  ⊢
      generalize l[i].l = r at *
      generalize joined [] (allR L) = J at *
      generalize blksB L = bs at *
      generalize totB L = T at *
      generalize endsGo 0 0 L = es at *
      generalize L.length = nL at *
      simp [lG, lS, ixA, fF, fB, fileB, nilS, endE, encEnd, hL, show totB [] = 0 from rfl, show blksB [] = [] from rfl, lSJ, hJn] at D
      simp [lG, lS, ixA, fF, fB, fileB, nilS, endE, encEnd, hL, show totB [] = 0 from rfl, show blksB [] = [] from rfl, hJn, he] at ih
      simp [go_sem, run_codeL E L14_0.eq_1, hi, hgi, hr, wi, fileB, nilS, purse_eq, List.range_succ, D, hJn, rr, hr0, hsz, he, lG, lS, ixA, fF, fB, fileB, nilS, endE, encEnd, hL, show totB [] = 0 from rfl, show blksB [] = [] from rfl]
      rw [run_inLoop']
      simp [go_sem, purse_eq, List.range_succ]
      exact ih
    · have ha : appE L ([] : List Run) l[i].l = chk l[i].l := by unfold appE; rw [if_pos hc]
      have ih := ih L ([] : List Run) A ff lw lq v.succ
      simp only [ha, hc, ne_eq, not_false_eq_true, if_true] at D
      clear ha
      generalize chk l[i].l = c at *
      simp only [lG, lS, lSJ, flH, ixA, hL, if_true, if_false, Bool.true_eq_false, reduceIte, reduceCtorEq] at D ih ⊢
      generalize l[i].l = r at *
      generalize joined [] (allR L) = J at *
      generalize blksB L = bs at *
      generalize totB L = T at *
      generalize endsGo 0 0 L = es at *
      generalize L.length = nL at *
      simp [lG, lS, ixA, fF, fB, fileB, nilS, endE, encEnd, hL, show totB [] = 0 from rfl, show blksB [] = [] from rfl] at D ih
      simp [go_sem, run_codeL E L14_0.eq_1, hi, hgi, hr, wi, fileB, nilS, purse_eq, List.range_succ, D, hc, lG, lS, ixA, fF, fB, fileB, nilS, endE, encEnd, hL, show totB [] = 0 from rfl, show blksB [] = [] from rfl]
      rw [run_inLoop']
      simp [go_sem, purse_eq, List.range_succ]
      exact ih
set_option maxHeartbeats 4000000 in
theorem back1_A1 (ff lw lq : Bool) (W : List Run) (hW : W ≠ []) (l : List RowV) (nl fu : Bool) (nm fm : Bool) (mo : List RowV) (hl4 : l.length ≤ 40) (hfew : ∀ r ∈ l, fewR r.l = true) (hfit : ∀ r ∈ l, r.Fit) (i : Nat) (hi : i < l.length) (A : List Run) (v : BInv i ([] : List Bk) W A) (k : List Item) (Q : Option (AVal × Heap))
    (ih : ∀ L' W' A' ff lw lq, BInv (i + 1) L' W' A' → finK 0 [.tmp 4] (run E 0 (.code L14_0 :: .inLoop [1000000, 0, 1, 5, 6, 7, 8] L14_0 :: .inBlock 0 :: k) [(0, .imm nl fu true (l.map encRow)), (1, .imm nm fm true (mo.map encRow)), (5, .ptr 0 0), (6, .ptr 1 0), (7, .own (ixA L' W') (A').length 3 0 (A').length), (8, .lit (.int .i64 ((i + 1 : Nat) : Int)))] (lG ff lw lq L' W' 100000 ++ [.arr true false (A').isEmpty 3 ((A').map encRun)])) = Q) :
    finK 0 [.tmp 4] (run E 0 (.code L14_0 :: .inLoop [1000000, 0, 1, 5, 6, 7, 8] L14_0 :: .inBlock 0 :: k) [(0, .imm nl fu true (l.map encRow)), (1, .imm nm fm true (mo.map encRow)), (5, .ptr 0 0), (6, .ptr 1 0), (7, .own (ixA ([] : List Bk) W) (A).length 3 0 (A).length), (8, .lit (.int .i64 i))] (lG ff lw lq ([] : List Bk) W 100000 ++ [.arr true false (A).isEmpty 3 ((A).map encRun)])) = Q := by
  have hfo : false = false → ([] : List Bk) = [] := (fun _ => rfl)
  have v1 := v.fi
  have hb := v1.bs
  have hln := v1.ln
  have ht := v1.tot
  have hsW := v1.sum
  have wi := wrapIdx (i := i) (by omega)
  have hg := acc_facts v1.good (by omega)
  have hla := v.la
  have hlL : ([] : List Bk).length ≤ 1000000 := by simp
  have hlW : W.length ≤ 4096 := by omega
  have hgi : (l.map encRow)[i]? = some (encRow l[i]) := by simp [List.getElem?_eq_getElem hi]
  have hmem := List.getElem_mem hi
  have hw := hfew _ hmem
  have hf0 := hfit _ hmem
  have hr : encRow l[i] = [.imm l[i].nl l[i].fu true (l[i].l.map encRun)] := rfl
  generalize l[i].nl = rn at *
  generalize l[i].fu = rf at *
  by_cases he : l[i].l = []
  · rw [he] at hr
    have hc := v1.chkB (by omega) hW
    have hf := v.room (by omega) hW
    have D := gdoesF false false false lq ([] : List Bk) W hfo hW hc v1.jo v1.dr ht hg (by simp [blksB]) 0 100000 (by omega) rn rf
    simp only [hf, if_false] at D
    have ih := ih ([] ++ [(totB [], W)]) [] A false false true (v.flush (by omega) hW)
    have e1 : blksB ([] ++ [(totB [], W)]) = putBk (0, W) := by simp [blksB, totB]
    have e2 : allR ([] ++ [(totB [], W)]) = W := by simp [allR]
    have e3 : endsGo 0 0 ([] ++ [(totB [], W)]) = [((putBk (0, W)).length, sumN W)] := by simp [endsGo, totB]
    have e4 : ¬ (([] : List Bk) ++ [(totB [], W)]) = [] := by simp
    simp only [lG, ixA, if_neg e4, lS, e1, e2, e3, v1.jo] at ih
    simp only [lG, lS, lSJ, flH, ixA, hW, if_true, if_false, Bool.true_eq_false, reduceIte, reduceCtorEq] at D ih ⊢
    generalize putBk (0, W) = pb at *
    generalize sumN W = sw at *
    simp [lG, lS, ixA, fF, fB, fileB, nilS, endE, encEnd, hW, show totB [] = 0 from rfl, show blksB [] = [] from rfl, flH] at D
    simp [lG, lS, ixA, fF, fB, fileB, nilS, endE, encEnd, hW, show totB [] = 0 from rfl, show blksB [] = [] from rfl, e4] at ih
    simp [go_sem, run_codeL E L14_0.eq_1, hi, hgi, hr, wi, fileB, nilS, purse_eq, List.range_succ, D, lG, lS, ixA, fF, fB, fileB, nilS, endE, encEnd, hW, show totB [] = 0 from rfl, show blksB [] = [] from rfl]
    rw [run_inLoop']
    simp [go_sem, purse_eq, List.range_succ]
    exact ih
  · have hl12 : l[i].l.length ≤ 12 := by simp [fewR] at hw; exact hw.1
    have hn : ∀ x ∈ l[i].l, x.N ≤ 1000000 := by simp [fewR] at hw; exact hw.2
    have hok : ∀ x ∈ l[i].l, x.Ok := fun x hx => (hf0.1 x hx).ok
    have D := gdoesA false false false lq ([] : List Bk) W l[i].l he hfo hlL hlW v1.ck ht (by omega) hok 0 100000 rn rf
    by_cases hc : chk l[i].l = 0
    · obtain ⟨v2, ha⟩ := v.app (by omega) hc hl12 hn hf0.1
      have hJn : joined [] (W ++ l[i].l) ≠ [] := joined_ne (fun x hx => ((sum_joined v1.ck hc).2 x hx).1) (by simp [he])
      have ih := ih ([] : List Bk) (joined [] (W ++ l[i].l)) (A ++ l[i].l) false false false v2
      rw [show (A ++ l[i].l).isEmpty = false from by simp [he]] at ih
      simp only [ha, hc, ne_eq, not_true_eq_false, if_false, if_true, hW] at D
      have rr := rowsR l[i].l
      have hrp := List.length_pos_iff.2 he
      have hr0 : ¬ l[i].l.length = 0 := by omega
      have hsz : ¬ (70368744177664 < (A.length + l[i].l.length) * 24) := by omega
      generalize joined [] (W ++ l[i].l) = Z at *
      simp only [lG, lS, lSJ, flH, ixA, hW, hJn, if_true, if_false, Bool.true_eq_false, reduceIte, reduceCtorEq] at D ih  ⊢
      generalize l[i].l = r at *
      generalize sumN W = sw at *
      simp [lG, lS, ixA, fF, fB, fileB, nilS, endE, encEnd, hW, show totB [] = 0 from rfl, show blksB [] = [] from rfl, lSJ, hJn] at D
      simp [lG, lS, ixA, fF, fB, fileB, nilS, endE, encEnd, hW, show totB [] = 0 from rfl, show blksB [] = [] from rfl, hJn, he] at ih
      simp [go_sem, run_codeL E L14_0.eq_1, hi, hgi, hr, wi, fileB, nilS, purse_eq, List.range_succ, D, hJn, rr, hr0, hsz, he, lG, lS, ixA, fF, fB, fileB, nilS, endE, encEnd, hW, show totB [] = 0 from rfl, show blksB [] = [] from rfl]
      rw [run_inLoop']
      simp [go_sem, purse_eq, List.range_succ]
      exact ih
    · have ha : appE ([] : List Bk) W l[i].l = chk l[i].l := by unfold appE; rw [if_pos hc]
      have ih := ih ([] : List Bk) W A false false lq v.succ
      simp only [ha, hc, ne_eq, not_false_eq_true, if_true] at D
      clear ha
      generalize chk l[i].l = c at *
      simp only [lG, lS, lSJ, flH, ixA, hW, if_true, if_false, Bool.true_eq_false, reduceIte, reduceCtorEq] at D ih ⊢
      generalize l[i].l = r at *
      generalize sumN W = sw at *
      simp [lG, lS, ixA, fF, fB, fileB, nilS, endE, encEnd, hW, show totB [] = 0 from rfl, show blksB [] = [] from rfl] at D ih
      simp [go_sem, run_codeL E L14_0.eq_1, hi, hgi, hr, wi, fileB, nilS, purse_eq, List.range_succ, D, hc, lG, lS, ixA, fF, fB, fileB, nilS, endE, encEnd, hW, show totB [] = 0 from rfl, show blksB [] = [] from rfl]
      rw [run_inLoop']
      simp [go_sem, purse_eq, List.range_succ]
      exact ih
set_option maxHeartbeats 4000000 in
theorem back1_B1 (ff lw lq : Bool) (L : List Bk) (hL : L ≠ []) (W : List Run) (hW : W ≠ []) (l : List RowV) (nl fu : Bool) (nm fm : Bool) (mo : List RowV) (hl4 : l.length ≤ 40) (hfew : ∀ r ∈ l, fewR r.l = true) (hfit : ∀ r ∈ l, r.Fit) (i : Nat) (hi : i < l.length) (A : List Run) (v : BInv i L W A) (k : List Item) (Q : Option (AVal × Heap))
    (ih : ∀ L' W' A' ff lw lq, BInv (i + 1) L' W' A' → finK 0 [.tmp 4] (run E 0 (.code L14_0 :: .inLoop [1000000, 0, 1, 5, 6, 7, 8] L14_0 :: .inBlock 0 :: k) [(0, .imm nl fu true (l.map encRow)), (1, .imm nm fm true (mo.map encRow)), (5, .ptr 0 0), (6, .ptr 1 0), (7, .own (ixA L' W') (A').length 3 0 (A').length), (8, .lit (.int .i64 ((i + 1 : Nat) : Int)))] (lG ff lw lq L' W' 100000 ++ [.arr true false (A').isEmpty 3 ((A').map encRun)])) = Q) :
    finK 0 [.tmp 4] (run E 0 (.code L14_0 :: .inLoop [1000000, 0, 1, 5, 6, 7, 8] L14_0 :: .inBlock 0 :: k) [(0, .imm nl fu true (l.map encRow)), (1, .imm nm fm true (mo.map encRow)), (5, .ptr 0 0), (6, .ptr 1 0), (7, .own (ixA L W) (A).length 3 0 (A).length), (8, .lit (.int .i64 i))] (lG ff lw lq L W 100000 ++ [.arr true false (A).isEmpty 3 ((A).map encRun)])) = Q := by
  have hfo : true = false → L = [] := (fun h => nomatch h)
  have v1 := v.fi
  have hb := v1.bs
  have hln := v1.ln
  have ht := v1.tot
  have hsW := v1.sum
  have wi := wrapIdx (i := i) (by omega)
  have hg := acc_facts v1.good (by omega)
  have hla := v.la
  obtain ⟨g1, g2, g3, g4⟩ := hg hL
  have hlL : L.length ≤ 1000000 := by omega
  have hlW : W.length ≤ 4096 := by omega
  have hgi : (l.map encRow)[i]? = some (encRow l[i]) := by simp [List.getElem?_eq_getElem hi]
  have hmem := List.getElem_mem hi
  have hw := hfew _ hmem
  have hf0 := hfit _ hmem
  have hr : encRow l[i] = [.imm l[i].nl l[i].fu true (l[i].l.map encRun)] := rfl
  generalize l[i].nl = rn at *
  generalize l[i].fu = rf at *
  by_cases he : l[i].l = []
  · rw [he] at hr
    have hc := v1.chkB (by omega) hW
    have hf := v.room (by omega) hW
    have D := gdoesF true ff lw lq L W hfo hW hc v1.jo v1.dr ht hg (by omega) (blksB L).length 100000 (by omega) rn rf
    simp only [hf, if_false] at D
    have ih := ih (L ++ [(totB L, W)]) [] A false false true (v.flush (by omega) hW)
    have e1 : blksB (L ++ [(totB L, W)]) = blksB L ++ putBk (totB L, W) := by rw [blksB_append]; simp [blksB]
    have e2 : allR (L ++ [(totB L, W)]) = allR L ++ W := by simp [allR]
    have e3 : endsGo 0 0 (L ++ [(totB L, W)]) = endsGo 0 0 L ++ [((blksB L).length + (putBk (totB L, W)).length, totB L + sumN W)] := by rw [endsGo_append]; simp [endsGo]
    have e4 : ¬ (L ++ [(totB L, W)]) = [] := by simp
    simp only [lG, ixA, if_neg e4, lS, e1, e2, e3, if_true, Bool.true_eq_false, if_false, reduceIte, reduceCtorEq, List.length_append, List.length_cons, List.length_nil, Nat.zero_add] at ih
    simp only [lG, lS, lSJ, flH, ixA, hL, hW, if_true, if_false, Bool.true_eq_false, reduceIte, reduceCtorEq] at D ih ⊢
    generalize joined [] (allR L ++ W) = J2 at *
    generalize putBk (totB L, W) = pb at *
    generalize joined [] (allR L) = J at *
    generalize blksB L = bs at *
    generalize totB L = T at *
    generalize endsGo 0 0 L = es at *
    generalize L.length = nL at *
    simp [lG, lS, ixA, fF, fB, fileB, nilS, endE, encEnd, hL, hW, show totB [] = 0 from rfl, show blksB [] = [] from rfl, flH] at D
    simp [lG, lS, ixA, fF, fB, fileB, nilS, endE, encEnd, hL, hW, show totB [] = 0 from rfl, show blksB [] = [] from rfl, e4] at ih
    simp [go_sem, run_codeL E L14_0.eq_1, hi, hgi, hr, wi, fileB, nilS, purse_eq, List.range_succ, D, lG, lS, ixA, fF, fB, fileB, nilS, endE, encEnd, hL, hW, show totB [] = 0 from rfl, show blksB [] = [] from rfl]
    rw [run_inLoop']
    simp [go_sem, purse_eq, List.range_succ]
    exact ih
  · have hl12 : l[i].l.length ≤ 12 := by simp [fewR] at hw; exact hw.1
    have hn : ∀ x ∈ l[i].l, x.N ≤ 1000000 := by simp [fewR] at hw; exact hw.2
    have hok : ∀ x ∈ l[i].l, x.Ok := fun x hx => (hf0.1 x hx).ok
    have D := gdoesA true ff lw lq L W l[i].l he hfo hlL hlW v1.ck ht (by omega) hok (blksB L).length 100000 rn rf
    by_cases hc : chk l[i].l = 0
    · obtain ⟨v2, ha⟩ := v.app (by omega) hc hl12 hn hf0.1
      have hJn : joined [] (W ++ l[i].l) ≠ [] := joined_ne (fun x hx => ((sum_joined v1.ck hc).2 x hx).1) (by simp [he])
      have ih := ih L (joined [] (W ++ l[i].l)) (A ++ l[i].l) ff lw false v2
      rw [show (A ++ l[i].l).isEmpty = false from by simp [he]] at ih
      simp only [ha, hc, ne_eq, not_true_eq_false, if_false, if_true, hW] at D
      have rr := rowsR l[i].l
      have hrp := List.length_pos_iff.2 he
      have hr0 : ¬ l[i].l.length = 0 := by omega
      have hsz : ¬ (70368744177664 < (A.length + l[i].l.length) * 24) := by omega
      generalize joined [] (W ++ l[i].l) = Z at *
      simp only [lG, lS, lSJ, flH, ixA, hL, hW, hJn, if_true, if_false, Bool.true_eq_false, reduceIte, reduceCtorEq] at D ih  ⊢
      generalize l[i].l = r at *
      generalize joined [] (allR L) = J at *
      generalize blksB L = bs at *
      generalize totB L = T at *
      generalize endsGo 0 0 L = es at *
      generalize L.length = nL at *
      generalize sumN W = sw at *
      simp [lG, lS, ixA, fF, fB, fileB, nilS, endE, encEnd, hL, hW, show totB [] = 0 from rfl, show blksB [] = [] from rfl, lSJ, hJn] at D
      simp [lG, lS, ixA, fF, fB, fileB, nilS, endE, encEnd, hL, hW, show totB [] = 0 from rfl, show blksB [] = [] from rfl, hJn, he] at ih
      simp [go_sem, run_codeL E L14_0.eq_1, hi, hgi, hr, wi, fileB, nilS, purse_eq, List.range_succ, D, hJn, rr, hr0, hsz, he, lG, lS, ixA, fF, fB, fileB, nilS, endE, encEnd, hL, hW, show totB [] = 0 from rfl, show blksB [] = [] from rfl]
      rw [run_inLoop']
      simp [go_sem, purse_eq, List.range_succ]
      exact ih
    · have ha : appE L W l[i].l = chk l[i].l := by unfold appE; rw [if_pos hc]
      have ih := ih L W A ff lw lq v.succ
      simp only [ha, hc, ne_eq, not_false_eq_true, if_true] at D
      clear ha
      generalize chk l[i].l = c at *
      simp only [lG, lS, lSJ, flH, ixA, hL, hW, if_true, if_false, Bool.true_eq_false, reduceIte, reduceCtorEq] at D ih ⊢
      generalize l[i].l = r at *
      generalize joined [] (allR L) = J at *
      generalize blksB L = bs at *
      generalize totB L = T at *
      generalize endsGo 0 0 L = es at *
      generalize L.length = nL at *
      generalize sumN W = sw at *
      simp [lG, lS, ixA, fF, fB, fileB, nilS, endE, encEnd, hL, hW, show totB [] = 0 from rfl, show blksB [] = [] from rfl] at D ih
      simp [go_sem, run_codeL E L14_0.eq_1, hi, hgi, hr, wi, fileB, nilS, purse_eq, List.range_succ, D, hc, lG, lS, ixA, fF, fB, fileB, nilS, endE, encEnd, hL, hW, show totB [] = 0 from rfl, show blksB [] = [] from rfl]
      rw [run_inLoop']
      simp [go_sem, purse_eq, List.range_succ]
      exact ih
end Go.AM.R1
open Go Go.AM
namespace Go.AM.R1
def ix17 (L : List Bk) (W : List Run) : Nat := if L = [] then (if W = [] then 2 else 3) else (if W = [] then 5 else 6)
def ix19 (L : List Bk) (W : List Run) : Nat := if L = [] then (if W = [] then 3 else 4) else (if W = [] then 7 else 8)
/-- Two logs alike, each in its own file. -/
def l2H (ff lw lq ff2 lw2 lq2 : Bool) (L : List Bk) (W : List Run) : Heap :=
  if L = [] then (if W = [] then [.box [.ptr 1 0, nilS, nilS, nilS], fileB nilS 0 100000 false, fileB nilS 0 100000 false, .box [.ptr 2 0, nilS, nilS, nilS]]
    else [.box [.ptr 1 0, nilS, nilS, .own 2 W.length 3 0 W.length], fileB nilS 0 100000 false, .arr true lq false 3 (W.map encRun), fileB nilS 0 100000 false, .box [.ptr 3 0, nilS, nilS, .own 5 W.length 3 0 W.length], .arr true lq2 false 3 (W.map encRun)])
  else (if W = [] then [.box [.ptr 1 0, .own 3 (joined [] (allR L)).length 3 0 (joined [] (allR L)).length, .own 4 L.length 2 0 L.length, nilS], fileB (.own 2 (blksB L).length 1 0 (blksB L).length) (blksB L).length 100000 false, .arr true false ff 1 ((blksB L).map encB), .arr true lw false 3 ((joined [] (allR L)).map encRun), .arr true false false 2 ((endsGo 0 0 L).map encEnd),
      fileB (.own 6 (blksB L).length 1 0 (blksB L).length) (blksB L).length 100000 false, .arr true false ff2 1 ((blksB L).map encB), .box [.ptr 5 0, .own 8 (joined [] (allR L)).length 3 0 (joined [] (allR L)).length, .own 9 L.length 2 0 L.length, nilS], .arr true lw2 false 3 ((joined [] (allR L)).map encRun), .arr true false false 2 ((endsGo 0 0 L).map encEnd)]
    else [.box [.ptr 1 0, .own 3 (joined [] (allR L)).length 3 0 (joined [] (allR L)).length, .own 4 L.length 2 0 L.length, .own 5 W.length 3 0 W.length], fileB (.own 2 (blksB L).length 1 0 (blksB L).length) (blksB L).length 100000 false, .arr true false ff 1 ((blksB L).map encB), .arr true lw false 3 ((joined [] (allR L)).map encRun), .arr true false false 2 ((endsGo 0 0 L).map encEnd), .arr true lq false 3 (W.map encRun),
      fileB (.own 7 (blksB L).length 1 0 (blksB L).length) (blksB L).length 100000 false, .arr true false ff2 1 ((blksB L).map encB), .box [.ptr 6 0, .own 9 (joined [] (allR L)).length 3 0 (joined [] (allR L)).length, .own 10 L.length 2 0 L.length, .own 11 W.length 3 0 W.length], .arr true lw2 false 3 ((joined [] (allR L)).map encRun), .arr true false false 2 ((endsGo 0 0 L).map encEnd), .arr true lq2 false 3 (W.map encRun)])
set_option maxHeartbeats 4000000 in
theorem back2_A0 (ff lw lq ff2 lw2 lq2 : Bool) (l : List RowV) (nm fm : Bool) (i0 : Nat) (hi0 : i0 ≤ 41) (hl4 : l.length ≤ 40) (hfew : ∀ r ∈ l, fewR r.l = true) (hfit : ∀ r ∈ l, r.Fit) (i : Nat) (hi : i < l.length) (A : List Run) (v : BInv (i0 + i) ([] : List Bk) ([] : List Run) A) (k : List Item) (Q : Option (AVal × Heap))
    (ih : ∀ L' W' A' ff lw lq ff2 lw2 lq2, BInv (i0 + (i + 1)) L' W' A' → finK 0 [.tmp 4] (run E 0 (.code L14_1 :: .inLoop [1000000, 1, 5, 6, 17, 19, 26] L14_1 :: .inBlock 2 :: k) [(1, .imm nm fm true (l.map encRow)), (5, .ptr 0 0), (6, .ptr 1 0), (17, .ptr (ix17 L' W') 0), (19, .ptr (ix19 L' W') 0), (26, .lit (.int .i64 ((i + 1 : Nat) : Int)))] (l2H ff lw lq ff2 lw2 lq2 L' W')) = Q) :
    finK 0 [.tmp 4] (run E 0 (.code L14_1 :: .inLoop [1000000, 1, 5, 6, 17, 19, 26] L14_1 :: .inBlock 2 :: k) [(1, .imm nm fm true (l.map encRow)), (5, .ptr 0 0), (6, .ptr 1 0), (17, .ptr (ix17 ([] : List Bk) ([] : List Run)) 0), (19, .ptr (ix19 ([] : List Bk) ([] : List Run)) 0), (26, .lit (.int .i64 i))] (l2H ff lw lq ff2 lw2 lq2 ([] : List Bk) ([] : List Run))) = Q := by
  have hfo : false = false → ([] : List Bk) = [] := (fun _ => rfl)
  have v1 := v.fi
  have hb := v1.bs
  have hln := v1.ln
  have ht := v1.tot
  have hsW := v1.sum
  have wi := wrapIdx (i := i) (by omega)
  have hg := acc_facts v1.good (by omega)
  have hla := v.la
  have hlL : ([] : List Bk).length ≤ 1000000 := by simp
  have hlW : ([] : List Run).length ≤ 4096 := by simp
  have hgi : (l.map encRow)[i]? = some (encRow l[i]) := by simp [List.getElem?_eq_getElem hi]
  have hmem := List.getElem_mem hi
  have hw := hfew _ hmem
  have hf0 := hfit _ hmem
  have hr : encRow l[i] = [.imm l[i].nl l[i].fu true (l[i].l.map encRun)] := rfl
  generalize l[i].nl = rn at *
  generalize l[i].fu = rf at *
  by_cases he : l[i].l = []
  · rw [he] at hr
    have D := gdoes0 false false false lq ([] : List Bk) hfo 0 100000 rn rf
    have D2 := gdoes0 false false false lq2 ([] : List Bk) hfo 0 100000 rn rf
    have ih := ih ([] : List Bk) [] A false false lq false false lq2 (by rw [← Nat.add_assoc]; exact v.succ)
    simp only [l2H, lS, lSJ, flH, ix17, ix19, if_true, if_false, Bool.true_eq_false, reduceIte, reduceCtorEq] at D D2 ih ⊢
    simp [l2H, lS, ix17, ix19, fF, fB, fileB, nilS, endE, encEnd, show totB [] = 0 from rfl, show blksB [] = [] from rfl] at D D2 ih
    simp [go_sem, run_codeL E L14_1.eq_1, hi, hgi, hr, wi, fileB, nilS, purse_eq, List.range_succ, D, D2, l2H, lS, ix17, ix19, fF, fB, fileB, nilS, endE, encEnd, show totB [] = 0 from rfl, show blksB [] = [] from rfl]
    rw [run_inLoop']
    simp [go_sem, purse_eq, List.range_succ]
    exact ih
  · have hl12 : l[i].l.length ≤ 12 := by simp [fewR] at hw; exact hw.1
    have hn : ∀ x ∈ l[i].l, x.N ≤ 1000000 := by simp [fewR] at hw; exact hw.2
    have hok : ∀ x ∈ l[i].l, x.Ok := fun x hx => (hf0.1 x hx).ok
    have D := gdoesA false false false lq ([] : List Bk) ([] : List Run) l[i].l he hfo hlL hlW v1.ck ht (by omega) hok 0 100000 rn rf
    have D2 := gdoesA false false false lq2 ([] : List Bk) ([] : List Run) l[i].l he hfo hlL hlW v1.ck ht (by omega) hok 0 100000 rn rf
    by_cases hc : chk l[i].l = 0
    · obtain ⟨v2, ha⟩ := v.app (by omega) hc hl12 hn hf0.1
      have hJn : joined [] (([] : List Run) ++ l[i].l) ≠ [] := joined_ne (fun x hx => ((sum_joined v1.ck hc).2 x hx).1) (by simp [he])
      have ih := ih ([] : List Bk) (joined [] (([] : List Run) ++ l[i].l)) (A ++ l[i].l) false false false false false false (by rw [← Nat.add_assoc]; exact v2)
      simp only [ha, hc, ne_eq, not_true_eq_false, if_false, if_true] at D D2
      generalize joined [] (([] : List Run) ++ l[i].l) = Z at *
      simp only [l2H, lS, lSJ, flH, ix17, ix19, hJn, if_true, if_false, Bool.true_eq_false, reduceIte, reduceCtorEq] at D D2 ih  ⊢
      generalize l[i].l = r at *
      simp [l2H, lS, ix17, ix19, fF, fB, fileB, nilS, endE, encEnd, show totB [] = 0 from rfl, show blksB [] = [] from rfl, lSJ, hJn] at D D2
      simp [l2H, lS, ix17, ix19, fF, fB, fileB, nilS, endE, encEnd, show totB [] = 0 from rfl, show blksB [] = [] from rfl, hJn, he] at ih
      simp [go_sem, run_codeL E L14_1.eq_1, hi, hgi, hr, wi, fileB, nilS, purse_eq, List.range_succ, D, D2, hJn, he, l2H, lS, ix17, ix19, fF, fB, fileB, nilS, endE, encEnd, show totB [] = 0 from rfl, show blksB [] = [] from rfl]
      rw [run_inLoop']
      simp [go_sem, purse_eq, List.range_succ]
      exact ih
    · have ha : appE ([] : List Bk) ([] : List Run) l[i].l = chk l[i].l := by unfold appE; rw [if_pos hc]
      have ih := ih ([] : List Bk) ([] : List Run) A false false lq false false lq2 (by rw [← Nat.add_assoc]; exact v.succ)
      simp only [ha, hc, ne_eq, not_false_eq_true, if_true] at D D2
      clear ha
      generalize chk l[i].l = c at *
      simp only [l2H, lS, lSJ, flH, ix17, ix19, if_true, if_false, Bool.true_eq_false, reduceIte, reduceCtorEq] at D D2 ih ⊢
      generalize l[i].l = r at *
      simp [l2H, lS, ix17, ix19, fF, fB, fileB, nilS, endE, encEnd, show totB [] = 0 from rfl, show blksB [] = [] from rfl] at D D2 ih
      simp [go_sem, run_codeL E L14_1.eq_1, hi, hgi, hr, wi, fileB, nilS, purse_eq, List.range_succ, D, D2, hc, l2H, lS, ix17, ix19, fF, fB, fileB, nilS, endE, encEnd, show totB [] = 0 from rfl, show blksB [] = [] from rfl]
      rw [run_inLoop']
      simp [go_sem, purse_eq, List.range_succ]
      exact ih
set_option maxHeartbeats 4000000 in
theorem back2_B0 (ff lw lq ff2 lw2 lq2 : Bool) (L : List Bk) (hL : L ≠ []) (l : List RowV) (nm fm : Bool) (i0 : Nat) (hi0 : i0 ≤ 41) (hl4 : l.length ≤ 40) (hfew : ∀ r ∈ l, fewR r.l = true) (hfit : ∀ r ∈ l, r.Fit) (i : Nat) (hi : i < l.length) (A : List Run) (v : BInv (i0 + i) L ([] : List Run) A) (k : List Item) (Q : Option (AVal × Heap))
    (ih : ∀ L' W' A' ff lw lq ff2 lw2 lq2, BInv (i0 + (i + 1)) L' W' A' → finK 0 [.tmp 4] (run E 0 (.code L14_1 :: .inLoop [1000000, 1, 5, 6, 17, 19, 26] L14_1 :: .inBlock 2 :: k) [(1, .imm nm fm true (l.map encRow)), (5, .ptr 0 0), (6, .ptr 1 0), (17, .ptr (ix17 L' W') 0), (19, .ptr (ix19 L' W') 0), (26, .lit (.int .i64 ((i + 1 : Nat) : Int)))] (l2H ff lw lq ff2 lw2 lq2 L' W')) = Q) :
    finK 0 [.tmp 4] (run E 0 (.code L14_1 :: .inLoop [1000000, 1, 5, 6, 17, 19, 26] L14_1 :: .inBlock 2 :: k) [(1, .imm nm fm true (l.map encRow)), (5, .ptr 0 0), (6, .ptr 1 0), (17, .ptr (ix17 L ([] : List Run)) 0), (19, .ptr (ix19 L ([] : List Run)) 0), (26, .lit (.int .i64 i))] (l2H ff lw lq ff2 lw2 lq2 L ([] : List Run))) = Q := by
  have hfo : true = false → L = [] := (fun h => nomatch h)
  have v1 := v.fi
  have hb := v1.bs
  have hln := v1.ln
  have ht := v1.tot
  have hsW := v1.sum
  have wi := wrapIdx (i := i) (by omega)
  have hg := acc_facts v1.good (by omega)
  have hla := v.la
  obtain ⟨g1, g2, g3, g4⟩ := hg hL
  have hlL : L.length ≤ 1000000 := by omega
  have hlW : ([] : List Run).length ≤ 4096 := by simp
  have hgi : (l.map encRow)[i]? = some (encRow l[i]) := by simp [List.getElem?_eq_getElem hi]
  have hmem := List.getElem_mem hi
  have hw := hfew _ hmem
  have hf0 := hfit _ hmem
  have hr : encRow l[i] = [.imm l[i].nl l[i].fu true (l[i].l.map encRun)] := rfl
  generalize l[i].nl = rn at *
  generalize l[i].fu = rf at *
  by_cases he : l[i].l = []
  · rw [he] at hr
    have D := gdoes0 true ff lw lq L hfo (blksB L).length 100000 rn rf
    have D2 := gdoes0 true ff2 lw2 lq2 L hfo (blksB L).length 100000 rn rf
    have ih := ih L [] A ff lw lq ff2 lw2 lq2 (by rw [← Nat.add_assoc]; exact v.succ)
    simp only [l2H, lS, lSJ, flH, ix17, ix19, hL, if_true, if_false, Bool.true_eq_false, reduceIte, reduceCtorEq] at D D2 ih ⊢
    generalize joined [] (allR L) = J at *
    generalize blksB L = bs at *
    generalize totB L = T at *
    generalize endsGo 0 0 L = es at *
    generalize L.length = nL at *
    simp [l2H, lS, ix17, ix19, fF, fB, fileB, nilS, endE, encEnd, hL, show totB [] = 0 from rfl, show blksB [] = [] from rfl] at D D2 ih
    simp [go_sem, run_codeL E L14_1.eq_1, hi, hgi, hr, wi, fileB, nilS, purse_eq, List.range_succ, D, D2, l2H, lS, ix17, ix19, fF, fB, fileB, nilS, endE, encEnd, hL, show totB [] = 0 from rfl, show blksB [] = [] from rfl]
    rw [run_inLoop']
    simp [go_sem, purse_eq, List.range_succ]
    exact ih
  · have hl12 : l[i].l.length ≤ 12 := by simp [fewR] at hw; exact hw.1
    have hn : ∀ x ∈ l[i].l, x.N ≤ 1000000 := by simp [fewR] at hw; exact hw.2
    have hok : ∀ x ∈ l[i].l, x.Ok := fun x hx => (hf0.1 x hx).ok
    have D := gdoesA true ff lw lq L ([] : List Run) l[i].l he hfo hlL hlW v1.ck ht (by omega) hok (blksB L).length 100000 rn rf
    have D2 := gdoesA true ff2 lw2 lq2 L ([] : List Run) l[i].l he hfo hlL hlW v1.ck ht (by omega) hok (blksB L).length 100000 rn rf
    by_cases hc : chk l[i].l = 0
    · obtain ⟨v2, ha⟩ := v.app (by omega) hc hl12 hn hf0.1
      have hJn : joined [] (([] : List Run) ++ l[i].l) ≠ [] := joined_ne (fun x hx => ((sum_joined v1.ck hc).2 x hx).1) (by simp [he])
      have ih := ih L (joined [] (([] : List Run) ++ l[i].l)) (A ++ l[i].l) ff lw false ff2 lw2 false (by rw [← Nat.add_assoc]; exact v2)
      simp only [ha, hc, ne_eq, not_true_eq_false, if_false, if_true] at D D2
      generalize joined [] (([] : List Run) ++ l[i].l) = Z at *
      simp only [l2H, lS, lSJ, flH, ix17, ix19, hL, hJn, if_true, if_false, Bool.true_eq_false, reduceIte, reduceCtorEq] at D D2 ih  ⊢
      generalize l[i].l = r at *
      generalize joined [] (allR L) = J at *
      generalize blksB L = bs at *
      generalize totB L = T at *
      generalize endsGo 0 0 L = es at *
      generalize L.length = nL at *
      simp [l2H, lS, ix17, ix19, fF, fB, fileB, nilS, endE, encEnd, hL, show totB [] = 0 from rfl, show blksB [] = [] from rfl, lSJ, hJn] at D D2
      simp [l2H, lS, ix17, ix19, fF, fB, fileB, nilS, endE, encEnd, hL, show totB [] = 0 from rfl, show blksB [] = [] from rfl, hJn, he] at ih
      simp [go_sem, run_codeL E L14_1.eq_1, hi, hgi, hr, wi, fileB, nilS, purse_eq, List.range_succ, D, D2, hJn, he, l2H, lS, ix17, ix19, fF, fB, fileB, nilS, endE, encEnd, hL, show totB [] = 0 from rfl, show blksB [] = [] from rfl]
      rw [run_inLoop']
      simp [go_sem, purse_eq, List.range_succ]
      exact ih
    · have ha : appE L ([] : List Run) l[i].l = chk l[i].l := by unfold appE; rw [if_pos hc]
      have ih := ih L ([] : List Run) A ff lw lq ff2 lw2 lq2 (by rw [← Nat.add_assoc]; exact v.succ)
      simp only [ha, hc, ne_eq, not_false_eq_true, if_true] at D D2
      clear ha
      generalize chk l[i].l = c at *
      simp only [l2H, lS, lSJ, flH, ix17, ix19, hL, if_true, if_false, Bool.true_eq_false, reduceIte, reduceCtorEq] at D D2 ih ⊢
      generalize l[i].l = r at *
      generalize joined [] (allR L) = J at *
      generalize blksB L = bs at *
      generalize totB L = T at *
      generalize endsGo 0 0 L = es at *
      generalize L.length = nL at *
      simp [l2H, lS, ix17, ix19, fF, fB, fileB, nilS, endE, encEnd, hL, show totB [] = 0 from rfl, show blksB [] = [] from rfl] at D D2 ih
      simp [go_sem, run_codeL E L14_1.eq_1, hi, hgi, hr, wi, fileB, nilS, purse_eq, List.range_succ, D, D2, hc, l2H, lS, ix17, ix19, fF, fB, fileB, nilS, endE, encEnd, hL, show totB [] = 0 from rfl, show blksB [] = [] from rfl]
      rw [run_inLoop']
      simp [go_sem, purse_eq, List.range_succ]
      exact ih
set_option maxHeartbeats 4000000 in
theorem back2_A1 (ff lw lq ff2 lw2 lq2 : Bool) (W : List Run) (hW : W ≠ []) (l : List RowV) (nm fm : Bool) (i0 : Nat) (hi0 : i0 ≤ 41) (hl4 : l.length ≤ 40) (hfew : ∀ r ∈ l, fewR r.l = true) (hfit : ∀ r ∈ l, r.Fit) (i : Nat) (hi : i < l.length) (A : List Run) (v : BInv (i0 + i) ([] : List Bk) W A) (k : List Item) (Q : Option (AVal × Heap))
    (ih : ∀ L' W' A' ff lw lq ff2 lw2 lq2, BInv (i0 + (i + 1)) L' W' A' → finK 0 [.tmp 4] (run E 0 (.code L14_1 :: .inLoop [1000000, 1, 5, 6, 17, 19, 26] L14_1 :: .inBlock 2 :: k) [(1, .imm nm fm true (l.map encRow)), (5, .ptr 0 0), (6, .ptr 1 0), (17, .ptr (ix17 L' W') 0), (19, .ptr (ix19 L' W') 0), (26, .lit (.int .i64 ((i + 1 : Nat) : Int)))] (l2H ff lw lq ff2 lw2 lq2 L' W')) = Q) :
    finK 0 [.tmp 4] (run E 0 (.code L14_1 :: .inLoop [1000000, 1, 5, 6, 17, 19, 26] L14_1 :: .inBlock 2 :: k) [(1, .imm nm fm true (l.map encRow)), (5, .ptr 0 0), (6, .ptr 1 0), (17, .ptr (ix17 ([] : List Bk) W) 0), (19, .ptr (ix19 ([] : List Bk) W) 0), (26, .lit (.int .i64 i))] (l2H ff lw lq ff2 lw2 lq2 ([] : List Bk) W)) = Q := by
  have hfo : false = false → ([] : List Bk) = [] := (fun _ => rfl)
  have v1 := v.fi
  have hb := v1.bs
  have hln := v1.ln
  have ht := v1.tot
  have hsW := v1.sum
  have wi := wrapIdx (i := i) (by omega)
  have hg := acc_facts v1.good (by omega)
  have hla := v.la
  have hlL : ([] : List Bk).length ≤ 1000000 := by simp
  have hlW : W.length ≤ 4096 := by omega
  have hgi : (l.map encRow)[i]? = some (encRow l[i]) := by simp [List.getElem?_eq_getElem hi]
  have hmem := List.getElem_mem hi
  have hw := hfew _ hmem
  have hf0 := hfit _ hmem
  have hr : encRow l[i] = [.imm l[i].nl l[i].fu true (l[i].l.map encRun)] := rfl
  generalize l[i].nl = rn at *
  generalize l[i].fu = rf at *
  by_cases he : l[i].l = []
  · rw [he] at hr
    have hc := v1.chkB (by omega) hW
    have hf := v.room (by omega) hW
    have D := gdoesF false false false lq ([] : List Bk) W hfo hW hc v1.jo v1.dr ht hg (by simp [blksB]) 0 100000 (by omega) rn rf
    have D2 := gdoesF false false false lq2 ([] : List Bk) W hfo hW hc v1.jo v1.dr ht hg (by simp [blksB]) 0 100000 (by omega) rn rf
    simp only [hf, if_false] at D D2
    have ih := ih ([] ++ [(totB [], W)]) [] A false false true false false true (by rw [← Nat.add_assoc]; exact v.flush (by omega) hW)
    have e1 : blksB ([] ++ [(totB [], W)]) = putBk (0, W) := by simp [blksB, totB]
    have e2 : allR ([] ++ [(totB [], W)]) = W := by simp [allR]
    have e3 : endsGo 0 0 ([] ++ [(totB [], W)]) = [((putBk (0, W)).length, sumN W)] := by simp [endsGo, totB]
    have e4 : ¬ (([] : List Bk) ++ [(totB [], W)]) = [] := by simp
    simp only [l2H, ix17, ix19, if_neg e4, e1, e2, e3, v1.jo] at ih
    simp only [l2H, lS, lSJ, flH, ix17, ix19, hW, if_true, if_false, Bool.true_eq_false, reduceIte, reduceCtorEq] at D D2 ih ⊢
    generalize putBk (0, W) = pb at *
    generalize sumN W = sw at *
    simp [l2H, lS, ix17, ix19, fF, fB, fileB, nilS, endE, encEnd, hW, show totB [] = 0 from rfl, show blksB [] = [] from rfl, flH] at D D2
    simp [l2H, lS, ix17, ix19, fF, fB, fileB, nilS, endE, encEnd, hW, show totB [] = 0 from rfl, show blksB [] = [] from rfl, e4] at ih
    simp [go_sem, run_codeL E L14_1.eq_1, hi, hgi, hr, wi, fileB, nilS, purse_eq, List.range_succ, D, D2, l2H, lS, ix17, ix19, fF, fB, fileB, nilS, endE, encEnd, hW, show totB [] = 0 from rfl, show blksB [] = [] from rfl]
    rw [run_inLoop']
    simp [go_sem, purse_eq, List.range_succ]
    exact ih
  · have hl12 : l[i].l.length ≤ 12 := by simp [fewR] at hw; exact hw.1
    have hn : ∀ x ∈ l[i].l, x.N ≤ 1000000 := by simp [fewR] at hw; exact hw.2
    have hok : ∀ x ∈ l[i].l, x.Ok := fun x hx => (hf0.1 x hx).ok
    have D := gdoesA false false false lq ([] : List Bk) W l[i].l he hfo hlL hlW v1.ck ht (by omega) hok 0 100000 rn rf
    have D2 := gdoesA false false false lq2 ([] : List Bk) W l[i].l he hfo hlL hlW v1.ck ht (by omega) hok 0 100000 rn rf
    by_cases hc : chk l[i].l = 0
    · obtain ⟨v2, ha⟩ := v.app (by omega) hc hl12 hn hf0.1
      have hJn : joined [] (W ++ l[i].l) ≠ [] := joined_ne (fun x hx => ((sum_joined v1.ck hc).2 x hx).1) (by simp [he])
      have ih := ih ([] : List Bk) (joined [] (W ++ l[i].l)) (A ++ l[i].l) false false false false false false (by rw [← Nat.add_assoc]; exact v2)
      simp only [ha, hc, ne_eq, not_true_eq_false, if_false, if_true, hW] at D D2
      generalize joined [] (W ++ l[i].l) = Z at *
      simp only [l2H, lS, lSJ, flH, ix17, ix19, hW, hJn, if_true, if_false, Bool.true_eq_false, reduceIte, reduceCtorEq] at D D2 ih  ⊢
      generalize l[i].l = r at *
      generalize sumN W = sw at *
      simp [l2H, lS, ix17, ix19, fF, fB, fileB, nilS, endE, encEnd, hW, show totB [] = 0 from rfl, show blksB [] = [] from rfl, lSJ, hJn] at D D2
      simp [l2H, lS, ix17, ix19, fF, fB, fileB, nilS, endE, encEnd, hW, show totB [] = 0 from rfl, show blksB [] = [] from rfl, hJn, he] at ih
      simp [go_sem, run_codeL E L14_1.eq_1, hi, hgi, hr, wi, fileB, nilS, purse_eq, List.range_succ, D, D2, hJn, he, l2H, lS, ix17, ix19, fF, fB, fileB, nilS, endE, encEnd, hW, show totB [] = 0 from rfl, show blksB [] = [] from rfl]
      rw [run_inLoop']
      simp [go_sem, purse_eq, List.range_succ]
      exact ih
    · have ha : appE ([] : List Bk) W l[i].l = chk l[i].l := by unfold appE; rw [if_pos hc]
      have ih := ih ([] : List Bk) W A false false lq false false lq2 (by rw [← Nat.add_assoc]; exact v.succ)
      simp only [ha, hc, ne_eq, not_false_eq_true, if_true] at D D2
      clear ha
      generalize chk l[i].l = c at *
      simp only [l2H, lS, lSJ, flH, ix17, ix19, hW, if_true, if_false, Bool.true_eq_false, reduceIte, reduceCtorEq] at D D2 ih ⊢
      generalize l[i].l = r at *
      generalize sumN W = sw at *
      simp [l2H, lS, ix17, ix19, fF, fB, fileB, nilS, endE, encEnd, hW, show totB [] = 0 from rfl, show blksB [] = [] from rfl] at D D2 ih
      simp [go_sem, run_codeL E L14_1.eq_1, hi, hgi, hr, wi, fileB, nilS, purse_eq, List.range_succ, D, D2, hc, l2H, lS, ix17, ix19, fF, fB, fileB, nilS, endE, encEnd, hW, show totB [] = 0 from rfl, show blksB [] = [] from rfl]
      rw [run_inLoop']
      simp [go_sem, purse_eq, List.range_succ]
      exact ih
set_option maxHeartbeats 4000000 in
theorem back2_B1 (ff lw lq ff2 lw2 lq2 : Bool) (L : List Bk) (hL : L ≠ []) (W : List Run) (hW : W ≠ []) (l : List RowV) (nm fm : Bool) (i0 : Nat) (hi0 : i0 ≤ 41) (hl4 : l.length ≤ 40) (hfew : ∀ r ∈ l, fewR r.l = true) (hfit : ∀ r ∈ l, r.Fit) (i : Nat) (hi : i < l.length) (A : List Run) (v : BInv (i0 + i) L W A) (k : List Item) (Q : Option (AVal × Heap))
    (ih : ∀ L' W' A' ff lw lq ff2 lw2 lq2, BInv (i0 + (i + 1)) L' W' A' → finK 0 [.tmp 4] (run E 0 (.code L14_1 :: .inLoop [1000000, 1, 5, 6, 17, 19, 26] L14_1 :: .inBlock 2 :: k) [(1, .imm nm fm true (l.map encRow)), (5, .ptr 0 0), (6, .ptr 1 0), (17, .ptr (ix17 L' W') 0), (19, .ptr (ix19 L' W') 0), (26, .lit (.int .i64 ((i + 1 : Nat) : Int)))] (l2H ff lw lq ff2 lw2 lq2 L' W')) = Q) :
    finK 0 [.tmp 4] (run E 0 (.code L14_1 :: .inLoop [1000000, 1, 5, 6, 17, 19, 26] L14_1 :: .inBlock 2 :: k) [(1, .imm nm fm true (l.map encRow)), (5, .ptr 0 0), (6, .ptr 1 0), (17, .ptr (ix17 L W) 0), (19, .ptr (ix19 L W) 0), (26, .lit (.int .i64 i))] (l2H ff lw lq ff2 lw2 lq2 L W)) = Q := by
  have hfo : true = false → L = [] := (fun h => nomatch h)
  have v1 := v.fi
  have hb := v1.bs
  have hln := v1.ln
  have ht := v1.tot
  have hsW := v1.sum
  have wi := wrapIdx (i := i) (by omega)
  have hg := acc_facts v1.good (by omega)
  have hla := v.la
  obtain ⟨g1, g2, g3, g4⟩ := hg hL
  have hlL : L.length ≤ 1000000 := by omega
  have hlW : W.length ≤ 4096 := by omega
  have hgi : (l.map encRow)[i]? = some (encRow l[i]) := by simp [List.getElem?_eq_getElem hi]
  have hmem := List.getElem_mem hi
  have hw := hfew _ hmem
  have hf0 := hfit _ hmem
  have hr : encRow l[i] = [.imm l[i].nl l[i].fu true (l[i].l.map encRun)] := rfl
  generalize l[i].nl = rn at *
  generalize l[i].fu = rf at *
  by_cases he : l[i].l = []
  · rw [he] at hr
    have hc := v1.chkB (by omega) hW
    have hf := v.room (by omega) hW
    have D := gdoesF true ff lw lq L W hfo hW hc v1.jo v1.dr ht hg (by omega) (blksB L).length 100000 (by omega) rn rf
    have D2 := gdoesF true ff2 lw2 lq2 L W hfo hW hc v1.jo v1.dr ht hg (by omega) (blksB L).length 100000 (by omega) rn rf
    simp only [hf, if_false] at D D2
    have ih := ih (L ++ [(totB L, W)]) [] A false false true false false true (by rw [← Nat.add_assoc]; exact v.flush (by omega) hW)
    have e1 : blksB (L ++ [(totB L, W)]) = blksB L ++ putBk (totB L, W) := by rw [blksB_append]; simp [blksB]
    have e2 : allR (L ++ [(totB L, W)]) = allR L ++ W := by simp [allR]
    have e3 : endsGo 0 0 (L ++ [(totB L, W)]) = endsGo 0 0 L ++ [((blksB L).length + (putBk (totB L, W)).length, totB L + sumN W)] := by rw [endsGo_append]; simp [endsGo]
    have e4 : ¬ (L ++ [(totB L, W)]) = [] := by simp
    simp only [l2H, ix17, ix19, if_neg e4, e1, e2, e3, if_true, if_false, reduceIte, List.length_append, List.length_cons, List.length_nil, Nat.zero_add] at ih
    simp only [l2H, lS, lSJ, flH, ix17, ix19, hL, hW, if_true, if_false, Bool.true_eq_false, reduceIte, reduceCtorEq] at D D2 ih ⊢
    generalize joined [] (allR L ++ W) = J2 at *
    generalize putBk (totB L, W) = pb at *
    generalize joined [] (allR L) = J at *
    generalize blksB L = bs at *
    generalize totB L = T at *
    generalize endsGo 0 0 L = es at *
    generalize L.length = nL at *
    simp [l2H, lS, ix17, ix19, fF, fB, fileB, nilS, endE, encEnd, hL, hW, show totB [] = 0 from rfl, show blksB [] = [] from rfl, flH] at D D2
    simp [l2H, lS, ix17, ix19, fF, fB, fileB, nilS, endE, encEnd, hL, hW, show totB [] = 0 from rfl, show blksB [] = [] from rfl, e4] at ih
    simp [go_sem, run_codeL E L14_1.eq_1, hi, hgi, hr, wi, fileB, nilS, purse_eq, List.range_succ, D, D2, l2H, lS, ix17, ix19, fF, fB, fileB, nilS, endE, encEnd, hL, hW, show totB [] = 0 from rfl, show blksB [] = [] from rfl]
    rw [run_inLoop']
    simp [go_sem, purse_eq, List.range_succ]
    exact ih
  · have hl12 : l[i].l.length ≤ 12 := by simp [fewR] at hw; exact hw.1
    have hn : ∀ x ∈ l[i].l, x.N ≤ 1000000 := by simp [fewR] at hw; exact hw.2
    have hok : ∀ x ∈ l[i].l, x.Ok := fun x hx => (hf0.1 x hx).ok
    have D := gdoesA true ff lw lq L W l[i].l he hfo hlL hlW v1.ck ht (by omega) hok (blksB L).length 100000 rn rf
    have D2 := gdoesA true ff2 lw2 lq2 L W l[i].l he hfo hlL hlW v1.ck ht (by omega) hok (blksB L).length 100000 rn rf
    by_cases hc : chk l[i].l = 0
    · obtain ⟨v2, ha⟩ := v.app (by omega) hc hl12 hn hf0.1
      have hJn : joined [] (W ++ l[i].l) ≠ [] := joined_ne (fun x hx => ((sum_joined v1.ck hc).2 x hx).1) (by simp [he])
      have ih := ih L (joined [] (W ++ l[i].l)) (A ++ l[i].l) ff lw false ff2 lw2 false (by rw [← Nat.add_assoc]; exact v2)
      simp only [ha, hc, ne_eq, not_true_eq_false, if_false, if_true, hW] at D D2
      generalize joined [] (W ++ l[i].l) = Z at *
      simp only [l2H, lS, lSJ, flH, ix17, ix19, hL, hW, hJn, if_true, if_false, Bool.true_eq_false, reduceIte, reduceCtorEq] at D D2 ih  ⊢
      generalize l[i].l = r at *
      generalize joined [] (allR L) = J at *
      generalize blksB L = bs at *
      generalize totB L = T at *
      generalize endsGo 0 0 L = es at *
      generalize L.length = nL at *
      generalize sumN W = sw at *
      simp [l2H, lS, ix17, ix19, fF, fB, fileB, nilS, endE, encEnd, hL, hW, show totB [] = 0 from rfl, show blksB [] = [] from rfl, lSJ, hJn] at D D2
      simp [l2H, lS, ix17, ix19, fF, fB, fileB, nilS, endE, encEnd, hL, hW, show totB [] = 0 from rfl, show blksB [] = [] from rfl, hJn, he] at ih
      simp [go_sem, run_codeL E L14_1.eq_1, hi, hgi, hr, wi, fileB, nilS, purse_eq, List.range_succ, D, D2, hJn, he, l2H, lS, ix17, ix19, fF, fB, fileB, nilS, endE, encEnd, hL, hW, show totB [] = 0 from rfl, show blksB [] = [] from rfl]
      rw [run_inLoop']
      simp [go_sem, purse_eq, List.range_succ]
      exact ih
    · have ha : appE L W l[i].l = chk l[i].l := by unfold appE; rw [if_pos hc]
      have ih := ih L W A ff lw lq ff2 lw2 lq2 (by rw [← Nat.add_assoc]; exact v.succ)
      simp only [ha, hc, ne_eq, not_false_eq_true, if_true] at D D2
      clear ha
      generalize chk l[i].l = c at *
      simp only [l2H, lS, lSJ, flH, ix17, ix19, hL, hW, if_true, if_false, Bool.true_eq_false, reduceIte, reduceCtorEq] at D D2 ih ⊢
      generalize l[i].l = r at *
      generalize joined [] (allR L) = J at *
      generalize blksB L = bs at *
      generalize totB L = T at *
      generalize endsGo 0 0 L = es at *
      generalize L.length = nL at *
      generalize sumN W = sw at *
      simp [l2H, lS, ix17, ix19, fF, fB, fileB, nilS, endE, encEnd, hL, hW, show totB [] = 0 from rfl, show blksB [] = [] from rfl] at D D2 ih
      simp [go_sem, run_codeL E L14_1.eq_1, hi, hgi, hr, wi, fileB, nilS, purse_eq, List.range_succ, D, D2, hc, l2H, lS, ix17, ix19, fF, fB, fileB, nilS, endE, encEnd, hL, hW, show totB [] = 0 from rfl, show blksB [] = [] from rfl]
      rw [run_inLoop']
      simp [go_sem, purse_eq, List.range_succ]
      exact ih
end Go.AM.R1
open Go Go.AM
namespace Go.AM.R1
theorem back1_loop (l : List RowV) (nl fu : Bool) (nm fm : Bool) (mo : List RowV) (hl4 : l.length ≤ 40) (hfew : ∀ r ∈ l, fewR r.l = true) (hfit : ∀ r ∈ l, r.Fit) (k : List Item) (Q : Option (AVal × Heap))
    (hk : ∀ τ L W A ff lw lq, BInv l.length L W A → lk 1 τ = .imm nm fm true (mo.map encRow) → lk 5 τ = .ptr 0 0 → lk 6 τ = .ptr 1 0 → lk 7 τ = .own (ixA L W) A.length 3 0 A.length → finK 0 [.tmp 4] (run E 0 k τ (lG ff lw lq L W 100000 ++ [.arr true false A.isEmpty 3 (A.map encRun)])) = Q) :
    ∀ (d i : Nat) (L W A) (ff lw lq : Bool), i + d = l.length → BInv i L W A →
    finK 0 [.tmp 4] (run E 0 (.code L14_0 :: .inLoop [1000000, 0, 1, 5, 6, 7, 8] L14_0 :: .inBlock 0 :: k) [(0, .imm nl fu true (l.map encRow)), (1, .imm nm fm true (mo.map encRow)), (5, .ptr 0 0), (6, .ptr 1 0), (7, .own (ixA L W) (A).length 3 0 (A).length), (8, .lit (.int .i64 i))] (lG ff lw lq L W 100000 ++ [.arr true false (A).isEmpty 3 ((A).map encRun)])) = Q := by
  intro d
  induction d with
  | zero =>
    intro i L W A ff lw lq hi v
    have : i = l.length := by omega
    subst this
    simp [go_sem, run_codeL E L14_0.eq_1]
    exact hk _ L W A ff lw lq v rfl rfl rfl rfl
  | succ d ih =>
    intro i L W A ff lw lq hi v
    have ih2 := fun L' W' A' ff lw lq v2 => ih (i + 1) L' W' A' ff lw lq (by omega) v2
    by_cases hL : L = []
    · subst hL
      by_cases hW : W = []
      · subst hW
        exact back1_A0 ff lw lq l nl fu nm fm mo hl4 hfew hfit i (by omega) A v k Q ih2
      · exact back1_A1 ff lw lq W hW l nl fu nm fm mo hl4 hfew hfit i (by omega) A v k Q ih2
    · by_cases hW : W = []
      · subst hW
        exact back1_B0 ff lw lq L hL l nl fu nm fm mo hl4 hfew hfit i (by omega) A v k Q ih2
      · exact back1_B1 ff lw lq L hL W hW l nl fu nm fm mo hl4 hfew hfit i (by omega) A v k Q ih2
theorem back1_loop0 (l : List RowV) (nl fu : Bool) (nm fm : Bool) (mo : List RowV) (hl4 : l.length ≤ 40) (hfew : ∀ r ∈ l, fewR r.l = true) (hfit : ∀ r ∈ l, r.Fit) (k : List Item) (Q : Option (AVal × Heap))
    (hk : ∀ τ L W A ff lw lq, BInv l.length L W A → lk 1 τ = .imm nm fm true (mo.map encRow) → lk 5 τ = .ptr 0 0 → lk 6 τ = .ptr 1 0 → lk 7 τ = .own (ixA L W) A.length 3 0 A.length → finK 0 [.tmp 4] (run E 0 k τ (lG ff lw lq L W 100000 ++ [.arr true false A.isEmpty 3 (A.map encRun)])) = Q) :
    finK 0 [.tmp 4] (run E 0 (.code L14_0 :: .inLoop [1000000, 0, 1, 5, 6, 7, 8] L14_0 :: .inBlock 0 :: k) [(0, .imm nl fu true (l.map encRow)), (1, .imm nm fm true (mo.map encRow)), (5, .ptr 0 0), (6, .ptr 1 0), (7, .own 2 0 3 0 0), (8, .lit (.int .i64 0))]
      [.box [.ptr 1 0, .imm true true true [], .imm true true true [], .imm true true true []], .box [.imm true true true [], .lit (.int .i64 0), .lit (.int .i64 100000), .lit (.bool false)], .arr true false true 3 []]) = Q := by
  have h := back1_loop l nl fu nm fm mo hl4 hfew hfit k Q hk l.length 0 [] [] [] false false false (by omega) ⟨⟨trivial, rfl, rfl, by simp, by simp, by simp [totB, sumN], by simp [blksB]⟩, by simp [blksB], by simp, by simp [allR], rfl, by simp, rfl, rfl⟩
  simpa [lG, lS, ixA, fileB, nilS] using h
theorem back2_loop (l : List RowV) (nm fm : Bool) (i0 : Nat) (hi0 : i0 ≤ 41) (hl4 : l.length ≤ 40) (hfew : ∀ r ∈ l, fewR r.l = true) (hfit : ∀ r ∈ l, r.Fit) (k : List Item) (Q : Option (AVal × Heap))
    (hk : ∀ τ L W ff lw lq ff2 lw2 lq2, (∃ i A, i ≤ 81 ∧ BInv i L W A) → lk 5 τ = .ptr 0 0 → lk 6 τ = .ptr 1 0 → lk 17 τ = .ptr (ix17 L W) 0 → lk 19 τ = .ptr (ix19 L W) 0 → finK 0 [.tmp 4] (run E 0 k τ (l2H ff lw lq ff2 lw2 lq2 L W)) = Q) :
    ∀ (d i : Nat) (L W A) (ff lw lq ff2 lw2 lq2 : Bool), i + d = l.length → BInv (i0 + i) L W A →
    finK 0 [.tmp 4] (run E 0 (.code L14_1 :: .inLoop [1000000, 1, 5, 6, 17, 19, 26] L14_1 :: .inBlock 2 :: k) [(1, .imm nm fm true (l.map encRow)), (5, .ptr 0 0), (6, .ptr 1 0), (17, .ptr (ix17 L W) 0), (19, .ptr (ix19 L W) 0), (26, .lit (.int .i64 i))] (l2H ff lw lq ff2 lw2 lq2 L W)) = Q := by
  intro d
  induction d with
  | zero =>
    intro i L W A ff lw lq ff2 lw2 lq2 hi v
    have : i = l.length := by omega
    subst this
    simp [go_sem, run_codeL E L14_1.eq_1]
    exact hk _ L W ff lw lq ff2 lw2 lq2 ⟨_, A, by omega, v⟩ rfl rfl rfl rfl
  | succ d ih =>
    intro i L W A ff lw lq ff2 lw2 lq2 hi v
    have ih2 := fun L' W' A' ff lw lq ff2 lw2 lq2 v2 => ih (i + 1) L' W' A' ff lw lq ff2 lw2 lq2 (by omega) v2
    by_cases hL : L = []
    · subst hL
      by_cases hW : W = []
      · subst hW
        exact back2_A0 ff lw lq ff2 lw2 lq2 l nm fm i0 hi0 hl4 hfew hfit i (by omega) A v k Q ih2
      · exact back2_A1 ff lw lq ff2 lw2 lq2 W hW l nm fm i0 hi0 hl4 hfew hfit i (by omega) A v k Q ih2
    · by_cases hW : W = []
      · subst hW
        exact back2_B0 ff lw lq ff2 lw2 lq2 L hL l nm fm i0 hi0 hl4 hfew hfit i (by omega) A v k Q ih2
      · exact back2_B1 ff lw lq ff2 lw2 lq2 L hL W hW l nm fm i0 hi0 hl4 hfew hfit i (by omega) A v k Q ih2
theorem back2_A (l : List RowV) (nm fm : Bool) (i0 : Nat) (hi0 : i0 ≤ 41) (hl4 : l.length ≤ 40) (hfew : ∀ r ∈ l, fewR r.l = true) (hfit : ∀ r ∈ l, r.Fit) (k : List Item) (Q : Option (AVal × Heap))
    (hk : ∀ τ L W ff lw lq ff2 lw2 lq2, (∃ i A, i ≤ 81 ∧ BInv i L W A) → lk 5 τ = .ptr 0 0 → lk 6 τ = .ptr 1 0 → lk 17 τ = .ptr (ix17 L W) 0 → lk 19 τ = .ptr (ix19 L W) 0 → finK 0 [.tmp 4] (run E 0 k τ (l2H ff lw lq ff2 lw2 lq2 L W)) = Q) (A) (v : BInv i0 [] [] A) :
    finK 0 [.tmp 4] (run E 0 (.code L14_1 :: .inLoop [1000000, 1, 5, 6, 17, 19, 26] L14_1 :: .inBlock 2 :: k) [(1, .imm nm fm true (l.map encRow)), (5, .ptr 0 0), (6, .ptr 1 0), (17, .ptr 2 0), (19, .ptr 3 0), (26, .lit (.int .i64 0))]
      [.box [.ptr 1 0, .imm true true true [], .imm true true true [], .imm true true true []], .box [.imm true true true [], .lit (.int .i64 0), .lit (.int .i64 100000), .lit (.bool false)], .box [.imm true true true [], .lit (.int .i64 0), .lit (.int .i64 100000), .lit (.bool false)], .box [.ptr 2 0, .imm true true true [], .imm true true true [], .imm true true true []]]) = Q := by
  have h := back2_loop l nm fm i0 hi0 hl4 hfew hfit k Q hk l.length 0 [] [] A false false false false false false (by omega) v
  simpa [l2H, ix17, ix19, fileB, nilS] using h
theorem back2_B (l : List RowV) (nm fm : Bool) (i0 : Nat) (hi0 : i0 ≤ 41) (hl4 : l.length ≤ 40) (hfew : ∀ r ∈ l, fewR r.l = true) (hfit : ∀ r ∈ l, r.Fit) (k : List Item) (Q : Option (AVal × Heap))
    (hk : ∀ τ L W ff lw lq ff2 lw2 lq2, (∃ i A, i ≤ 81 ∧ BInv i L W A) → lk 5 τ = .ptr 0 0 → lk 6 τ = .ptr 1 0 → lk 17 τ = .ptr (ix17 L W) 0 → lk 19 τ = .ptr (ix19 L W) 0 → finK 0 [.tmp 4] (run E 0 k τ (l2H ff lw lq ff2 lw2 lq2 L W)) = Q) (A L) (hL : L ≠ []) (ff lw lq ff2 lw2 lq2 : Bool) (v : BInv i0 L [] A) :
    finK 0 [.tmp 4] (run E 0 (.code L14_1 :: .inLoop [1000000, 1, 5, 6, 17, 19, 26] L14_1 :: .inBlock 2 :: k) [(1, .imm nm fm true (l.map encRow)), (5, .ptr 0 0), (6, .ptr 1 0), (17, .ptr 5 0), (19, .ptr 7 0), (26, .lit (.int .i64 0))]
      [.box [.ptr 1 0, .own 3 (joined [] (allR L)).length 3 0 (joined [] (allR L)).length, .own 4 L.length 2 0 L.length, .imm true true true []], .box [.own 2 (blksB L).length 1 0 (blksB L).length, .lit (.int .i64 (blksB L).length), .lit (.int .i64 100000), .lit (.bool false)], .arr true false ff 1 ((blksB L).map encB), .arr true lw false 3 ((joined [] (allR L)).map encRun), .arr true false false 2 ((endsGo 0 0 L).map encEnd),
      .box [.own 6 (blksB L).length 1 0 (blksB L).length, .lit (.int .i64 (blksB L).length), .lit (.int .i64 100000), .lit (.bool false)], .arr true false ff2 1 ((blksB L).map encB), .box [.ptr 5 0, .own 8 (joined [] (allR L)).length 3 0 (joined [] (allR L)).length, .own 9 L.length 2 0 L.length, .imm true true true []], .arr true lw2 false 3 ((joined [] (allR L)).map encRun), .arr true false false 2 ((endsGo 0 0 L).map encEnd)]) = Q := by
  have h := back2_loop l nm fm i0 hi0 hl4 hfew hfit k Q hk l.length 0 L [] A ff lw lq ff2 lw2 lq2 (by omega) v
  simpa [l2H, ix17, ix19, hL, fileB, nilS] using h
end Go.AM.R1
open Go Go.AM Go.Proofs
namespace Go.AM.R1
theorem awake17 : call E (.func (.func 53) [] []) [] [] = some (.lit (.bool true), []) :=
  (call_iff E).2 ⟨3000, by kernel_rfl⟩
end Go.AM.R1
open Go Go.AM
namespace Go.AM.R1
set_option maxHeartbeats 8000000 in
theorem logBack_spec (l mo : List RowV) (hfit : ∀ r ∈ l, r.Fit) (hfit2 : ∀ r ∈ mo, r.Fit) (nl fu nm fm : Bool) :
    call E (.func (.func 14) [] []) [.imm nl fu true (l.map encRow), .imm nm fm true (mo.map encRow)] [] = some (.lit (.bool true), []) := by
  rw [call_func E E14]
  have hF := fewA_spec l nl fu
  have hF2 := fewA_spec mo nm fm
  by_cases hf : fewA l = true
  · by_cases hf2 : fewA mo = true
    · rw [hf] at hF
      rw [hf2] at hF2
      have hM := lmade_spec 100000 (by omega)
      have hl4 : l.length ≤ 40 := by simp [fewA] at hf; exact hf.1
      have hfew : ∀ r ∈ l, fewR r.l = true := by simp [fewA] at hf; exact hf.2
      have hm4 : mo.length ≤ 40 := by simp [fewA] at hf2; exact hf2.1
      have hmew : ∀ r ∈ mo, fewR r.l = true := by simp [fewA] at hf2; exact hf2.2
      simp [lN, fileB, nilS] at hM
      simp [go_sem, ir14, hF, hF2, hM, purse_eq, List.range_succ]
      rw [run_inLoop']
      simp [go_sem, purse_eq, List.range_succ]
      refine back1_loop0 l nl fu nm fm mo hl4 hfew hfit _ _ ?_
      intro τ L W A ff lw lq v t1 t5 t6 t7
      have v1 := v.fi
      have hb := v1.bs
      have hg := acc_facts v1.good (by omega)
      have hln := v1.ln
      have hla := v.la
      have ht := v1.tot
      have hAN := (chk_right v.ca).1
      have hAok : ∀ x ∈ A, x.Ok := fun x hx => by have := hAN x hx; exact ⟨by omega, by omega⟩
      have hAp := posSum_of_right A (fun x hx => by have := hAN x hx; omega)
      have hAs := (chk_right v.ca).2
      have TA := ticks_spec A (by omega) hAok false A.isEmpty
      rw [ticks_eq, if_pos v.ca, v.ca] at TA
      have JA := join_spec A (by omega) hAok false A.isEmpty
      rw [joinGo_eq A 0 [] (by omega), joined_of_expand v.ex] at JA
      have hsu := v.su
      by_cases hL : L = []
      · subst hL
        by_cases hW : W = []
        · subst hW
          have hA0 : A = [] := by
            cases A with
            | nil => rfl
            | cons x xs =>
              have h1 := hAN x (by simp)
              have h4 := expand_length xs (fun y hy => by have := hAN y (by simp [hy]); omega)
              rw [show sumN (x :: xs) = x.N + sumN xs from rfl, show totB [] = 0 from rfl, show sumN [] = 0 from rfl] at hsu
              omega
          subst hA0
          have hFl := gflush0 false false false lq [] (fun _ => rfl) 0 100000 false
          have hR := gruns false false false lq [] [] (fun _ => rfl) (by simp [allR, joined]) (fun h => absurd rfl h) 0 100000 false
          have hT := gticks false false false false [] [] (fun _ => rfl) (by simp) (by simp) rfl (by simp [totB]) 0 100000 false
          have hS := sureG false false false false [] [] (fun _ => rfl) (by simp) 0 100000 false
          have hB := gblocks false false false false [] [] (fun _ => rfl) (by simp) 0 100000 false
          have hO := nopen 100000
          have hO2 := fopen0 100000
          have Sm := same_spec [] [] (by simp) true true true true
          simp [lG, lS, fN, ixA, fileB, nilS, show totB [] = 0 from rfl, show blksB [] = [] from rfl, show sumN [] = 0 from rfl, show sureOf 0 [] = 0 from rfl] at hFl hR hT hS hB hO hO2 Sm t7 ⊢
          simp [allR, joined, resV, resH, nilS, show sumN [] = 0 from rfl] at TA JA
          simp [go_sem, t1, t5, t6, t7, hFl, hR, hT, hS, hB, hO, hO2, TA, JA, Sm, purse_eq, List.range_succ]
          rw [run_inLoop']
          simp [go_sem, t1, t5, t6, purse_eq, List.range_succ]
          refine back2_A mo nm fm l.length (by omega) hm4 hmew hfit2 _ _ ?_ [] v
          clear τ t1 t5 t6 t7 hFl hR hT hS hB hO hO2 TA JA Sm v v1 hb hg hln hla ht hAN hAok hAp hAs hsu
          intro τ L W ff lw lq ff2 lw2 lq2 hv t5 t6 t17 t19
          obtain ⟨i, A, hi, v⟩ := hv
          have v1 := v.fi
          have hb := v1.bs
          have hg := acc_facts v1.good (by omega)
          have hln := v1.ln
          have ht := v1.tot
          have hlW : W.length ≤ 4096 := by omega
          by_cases hL : L = []
          · subst hL
            have hR := gruns false false false lq [] W (fun _ => rfl) (by simp [allR, joined]) (fun h => absurd rfl h) 0 100000 false
            have hR2 := gruns false false false lq2 [] W (fun _ => rfl) (by simp [allR, joined]) (fun h => absurd rfl h) 0 100000 false
            have hT := gticks false false false lq [] W (fun _ => rfl) (by simp) hlW v1.ck ht 0 100000 false
            have hT2 := gticks false false false lq2 [] W (fun _ => rfl) (by simp) hlW v1.ck ht 0 100000 false
            have hTt := gticks false false true lq [] W (fun _ => rfl) (by simp) hlW v1.ck ht 0 100000 false
            have hTt2 := gticks false false true lq2 [] W (fun _ => rfl) (by simp) hlW v1.ck ht 0 100000 false
            have hB := fbytes false false [] (by simp) 0 100000 false
            have Sm := same_spec [] [] (by simp) true true true true
            have S3 := same13_spec [] [] (by simp) true true true true
            by_cases hW : W = []
            · simp [lS, l2H, ix17, ix19, hW, fF, fileB, nilS, show totB [] = 0 from rfl, show sumN [] = 0 from rfl] at hR hR2 hT hT2 hTt hTt2 hB Sm S3 t17 t19 ⊢
              simp [go_sem, t5, t6, t17, t19, hR, hR2, hT, hT2, hB, Sm, S3, awake17, purse_eq, List.range_succ]
            · simp [lS, l2H, ix17, ix19, hW, fF, fileB, nilS, show totB [] = 0 from rfl, show sumN [] = 0 from rfl] at hR hR2 hT hT2 hTt hTt2 hB Sm S3 t17 t19 ⊢
              simp [go_sem, t5, t6, t17, t19, hR, hR2, hT, hT2, hB, Sm, S3, awake17, purse_eq, List.range_succ]
          · obtain ⟨q1, q2, q3, q4⟩ := hg hL
            have hbn : blksB L ≠ [] := by
              intro q
              have := good_len L 0 v1.good
              rw [q] at this
              have := List.length_pos_iff.2 hL
              simp at *; omega
            have hie : (blksB L).isEmpty = false := by simpa using hbn
            have hR := gruns true ff lw lq L W (fun h => nomatch h) (by omega) (fun _ => q3) (blksB L).length 100000 false
            have hR2 := gruns true ff2 lw2 lq2 L W (fun h => nomatch h) (by omega) (fun _ => q3) (blksB L).length 100000 false
            have hT := gticks true ff true lq L W (fun h => nomatch h) (by omega) hlW v1.ck ht (blksB L).length 100000 false
            have hT2 := gticks true ff2 true lq2 L W (fun h => nomatch h) (by omega) hlW v1.ck ht (blksB L).length 100000 false
            have hB := fbytes true ff (blksB L) (by omega) (blksB L).length 100000 false
            have hB2 := fbytes true ff2 (blksB L) (by omega) (blksB L).length 100000 false
            have Sm := same_spec (joined [] (allR L)) (joined [] (allR L)) (by omega) false false false false
            rw [decide_eq_true rfl] at Sm
            have S3 := same13_spec (blksB L) (blksB L) (by omega) false false false false
            rw [decide_eq_true rfl] at S3
            simp only [lS, l2H, ix17, ix19, hL, if_false, Bool.true_eq_false] at hR hR2 hT hT2 t17 t19 ⊢
            generalize joined [] (allR L) = J at *
            generalize blksB L = bs at *
            generalize totB L = T at *
            generalize endsGo 0 0 L = es at *
            generalize L.length = nL at *
            by_cases hW : W = []
            · simp [hW, hie, fF, fB, fileB, nilS, show sumN [] = 0 from rfl] at hR hR2 hT hT2 hB hB2 t17 t19 ⊢
              simp [go_sem, t5, t6, t17, t19, hR, hR2, hT, hT2, hB, hB2, Sm, S3, awake17, purse_eq, List.range_succ]
            · simp [hW, hie, fF, fB, fileB, nilS] at hR hR2 hT hT2 hB hB2 t17 t19 ⊢
              simp [go_sem, t5, t6, t17, t19, hR, hR2, hT, hT2, hB, hB2, Sm, S3, awake17, purse_eq, List.range_succ]
        · obtain ⟨L1, hL1d⟩ : ∃ L1, L1 = ([] : List Bk) ++ [(totB [], W)] := ⟨_, rfl⟩
          have vL := v.flush (by omega) hW
          rw [← hL1d] at vL
          have hL1 : L1 ≠ [] := by rw [hL1d]; simp
          have hcB := v1.chkB (by omega) hW
          have hrm := v.room (by omega) hW
          have e1 : blksB L1 = putBk (0, W) := by rw [hL1d]; simp [blksB, totB]
          have e2 : allR L1 = W := by rw [hL1d]; simp [allR]
          have e3 : endsGo 0 0 L1 = [((putBk (0, W)).length, sumN W)] := by rw [hL1d]; simp [endsGo, totB]
          have e4 : L1.length = 1 := by rw [hL1d]; simp
          have e5 : joined [] (allR L1) = W := by rw [e2]; exact v1.jo
          have hFl0 := gflush false false false lq [] W (fun _ => rfl) hW hcB v1.jo v1.dr ht hg (by simp [blksB]) 0 100000 (by omega) false
          simp only [hrm, if_false, Bool.false_eq_true] at hFl0
          have hFl : call E (.func (.func 75) [] []) [.ptr 0 0] [.box [.ptr 1 0, nilS, nilS, .own 2 W.length 3 0 W.length], fileB nilS 0 100000 false, .arr true lq false 3 (W.map encRun)] = some (.lit (.int .i64 0), [.box [.ptr 1 0, .own 3 (joined [] (allR L1)).length 3 0 (joined [] (allR L1)).length, .own 4 L1.length 2 0 L1.length, nilS], fileB (.own 5 (blksB L1).length 1 0 (blksB L1).length) (blksB L1).length 100000 false, .arr true true false 3 (W.map encRun), .arr true false false 3 ((joined [] (allR L1)).map encRun), .arr true false false 2 ((endsGo 0 0 L1).map encEnd), .arr true false false 1 ((blksB L1).map encB)]) := by
            rw [e5, e4, e1, e3]
            simpa [lS, flH, hW, encEnd] using hFl0
          rw [show ([] : List Bk) = [] from rfl] at JA
          have e6 : joined [] (allR [] ++ W) = joined [] (allR L1) := by rw [e2]; simp [allR]
          rw [e6] at JA
          clear e1 e2 e3 e4 e6 hFl0 hL1d
          have w1 := vL.fi
          have hb1 := w1.bs
          have hg1 := acc_facts w1.good (by omega)
          obtain ⟨q1, q2, q3, q4⟩ := hg1 hL1
          have ht1 := w1.tot
          have hsu1 := vL.su
          have hbn : blksB L1 ≠ [] := by
            intro q
            have := good_len L1 0 w1.good
            rw [q] at this
            have := List.length_pos_iff.2 hL1
            simp at *; omega
          have hie : (blksB L1).isEmpty = false := by simpa using hbn
          have hA0 : A ≠ [] := by
            intro q
            have h := joined_of_expand vL.ex
            rw [q, List.append_nil] at h
            exact q3 (h.symm.trans rfl)
          have hAe : A.isEmpty = false := by simpa using hA0
          rw [hAe] at TA JA
          have hR := gruns true false false lq L1 [] (fun h => nomatch h) (by omega) (fun _ => q3) (blksB L1).length 100000 false
          have hRq := gruns true true false false L1 [] (fun h => nomatch h) (by omega) (fun _ => q3) (blksB L1).length 100000 false
          have hT := gticks true false true lq L1 [] (fun h => nomatch h) (by omega) (by simp) rfl ht1 (blksB L1).length 100000 false
          have hTq := gticks true true true lq L1 [] (fun h => nomatch h) (by omega) (by simp) rfl ht1 (blksB L1).length 100000 false
          have hS := gsure false true lq L1 [] hL1 (by omega) 100000 false
          have hB := gblocks true true true lq L1 [] (fun h => nomatch h) (by omega) (blksB L1).length 100000 false
          have hO := gopen false (blksB L1) (good_byte L1 0 w1.good) (by omega) (blksB L1).length 100000
          have hOf := gopen false (blksB L1) (good_byte L1 0 w1.good) (by omega) (blksB L1).length 100000
          have hO2 := fopen1 true (blksB L1) (by omega) (blksB L1).length 100000
          have htk : (blksB L1).take (blksB L1).length = blksB L1 := List.take_length
          rw [scanB_put w1.good] at hO hOf
          simp only [] at hO hOf
          rw [htk] at hO hOf
          have Sm := same_spec (joined [] (allR L1)) (joined [] (allR L1)) (by omega) false false false false
          rw [decide_eq_true rfl] at Sm
          rw [hsu1, show sumN ([] : List Run) = 0 from rfl, Int.add_zero] at TA
          simp only [lS, hL1, if_false, Bool.true_eq_false, if_true] at hR hRq hT hTq hS hB hO hOf
          simp [resV, resH, q3] at JA
          simp [lG, lS, ixA, hW, nilS] at t7 ⊢
          simp [hie, fB, fileB, nilS, show sumN [] = 0 from rfl] at hFl hR hRq hT hTq hS hB hO hOf hO2 ⊢
          simp [go_sem, t1, t5, t6, t7, hFl, hR, hRq, hT, hTq, hS, hB, hO, hOf, hO2, TA, JA, Sm, hAe, purse_eq, List.range_succ]
          rw [run_inLoop']
          simp [go_sem, t1, t5, t6, purse_eq, List.range_succ]
          refine back2_B mo nm fm _ ?_ hm4 hmew hfit2 _ _ ?_ A L1 hL1 _ _ false _ _ false vL
          · omega
          clear hR hRq hT hTq hS hB hO hOf hO2 TA JA Sm hFl
          intro τ L W ff lw lq ff2 lw2 lq2 hv t5 t6 t17 t19
          obtain ⟨i, A, hi, v⟩ := hv
          have v1 := v.fi
          have hb := v1.bs
          have hg := acc_facts v1.good (by omega)
          have hln := v1.ln
          have ht := v1.tot
          have hlW : W.length ≤ 4096 := by omega
          by_cases hL : L = []
          · subst hL
            have hR := gruns false false false lq [] W (fun _ => rfl) (by simp [allR, joined]) (fun h => absurd rfl h) 0 100000 false
            have hR2 := gruns false false false lq2 [] W (fun _ => rfl) (by simp [allR, joined]) (fun h => absurd rfl h) 0 100000 false
            have hT := gticks false false false lq [] W (fun _ => rfl) (by simp) hlW v1.ck ht 0 100000 false
            have hT2 := gticks false false false lq2 [] W (fun _ => rfl) (by simp) hlW v1.ck ht 0 100000 false
            have hTt := gticks false false true lq [] W (fun _ => rfl) (by simp) hlW v1.ck ht 0 100000 false
            have hTt2 := gticks false false true lq2 [] W (fun _ => rfl) (by simp) hlW v1.ck ht 0 100000 false
            have hB := fbytes false false [] (by simp) 0 100000 false
            have Sm := same_spec [] [] (by simp) true true true true
            have S3 := same13_spec [] [] (by simp) true true true true
            by_cases hW : W = []
            · simp [lS, l2H, ix17, ix19, hW, fF, fileB, nilS, show totB [] = 0 from rfl, show sumN [] = 0 from rfl] at hR hR2 hT hT2 hTt hTt2 hB Sm S3 t17 t19 ⊢
              simp [go_sem, t5, t6, t17, t19, hR, hR2, hT, hT2, hB, Sm, S3, awake17, purse_eq, List.range_succ]
            · simp [lS, l2H, ix17, ix19, hW, fF, fileB, nilS, show totB [] = 0 from rfl, show sumN [] = 0 from rfl] at hR hR2 hT hT2 hTt hTt2 hB Sm S3 t17 t19 ⊢
              simp [go_sem, t5, t6, t17, t19, hR, hR2, hT, hT2, hB, Sm, S3, awake17, purse_eq, List.range_succ]
          · obtain ⟨q1, q2, q3, q4⟩ := hg hL
            have hbn : blksB L ≠ [] := by
              intro q
              have := good_len L 0 v1.good
              rw [q] at this
              have := List.length_pos_iff.2 hL
              simp at *; omega
            have hie : (blksB L).isEmpty = false := by simpa using hbn
            have hR := gruns true ff lw lq L W (fun h => nomatch h) (by omega) (fun _ => q3) (blksB L).length 100000 false
            have hR2 := gruns true ff2 lw2 lq2 L W (fun h => nomatch h) (by omega) (fun _ => q3) (blksB L).length 100000 false
            have hT := gticks true ff true lq L W (fun h => nomatch h) (by omega) hlW v1.ck ht (blksB L).length 100000 false
            have hT2 := gticks true ff2 true lq2 L W (fun h => nomatch h) (by omega) hlW v1.ck ht (blksB L).length 100000 false
            have hB := fbytes true ff (blksB L) (by omega) (blksB L).length 100000 false
            have hB2 := fbytes true ff2 (blksB L) (by omega) (blksB L).length 100000 false
            have Sm := same_spec (joined [] (allR L)) (joined [] (allR L)) (by omega) false false false false
            rw [decide_eq_true rfl] at Sm
            have S3 := same13_spec (blksB L) (blksB L) (by omega) false false false false
            rw [decide_eq_true rfl] at S3
            simp only [lS, l2H, ix17, ix19, hL, if_false, Bool.true_eq_false] at hR hR2 hT hT2 t17 t19 ⊢
            generalize joined [] (allR L) = J at *
            generalize blksB L = bs at *
            generalize totB L = T at *
            generalize endsGo 0 0 L = es at *
            generalize L.length = nL at *
            by_cases hW : W = []
            · simp [hW, hie, fF, fB, fileB, nilS, show sumN [] = 0 from rfl] at hR hR2 hT hT2 hB hB2 t17 t19 ⊢
              simp [go_sem, t5, t6, t17, t19, hR, hR2, hT, hT2, hB, hB2, Sm, S3, awake17, purse_eq, List.range_succ]
            · simp [hW, hie, fF, fB, fileB, nilS] at hR hR2 hT hT2 hB hB2 t17 t19 ⊢
              simp [go_sem, t5, t6, t17, t19, hR, hR2, hT, hT2, hB, hB2, Sm, S3, awake17, purse_eq, List.range_succ]
      · by_cases hW : W = []
        · subst hW
          have hL1 := hL
          have vL := v
          have hFl := gflush0 true ff lw lq L (fun h => nomatch h) (blksB L).length 100000 false
          simp only [Bool.false_eq_true, if_false, lS, hL, Bool.true_eq_false, if_true] at hFl
          have JA := (show call E _ _ _ = _ from JA)
          rw [List.append_nil] at JA
          have w1 := vL.fi
          have hb1 := w1.bs
          have hg1 := acc_facts w1.good (by omega)
          obtain ⟨q1, q2, q3, q4⟩ := hg1 hL1
          have ht1 := w1.tot
          have hsu1 := vL.su
          have hbn : blksB L ≠ [] := by
            intro q
            have := good_len L 0 w1.good
            rw [q] at this
            have := List.length_pos_iff.2 hL1
            simp at *; omega
          have hie : (blksB L).isEmpty = false := by simpa using hbn
          have hA0 : A ≠ [] := by
            intro q
            have h := joined_of_expand vL.ex
            rw [q, List.append_nil] at h
            exact q3 (h.symm.trans rfl)
          have hAe : A.isEmpty = false := by simpa using hA0
          rw [hAe] at TA JA
          have hR := gruns true ff lw lq L [] (fun h => nomatch h) (by omega) (fun _ => q3) (blksB L).length 100000 false
          have hRq := gruns true true false false L [] (fun h => nomatch h) (by omega) (fun _ => q3) (blksB L).length 100000 false
          have hT := gticks true ff true lq L [] (fun h => nomatch h) (by omega) (by simp) rfl ht1 (blksB L).length 100000 false
          have hTq := gticks true true true lq L [] (fun h => nomatch h) (by omega) (by simp) rfl ht1 (blksB L).length 100000 false
          have hS := gsure ff true lq L [] hL1 (by omega) 100000 false
          have hB := gblocks true true true lq L [] (fun h => nomatch h) (by omega) (blksB L).length 100000 false
          have hO := gopen ff (blksB L) (good_byte L 0 w1.good) (by omega) (blksB L).length 100000
          have hOf := gopen false (blksB L) (good_byte L 0 w1.good) (by omega) (blksB L).length 100000
          have hO2 := fopen1 true (blksB L) (by omega) (blksB L).length 100000
          have htk : (blksB L).take (blksB L).length = blksB L := List.take_length
          rw [scanB_put w1.good] at hO hOf
          simp only [] at hO hOf
          rw [htk] at hO hOf
          have Sm := same_spec (joined [] (allR L)) (joined [] (allR L)) (by omega) false false false false
          rw [decide_eq_true rfl] at Sm
          rw [hsu1, show sumN ([] : List Run) = 0 from rfl, Int.add_zero] at TA
          simp only [lS, hL1, if_false, Bool.true_eq_false, if_true] at hR hRq hT hTq hS hB hO hOf
          simp [resV, resH, q3] at JA
          simp [lG, lS, ixA, hL, nilS] at t7 ⊢
          simp [hie, fB, fileB, nilS, show sumN [] = 0 from rfl] at hFl hR hRq hT hTq hS hB hO hOf hO2 ⊢
          simp [go_sem, t1, t5, t6, t7, hFl, hR, hRq, hT, hTq, hS, hB, hO, hOf, hO2, TA, JA, Sm, hAe, purse_eq, List.range_succ]
          rw [run_inLoop']
          simp [go_sem, t1, t5, t6, purse_eq, List.range_succ]
          refine back2_B mo nm fm _ ?_ hm4 hmew hfit2 _ _ ?_ A L hL1 _ _ false _ _ false vL
          · omega
          clear hR hRq hT hTq hS hB hO hOf hO2 TA JA Sm hFl
          intro τ L W ff lw lq ff2 lw2 lq2 hv t5 t6 t17 t19
          obtain ⟨i, A, hi, v⟩ := hv
          have v1 := v.fi
          have hb := v1.bs
          have hg := acc_facts v1.good (by omega)
          have hln := v1.ln
          have ht := v1.tot
          have hlW : W.length ≤ 4096 := by omega
          by_cases hL : L = []
          · subst hL
            have hR := gruns false false false lq [] W (fun _ => rfl) (by simp [allR, joined]) (fun h => absurd rfl h) 0 100000 false
            have hR2 := gruns false false false lq2 [] W (fun _ => rfl) (by simp [allR, joined]) (fun h => absurd rfl h) 0 100000 false
            have hT := gticks false false false lq [] W (fun _ => rfl) (by simp) hlW v1.ck ht 0 100000 false
            have hT2 := gticks false false false lq2 [] W (fun _ => rfl) (by simp) hlW v1.ck ht 0 100000 false
            have hTt := gticks false false true lq [] W (fun _ => rfl) (by simp) hlW v1.ck ht 0 100000 false
            have hTt2 := gticks false false true lq2 [] W (fun _ => rfl) (by simp) hlW v1.ck ht 0 100000 false
            have hB := fbytes false false [] (by simp) 0 100000 false
            have Sm := same_spec [] [] (by simp) true true true true
            have S3 := same13_spec [] [] (by simp) true true true true
            by_cases hW : W = []
            · simp [lS, l2H, ix17, ix19, hW, fF, fileB, nilS, show totB [] = 0 from rfl, show sumN [] = 0 from rfl] at hR hR2 hT hT2 hTt hTt2 hB Sm S3 t17 t19 ⊢
              simp [go_sem, t5, t6, t17, t19, hR, hR2, hT, hT2, hB, Sm, S3, awake17, purse_eq, List.range_succ]
            · simp [lS, l2H, ix17, ix19, hW, fF, fileB, nilS, show totB [] = 0 from rfl, show sumN [] = 0 from rfl] at hR hR2 hT hT2 hTt hTt2 hB Sm S3 t17 t19 ⊢
              simp [go_sem, t5, t6, t17, t19, hR, hR2, hT, hT2, hB, Sm, S3, awake17, purse_eq, List.range_succ]
          · obtain ⟨q1, q2, q3, q4⟩ := hg hL
            have hbn : blksB L ≠ [] := by
              intro q
              have := good_len L 0 v1.good
              rw [q] at this
              have := List.length_pos_iff.2 hL
              simp at *; omega
            have hie : (blksB L).isEmpty = false := by simpa using hbn
            have hR := gruns true ff lw lq L W (fun h => nomatch h) (by omega) (fun _ => q3) (blksB L).length 100000 false
            have hR2 := gruns true ff2 lw2 lq2 L W (fun h => nomatch h) (by omega) (fun _ => q3) (blksB L).length 100000 false
            have hT := gticks true ff true lq L W (fun h => nomatch h) (by omega) hlW v1.ck ht (blksB L).length 100000 false
            have hT2 := gticks true ff2 true lq2 L W (fun h => nomatch h) (by omega) hlW v1.ck ht (blksB L).length 100000 false
            have hB := fbytes true ff (blksB L) (by omega) (blksB L).length 100000 false
            have hB2 := fbytes true ff2 (blksB L) (by omega) (blksB L).length 100000 false
            have Sm := same_spec (joined [] (allR L)) (joined [] (allR L)) (by omega) false false false false
            rw [decide_eq_true rfl] at Sm
            have S3 := same13_spec (blksB L) (blksB L) (by omega) false false false false
            rw [decide_eq_true rfl] at S3
            simp only [lS, l2H, ix17, ix19, hL, if_false, Bool.true_eq_false] at hR hR2 hT hT2 t17 t19 ⊢
            generalize joined [] (allR L) = J at *
            generalize blksB L = bs at *
            generalize totB L = T at *
            generalize endsGo 0 0 L = es at *
            generalize L.length = nL at *
            by_cases hW : W = []
            · simp [hW, hie, fF, fB, fileB, nilS, show sumN [] = 0 from rfl] at hR hR2 hT hT2 hB hB2 t17 t19 ⊢
              simp [go_sem, t5, t6, t17, t19, hR, hR2, hT, hT2, hB, hB2, Sm, S3, awake17, purse_eq, List.range_succ]
            · simp [hW, hie, fF, fB, fileB, nilS] at hR hR2 hT hT2 hB hB2 t17 t19 ⊢
              simp [go_sem, t5, t6, t17, t19, hR, hR2, hT, hT2, hB, hB2, Sm, S3, awake17, purse_eq, List.range_succ]
        · obtain ⟨L1, hL1d⟩ : ∃ L1, L1 = L ++ [(totB L, W)] := ⟨_, rfl⟩
          have vL := v.flush (by omega) hW
          rw [← hL1d] at vL
          have hL1 : L1 ≠ [] := by rw [hL1d]; simp
          have hcB := v1.chkB (by omega) hW
          have hrm := v.room (by omega) hW
          have e1 : blksB L1 = blksB L ++ putBk (totB L, W) := by rw [hL1d, blksB_append]; simp [blksB]
          have e2 : allR L1 = allR L ++ W := by rw [hL1d]; simp [allR]
          have e3 : endsGo 0 0 L1 = endsGo 0 0 L ++ [((blksB L).length + (putBk (totB L, W)).length, totB L + sumN W)] := by rw [hL1d, endsGo_append]; simp [endsGo]
          have e4 : L1.length = L.length + 1 := by rw [hL1d]; simp
          have hFl0 := gflush true ff lw lq L W (fun h => nomatch h) hW hcB v1.jo v1.dr ht hg (by omega) (blksB L).length 100000 (by omega) false
          simp only [hrm, if_false, Bool.false_eq_true, lS, hL, hW, Bool.true_eq_false, if_false, flH] at hFl0
          have e6 : (endsGo 0 0 L).map encEnd ++ [endE ((blksB L).length + (putBk (totB L, W)).length) (totB L + sumN W)] = (endsGo 0 0 L1).map encEnd := by rw [e3]; simp [encEnd]
          rw [e6, ← e1, ← e2, ← e4] at hFl0
          have hFl := hFl0
          rw [← e2] at JA
          clear e1 e2 e3 e4 e6 hFl0 hL1d
          have w1 := vL.fi
          have hb1 := w1.bs
          have hg1 := acc_facts w1.good (by omega)
          obtain ⟨q1, q2, q3, q4⟩ := hg1 hL1
          have ht1 := w1.tot
          have hsu1 := vL.su
          have hbn : blksB L1 ≠ [] := by
            intro q
            have := good_len L1 0 w1.good
            rw [q] at this
            have := List.length_pos_iff.2 hL1
            simp at *; omega
          have hie : (blksB L1).isEmpty = false := by simpa using hbn
          have hA0 : A ≠ [] := by
            intro q
            have h := joined_of_expand vL.ex
            rw [q, List.append_nil] at h
            exact q3 (h.symm.trans rfl)
          have hAe : A.isEmpty = false := by simpa using hA0
          rw [hAe] at TA JA
          have hR := gruns true false false lq L1 [] (fun h => nomatch h) (by omega) (fun _ => q3) (blksB L1).length 100000 false
          have hRq := gruns true true false false L1 [] (fun h => nomatch h) (by omega) (fun _ => q3) (blksB L1).length 100000 false
          have hT := gticks true false true lq L1 [] (fun h => nomatch h) (by omega) (by simp) rfl ht1 (blksB L1).length 100000 false
          have hTq := gticks true true true lq L1 [] (fun h => nomatch h) (by omega) (by simp) rfl ht1 (blksB L1).length 100000 false
          have hS := gsure false true lq L1 [] hL1 (by omega) 100000 false
          have hB := gblocks true true true lq L1 [] (fun h => nomatch h) (by omega) (blksB L1).length 100000 false
          have hO := gopen false (blksB L1) (good_byte L1 0 w1.good) (by omega) (blksB L1).length 100000
          have hOf := gopen false (blksB L1) (good_byte L1 0 w1.good) (by omega) (blksB L1).length 100000
          have hO2 := fopen1 true (blksB L1) (by omega) (blksB L1).length 100000
          have htk : (blksB L1).take (blksB L1).length = blksB L1 := List.take_length
          rw [scanB_put w1.good] at hO hOf
          simp only [] at hO hOf
          rw [htk] at hO hOf
          have Sm := same_spec (joined [] (allR L1)) (joined [] (allR L1)) (by omega) false false false false
          rw [decide_eq_true rfl] at Sm
          rw [hsu1, show sumN ([] : List Run) = 0 from rfl, Int.add_zero] at TA
          simp only [lS, hL1, if_false, Bool.true_eq_false, if_true] at hR hRq hT hTq hS hB hO hOf
          simp [resV, resH, q3] at JA
          simp [lG, lS, ixA, hL, hW, nilS] at t7 ⊢
          simp [hie, fB, fileB, nilS, show sumN [] = 0 from rfl] at hFl hR hRq hT hTq hS hB hO hOf hO2 ⊢
          simp [go_sem, t1, t5, t6, t7, hFl, hR, hRq, hT, hTq, hS, hB, hO, hOf, hO2, TA, JA, Sm, hAe, purse_eq, List.range_succ]
          rw [run_inLoop']
          simp [go_sem, t1, t5, t6, purse_eq, List.range_succ]
          refine back2_B mo nm fm _ ?_ hm4 hmew hfit2 _ _ ?_ A L1 hL1 _ _ false _ _ false vL
          · omega
          clear hR hRq hT hTq hS hB hO hOf hO2 TA JA Sm hFl
          intro τ L W ff lw lq ff2 lw2 lq2 hv t5 t6 t17 t19
          obtain ⟨i, A, hi, v⟩ := hv
          have v1 := v.fi
          have hb := v1.bs
          have hg := acc_facts v1.good (by omega)
          have hln := v1.ln
          have ht := v1.tot
          have hlW : W.length ≤ 4096 := by omega
          by_cases hL : L = []
          · subst hL
            have hR := gruns false false false lq [] W (fun _ => rfl) (by simp [allR, joined]) (fun h => absurd rfl h) 0 100000 false
            have hR2 := gruns false false false lq2 [] W (fun _ => rfl) (by simp [allR, joined]) (fun h => absurd rfl h) 0 100000 false
            have hT := gticks false false false lq [] W (fun _ => rfl) (by simp) hlW v1.ck ht 0 100000 false
            have hT2 := gticks false false false lq2 [] W (fun _ => rfl) (by simp) hlW v1.ck ht 0 100000 false
            have hTt := gticks false false true lq [] W (fun _ => rfl) (by simp) hlW v1.ck ht 0 100000 false
            have hTt2 := gticks false false true lq2 [] W (fun _ => rfl) (by simp) hlW v1.ck ht 0 100000 false
            have hB := fbytes false false [] (by simp) 0 100000 false
            have Sm := same_spec [] [] (by simp) true true true true
            have S3 := same13_spec [] [] (by simp) true true true true
            by_cases hW : W = []
            · simp [lS, l2H, ix17, ix19, hW, fF, fileB, nilS, show totB [] = 0 from rfl, show sumN [] = 0 from rfl] at hR hR2 hT hT2 hTt hTt2 hB Sm S3 t17 t19 ⊢
              simp [go_sem, t5, t6, t17, t19, hR, hR2, hT, hT2, hB, Sm, S3, awake17, purse_eq, List.range_succ]
            · simp [lS, l2H, ix17, ix19, hW, fF, fileB, nilS, show totB [] = 0 from rfl, show sumN [] = 0 from rfl] at hR hR2 hT hT2 hTt hTt2 hB Sm S3 t17 t19 ⊢
              simp [go_sem, t5, t6, t17, t19, hR, hR2, hT, hT2, hB, Sm, S3, awake17, purse_eq, List.range_succ]
          · obtain ⟨q1, q2, q3, q4⟩ := hg hL
            have hbn : blksB L ≠ [] := by
              intro q
              have := good_len L 0 v1.good
              rw [q] at this
              have := List.length_pos_iff.2 hL
              simp at *; omega
            have hie : (blksB L).isEmpty = false := by simpa using hbn
            have hR := gruns true ff lw lq L W (fun h => nomatch h) (by omega) (fun _ => q3) (blksB L).length 100000 false
            have hR2 := gruns true ff2 lw2 lq2 L W (fun h => nomatch h) (by omega) (fun _ => q3) (blksB L).length 100000 false
            have hT := gticks true ff true lq L W (fun h => nomatch h) (by omega) hlW v1.ck ht (blksB L).length 100000 false
            have hT2 := gticks true ff2 true lq2 L W (fun h => nomatch h) (by omega) hlW v1.ck ht (blksB L).length 100000 false
            have hB := fbytes true ff (blksB L) (by omega) (blksB L).length 100000 false
            have hB2 := fbytes true ff2 (blksB L) (by omega) (blksB L).length 100000 false
            have Sm := same_spec (joined [] (allR L)) (joined [] (allR L)) (by omega) false false false false
            rw [decide_eq_true rfl] at Sm
            have S3 := same13_spec (blksB L) (blksB L) (by omega) false false false false
            rw [decide_eq_true rfl] at S3
            simp only [lS, l2H, ix17, ix19, hL, if_false, Bool.true_eq_false] at hR hR2 hT hT2 t17 t19 ⊢
            generalize joined [] (allR L) = J at *
            generalize blksB L = bs at *
            generalize totB L = T at *
            generalize endsGo 0 0 L = es at *
            generalize L.length = nL at *
            by_cases hW : W = []
            · simp [hW, hie, fF, fB, fileB, nilS, show sumN [] = 0 from rfl] at hR hR2 hT hT2 hB hB2 t17 t19 ⊢
              simp [go_sem, t5, t6, t17, t19, hR, hR2, hT, hT2, hB, hB2, Sm, S3, awake17, purse_eq, List.range_succ]
            · simp [hW, hie, fF, fB, fileB, nilS] at hR hR2 hT hT2 hB hB2 t17 t19 ⊢
              simp [go_sem, t5, t6, t17, t19, hR, hR2, hT, hT2, hB, hB2, Sm, S3, awake17, purse_eq, List.range_succ]
    · have hf' : fewA mo = false := by simpa using hf2
      rw [hf] at hF
      rw [hf'] at hF2
      simp [go_sem, ir14, hF, hF2, awake17, purse_eq, List.range_succ]
  · have hf' : fewA l = false := by simpa using hf
    rw [hf'] at hF
    simp [go_sem, ir14, hF, hF2, awake17, purse_eq, List.range_succ]
end Go.AM.R1
open Go Go.AM Go.AM.R1 Go.Proofs
namespace Go.Proofs.Ytppdlldajaihbaa
open Go.ChangeShapes Go.WideShapes Go.ChangeAt Go.RowKit
namespace logBack
theorem own : ownKnob Try.prog.godebug = none := by kernel_rfl
theorem laidOut : laidOutB Try.prog = true := by kernel_rfl
theorem mixed : Try.prog.follows .mixedOrders = true := by kernel_rfl
set_option maxRecDepth 100000 in
theorem contract (H : Type) (enc : TypeId × Value → H) (W : World) (base : Nat) (args : Array Value) (ds gs : List (DataW H)) (before : List MemPlace)
    (hval : ∀ (j : Nat) t v, Try.f14.params[j]? = some t → args[j]? = some v → Value.okWide Try.prog W .any base t v)
    (hW : DataW.Whole enc Try.prog Try.f14.params.toList Rows.logBackSpec.vars false W args.toList ds gs before) :
    Calls Try.prog 14 args W fun e W' => ∃ v, e = .returned v ∧ Rows.logBackSpec.post enc Try.prog Try.f14 false true false false W args v W' := by
  refine law_contract (id := 14) (f := Try.f14) (s := Rows.logBackSpec) (k := 7) (nargs := 2) (base := base) (ds := ds) (gs := gs) (before := before) mixed R1.hE laidOut ?e1 ?e2 (tb := 4) ?e3 Try.underlying4 ?e4 ?e5 ?e7 ?e8 ?e6
  case e7 => exact hval
  case e8 => exact hW
  case e1 => rfl
  case e3 => kernel_rfl
  case e4 => rw [Try.params14]; rfl
  · rw [Try.params14]; decide +kernel
  · intro ds h
    match ds, h with
    | [d1, d2], _ => rfl
  · intro cs hA
    rw [Try.params14] at hA
    obtain ⟨d1, r1, a1, s1, rfl, rfl, h1, hA⟩ := decArgs_cons hA
    obtain ⟨d2, r2, a2, s2, rfl, rfl, h2, hA⟩ := decArgs_cons hA
    obtain ⟨rfl, rfl⟩ := decArgs_nil hA
    obtain ⟨nl, fu, l, rfl, hl, -⟩ := decV_acts (n := 2) Try.underlying128 Try.underlying135 Try.underlying49 ⟨_, _, _, Try.underlying56, Try.underlying3, Try.underlying3, Try.underlying54⟩ h1
    obtain ⟨nm, fm, mo, rfl, hm, -⟩ := decV_acts (n := 2) Try.underlying128 Try.underlying135 Try.underlying49 ⟨_, _, _, Try.underlying56, Try.underlying3, Try.underlying3, Try.underlying54⟩ h2
    obtain ⟨n, hn⟩ := (call_iff R1.E).1 (logBack_spec l mo hl hm nl fu nm fm)
    exact ⟨n, _, hn⟩

set_option maxRecDepth 100000 in
theorem lifted (os : Os) (started : os.Started) (H : Type) (enc : TypeId × Value → H) :
    ReturnsInHanded {} Try.checked os 14 .any (Rows.logBackSpec.pre6 enc Try.prog Try.f14 Rows.logBackRow.domain false) (Rows.logBackSpec.post enc Try.prog Try.f14 false true false false) := by
  refine returnsInHanded_of_change (C := Try.checked) own started (by kernel_rfl) Try.func14
    (ChangeSpec.witness6 (enc := enc) (C := Try.checked) false ⟨#[], #[.slice none 0 0, .slice none 0 0], []⟩ 8 (by kernel_rfl) (by kernel_rfl) (by kernel_rfl) (by kernel_rfl)) ?_
  intro W base args ds gs before hval hW _ _
  exact contract H enc W base args ds gs before hval hW

theorem proved : Rows.LogBackSaid :=
  OpenClaim.holds_of_wide 14 Try.f14 rfl rfl rfl rfl rfl rfl rfl ⟨rfl, rfl, rfl, rfl, rfl⟩ rfl rfl rfl rfl rfl (by kernel_rfl) Try.func14 (by kernel_rfl)
    (of_decide_eq_true (by kernel_rfl)) (by unfold Func.isWrapper; first | (rw [if_pos (by decide +kernel)]; kernel_rfl) | (rw [if_neg (by decide +kernel)]; exact ⟨rfl, rfl⟩))
    (fun os started H enc _ => lifted os started H enc)
end logBack
theorem logBackProved : Rows.LogBackSaid := logBack.proved
end Go.Proofs.Ytppdlldajaihbaa
