/- The law SeekBack of package magnetolaw18 returns true for every input, and its arguments read as before. -/
import Derived.Test.YtppdlldajaihbaaSeekBack1
import Derived.ProofKit
set_option linter.unusedVariables false
set_option linter.unusedSimpArgs false
open Go Go.AM
namespace Go.AM.R1

/-! ### seek.Of -/
abbrev Ent := Int × Nat
def encEnt (e : Ent) : List AVal := [.lit (.int .i64 e.1), .lit (.int .i64 e.2)]
def entGo : Int → Nat → List Bk → List Ent
  | _, _, [] => []
  | t, p, x :: r => (t, p) :: entGo (t + sumN x.2) (p + (putBk x).length) r
theorem entGo_length : ∀ (l : List Bk) (t : Int) (p : Nat), (entGo t p l).length = l.length
  | [], _, _ => rfl
  | x :: l, t, p => by simp only [entGo, List.length_cons, entGo_length l]
/-- An index in the heap. -/
def ixH (nl lb le : Bool) (b : List Nat) (es : List Ent) (t : Int) : Heap :=
  if b = [] then (if nl = true then [.box [nilS, nilS, .lit (.int .i64 0)]] else [.box [.own 1 0 1 0 0, nilS, .lit (.int .i64 0)], .arr true lb true 1 []])
  else [.box [.own 1 b.length 1 0 b.length, .own 2 es.length 2 0 es.length, .lit (.int .i64 t)], .arr true lb false 1 (b.map encB), .arr true le false 2 (es.map encEnt)]

theorem of_loop18 (b : List Nat) (hb : ∀ c ∈ b, c < 256) (hl : b.length ≤ 1000000) (fu : Bool) (l : List Bk) (hl2 : l.length ≤ 1000000) (k : List Item) (R : List Ent × Int → Option (AVal × Heap))
    (hk : ∀ (out : List Ent) (t : Int) τ, out ≠ [] → lk 6 τ = .ptr 2 0 → finK 0 [.tmp 2, .tmp 3] (run E 0 k τ [.arr true false false 2 (l.map encBk), .arr true false false 1 (b.map encB), .box [.own 1 b.length 1 0 b.length, .own 4 out.length 2 0 out.length, .lit (.int .i64 t)], .dead, .arr true false false 2 (out.map encEnt)]) = R (out, t)) :
    ∀ (d i : Nat) (out : List Ent) (t : Int) (p : Nat), i + d = l.length → out ≠ [] → out.length ≤ i → p ≤ b.length → (0 ≤ t ∧ t ≤ 1073741824) → Good t (l.drop i) → b.drop p = blksB (l.drop i) →
   finK 0 [.tmp 2, .tmp 3] (run E 0 (.code L16_0 :: .inLoop [0, 4, 6, 7, 27, 28] L16_0 :: .inBlock 0 :: k)
     [(0, .imm false fu true (b.map encB)), (4, .own 0 l.length 2 0 l.length), (6, .ptr 2 0), (7, .lit (.int .i64 p)), (27, .lit (.int .i64 l.length)), (28, .lit (.int .i64 i))]
     [.arr true false false 2 (l.map encBk), .arr true false false 1 (b.map encB), .box [.own 1 b.length 1 0 b.length, .own 4 out.length 2 0 out.length, .lit (.int .i64 t)], .dead, .arr true false false 2 (out.map encEnt)])
    = R (out ++ entGo t p (l.drop i), t + totB (l.drop i)) := by
  intro d
  induction d with
  | zero =>
    intro i out t p hi ho hol hp ht hg hd
    have : i = l.length := by omega
    subst this
    simp [go_sem, run_codeL E L16_0.eq_1, entGo, totB]
    exact hk out t _ ho rfl
  | succ d ih =>
    intro i out t p hi ho hol hp ht hg hd
    have hlt : i < l.length := by omega
    rw [List.drop_eq_getElem_cons hlt] at hg hd
    rw [List.drop_eq_getElem_cons hlt, entGo, totB]
    obtain ⟨g1, g2, g3, g4⟩ := hg
    have gk := chkB_ok g2
    have hs := (chk_right gk.2.2.2.1).2
    rw [blksB_cons] at hd
    have hlen : p + (putBk l[i]).length + (blksB (l.drop (i + 1))).length = b.length := by
      have := congrArg List.length hd
      simp at this
      omega
    have hS := size_spec (b.drop p) (fun c hc => hb c (List.mem_of_mem_drop hc)) (by simp; omega) false fu
    have hsz : sizeB (b.drop p) = (((putBk l[i]).length : Int), 0) := by
      rw [hd]; exact (size_put (by have := inside_65536 g2; omega) _).2
    rw [hsz, List.map_drop] at hS
    have hT := ticks_spec l[i].2 (by omega) (chkB_Ok g2) false false
    rw [ticks_eq, if_pos gk.2.2.2.1, gk.2.2.2.1] at hT
    have hr := rowsB b
    have ih2 := ih (i + 1) (out ++ [(t, p)]) (t + sumN l[i].2) (p + (putBk l[i]).length) (by omega) (by simp) (by simp; omega) (by omega) (by omega) g4 (by rw [← List.drop_drop, hd, List.drop_left])
    rw [List.append_assoc, List.singleton_append, Int.add_assoc] at ih2
    have wp : IntKind.wrap .i64 ((p : Int) + ((putBk l[i]).length : Int)) = ((p + (putBk l[i]).length : Nat) : Int) := by rw [wrap64 (by omega) (by omega)]; omega
    have wt : IntKind.wrap .i64 (t + sumN l[i].2) = t + sumN l[i].2 := by rw [wrap64 (by omega) (by omega)]
    have wi := wrapIdx (i := i) (by omega)
    generalize R _ = Q at ih2 ⊢
    clear hd hlen hsz g1 g4
    generalize (putBk l[i]).length = m at *
    obtain ⟨o, e, rfl⟩ : ∃ o e, out = o ++ [e] := by rcases snoc_cases out with h | h; exact absurd h ho; exact h
    simp [encEnt] at ih2
    have hbb : ¬ (70368744177664 < (o.length + 1 + 1) * 16) := by simp at hol; omega
    simp [go_sem, run_codeL E L16_0.eq_1, hlt, hp, hr, take_allB, hS, hT, wp, wt, wi, purse_eq, List.getElem?_eq_getElem hlt, encBk, encEnt, hbb]
    rw [run_inLoop']
    simp [go_sem, purse_eq, List.range_succ]
    simpa [Nat.add_assoc] using ih2

theorem sof_spec (b : List Nat) (hb : ∀ c ∈ b, c < 256) (hl : b.length ≤ 1000000) (nl fu : Bool) (hnl : nl = false ∨ b = []) :
    call E (.func (.func 16) [] []) [.imm nl fu true (b.map encB)] []
      = some (if (scanB b).2.1 = b.length then (.tup [.ptr 0 0, .lit (.int .i64 0)], ixH nl false false b (entGo 0 0 (scanB b).1) (totB (scanB b).1)) else (.tup [.lit (.pointer none), .lit (.int .i64 11)], [])) := by
  rw [call_func E E16]
  have hN := scan_spec b hb hl nl fu hnl
  obtain ⟨f1, f2, f3, f4, f5⟩ := scanB_facts hb
  by_cases h : (scanB b).2.1 = b.length
  · rw [if_pos h]
    rw [h] at hN f2 f4
    rw [List.take_length] at f4
    generalize scanB b = g at *
    by_cases hb0 : b = []
    · have hg0 : g.1 = [] := by
        have := good_len g.1 0 f1
        rw [← f4, hb0] at this
        cases hq : g.1 with
        | nil => rfl
        | cons x r => rw [hq] at this; simp at this
      subst hb0
      rw [hg0] at hN ⊢
      simp [bkV, bkH] at hN
      have hC := clone_spec [] fu (by simp)
      simp at hC
      have hC2 : call E (.func (.func 79) [] []) [.imm true fu true []] [] = some (nilS, []) := by
        rw [call_func E E79]
        simp [go_sem, ir79, purse_eq]
      cases nl
      · simp [go_sem, ir16, hN, hC, purse_eq]
        rw [run_inLoop']
        simp [go_sem, purse_eq, List.range_succ, run_codeL E L16_0.eq_1, ixH, entGo, totB]
      · simp [go_sem, ir16, hN, hC2, purse_eq, nilS]
        rw [run_inLoop']
        simp [go_sem, purse_eq, List.range_succ, run_codeL E L16_0.eq_1, ixH, entGo, totB, nilS]
    · have hnl' : nl = false := by rcases hnl with q | q; exact q; exact absurd q hb0
      subst hnl'
      have hg0 : g.1 ≠ [] := by
        intro q
        rw [q] at f4
        exact hb0 f4
      have hlen := good_len g.1 0 f1
      rw [← f4] at hlen
      simp [bkV, bkH, hg0] at hN
      have hC := clone_spec b fu (by omega)
      have hbe : b.isEmpty = false := by cases b with | nil => exact absurd rfl hb0 | cons x xs => rfl
      rw [hbe] at hC
      obtain ⟨l, p, t⟩ := g
      simp only [] at *
      obtain ⟨x, r, rfl⟩ : ∃ x r, l = x :: r := by cases l with | nil => exact absurd rfl hg0 | cons x r => exact ⟨x, r, rfl⟩
      obtain ⟨g1, g2, g3, g4⟩ := f1
      have gk := chkB_ok g2
      have hs := (chk_right gk.2.2.2.1).2
      rw [blksB_cons] at f4
      have hlen2 : (putBk x).length + (blksB r).length = b.length := by rw [f4]; simp
      have hS := size_spec b hb (by omega) false fu
      have hsz : sizeB b = (((putBk x).length : Int), 0) := by rw [f4]; exact (size_put (by have := inside_65536 g2; omega) _).2
      rw [hsz] at hS
      have hT := ticks_spec x.2 (by omega) (chkB_Ok g2) false false
      rw [ticks_eq, if_pos gk.2.2.2.1, gk.2.2.2.1] at hT
      have hr := rowsB b
      have wp : IntKind.wrap .i64 ((putBk x).length : Int) = ((putBk x).length : Int) := by rw [wrap64 (by omega) (by omega)]
      have wt : IntKind.wrap .i64 (sumN x.2) = sumN x.2 := by rw [wrap64 (by omega) (by omega)]
      have w1 : IntKind.wrap .i64 1 = 1 := rfl
      have hd1 : b.drop (putBk x).length = blksB ((x :: r).drop 1) := by rw [List.drop_one, List.tail_cons, f4, List.drop_left]
      have hL := of_loop18 b hb hl fu (x :: r) (by simp at hlen ⊢; omega) [.code (.seq (.reg [⟨none, some 74, .copy (.t 6)⟩, ⟨none, some 2, .copy (.t 74)⟩, ⟨none, some 3, .copy (.c (.lit (.int .i64 0)))⟩] [] []) .ret)] (fun o => some (.tup [.ptr 0 0, .lit (.int .i64 0)], ixH false false false b o.1 o.2)) ?_ r.length 1 [(0, 0)] (sumN x.2) (putBk x).length (by simp; omega) (by simp) (by simp) (by omega) (by omega) (by simpa using g4) hd1
      · simp only [entGo, totB]
        simp [encEnt] at hL
        simp only [Int.zero_add, Nat.zero_add]
        generalize ixH false false false b _ _ = Q at hL ⊢
        clear hlen2 hsz g1 g4 f4 hlen
        generalize (putBk x).length = m at *
        simp [go_sem, ir16, hN, hC, purse_eq]
        rw [run_inLoop']
        simp [go_sem, purse_eq, List.range_succ]
        simp [go_sem, run_codeL E L16_0.eq_1, hr, take_allB, hS, hT, wp, wt, w1, purse_eq, encBk, nilS]
        rw [run_inLoop']
        simp [go_sem, purse_eq, List.range_succ]
        simpa [encBk] using hL
      · intro out t τ ho h6
        simp [go_sem, h6, purse_eq, ixH, hb0, List.range_succ]
  · rw [if_neg h]
    generalize scanB b = g at *
    have h' : ¬ ((g.2.1 : Int) = (b.length : Int)) := by omega
    by_cases hg : g.1 = []
    · simp [bkV, bkH, hg] at hN
      simp [go_sem, ir16, hN, h', h, purse_eq]
    · simp [bkV, bkH, hg] at hN
      simp [go_sem, ir16, hN, h', h, purse_eq]
end Go.AM.R1
open Go Go.AM
namespace Go.AM.R1

/-! ### The document's entries -/
abbrev REnt := Int × Nat × Int × Nat
def encREnt (e : REnt) : List AVal := [.lit (.int .i64 e.1), .lit (.int .i64 e.2.1), .lit (.int .i64 e.2.2.1), .lit (.int .i64 e.2.2.2)]
def rentGo : Int → Nat → List Bk → List REnt
  | _, _, [] => []
  | t, p, x :: r => (t, p, sumN x.2, (putBk x).length) :: rentGo (t + sumN x.2) (p + (putBk x).length) r
theorem rentGo_length : ∀ (l : List Bk) (t : Int) (p : Nat), (rentGo t p l).length = l.length
  | [], _, _ => rfl
  | x :: l, t, p => by simp only [rentGo, List.length_cons, rentGo_length l]
end Go.AM.R1
open Go Go.AM
namespace Go.AM.R1

/-! ### The bytes of an index -/
def idxRow (x : Bk) : List Nat := putN (sumN x.2).toNat ++ putN (putBk x).length
def idxB (l : List Bk) : List Nat := sealB (putN l.length ++ l.flatMap idxRow)
theorem entGo_get : ∀ (l : List Bk) (t : Int) (p i : Nat), i < l.length → (entGo t p l)[i]? = some (t + totB (l.take i), p + (blksB (l.take i)).length)
  | [], _, _, i, h => by simp at h
  | x :: l, t, p, 0, h => by simp [entGo, totB, blksB]
  | x :: l, t, p, i + 1, h => by
    simp only [entGo, List.getElem?_cons_succ, List.take_succ_cons, totB, blksB_cons, List.length_append]
    rw [entGo_get l _ _ i (by simpa using h)]
    simp
    omega
theorem take_succ_tot (l : List Bk) (i : Nat) (h : i < l.length) : totB (l.take (i + 1)) = totB (l.take i) + sumN l[i].2 ∧ (blksB (l.take (i + 1))).length = (blksB (l.take i)).length + (putBk l[i]).length := by
  rw [List.take_succ_eq_append_getElem h, totB_append, blksB_append]
  simp [totB, blksB]
theorem good_get : ∀ (l : List Bk) (t : Int) (i : Nat) (h : i < l.length), Good t l → chkB l[i].1 l[i].2 = 0 ∧ (∀ r ∈ l[i].2, 0 ≤ r.Drive ∧ r.Drive ≤ 4294967295) ∧ l[i].1 = t + totB (l.take i)
  | [], _, i, h, _ => by simp at h
  | x :: l, t, 0, h, g => ⟨g.2.1, g.2.2.1, by simp [g.1, totB]⟩
  | x :: l, t, i + 1, h, g => by
    have := good_get l _ i (by simpa using h) g.2.2.2
    simp only [List.getElem_cons_succ, List.take_succ_cons, totB]
    exact ⟨this.1, this.2.1, by rw [this.2.2]; omega⟩
theorem good_take (l : List Bk) (t : Int) (i : Nat) (h : Good t l) : Good t (l.take i) := by
  have := (good_append (l.take i) (l.drop i) t).1 (by rw [List.take_append_drop]; exact h)
  exact this.1
theorem blks_take_le (l : List Bk) (i : Nat) : (blksB (l.take i)).length ≤ (blksB l).length := by
  conv => rhs; rw [← List.take_append_drop i l]
  rw [blksB_append, List.length_append]; omega
theorem tot_take_le (l : List Bk) (i : Nat) (h : Good 0 l) : 0 ≤ totB (l.take i) ∧ totB (l.take i) ≤ 1073741824 := by
  have := good_tot (l.take i) 0 (by omega) (by omega) (good_take l 0 i h)
  omega
theorem putN_lt256 (n : Nat) : ∀ c ∈ putN n, c < 256 := by
  induction n using Nat.strongRecOn with
  | _ n ih =>
    intro c h
    by_cases hn : 128 ≤ n
    · rw [putN_big hn] at h
      rcases List.mem_cons.1 h with rfl | h
      · omega
      · exact ih (n / 128) (by omega) c h
    · rw [putN_small (by omega)] at h
      simp at h; omega
theorem idxRow_byte (x : Bk) : ∀ c ∈ idxRow x, c < 256 := by
  intro c hc
  rcases List.mem_append.1 hc with h | h
  · exact putN_lt256 _ _ h
  · exact putN_lt256 _ _ h
theorem idxRow_len (x : Bk) (hg : chkB x.1 x.2 = 0) : (idxRow x).length ≤ 20 := by
  have gk := chkB_ok hg
  have hs := (chk_right gk.2.2.2.1).2
  have hlen := putBk_len hg
  have h1 := putN_len64 (n := (sumN x.2).toNat) (by omega)
  have h2 := putN_len64 (n := (putBk x).length) (by omega)
  simp only [idxRow, List.length_append]; omega

theorem sput_loop (b : List Nat) (hl : b.length ≤ 1000000) (l : List Bk) (hg : Good 0 l) (hbl : (blksB l).length = b.length) (lb le : Bool) (k : List Item) (R : List Nat → Option (AVal × Heap))
    (hk : ∀ (out : List Nat) τ H, (∀ c ∈ out, c < 256) → out.length ≤ 20 + 20 * l.length → lk 3 τ = .own 3 out.length 1 0 out.length → finK 3 [.tmp 2] (run E 3 k τ (.box [.own 1 b.length 1 0 b.length, .own 2 l.length 2 0 l.length, .lit (.int .i64 (totB l))] :: .arr true lb false 1 (b.map encB) :: .arr true le false 2 ((entGo 0 0 l).map encEnt) :: .arr true false false 1 (out.map encB) :: H)) = R out) :
    ∀ (d i : Nat) (out : List Nat), i + d = l.length → out ≠ [] → out.length ≤ 20 + 20 * i → (∀ c ∈ out, c < 256) →
   finK 3 [.tmp 2] (run E 3 (.code L19_0 :: .inLoop [0, 3, 19, 20, 21] L19_0 :: .inBlock 0 :: k)
     [(0, .ptr 0 0), (3, .own 3 out.length 1 0 out.length), (19, .own 2 l.length 2 0 l.length), (20, .lit (.int .i64 l.length)), (21, .lit (.int .i64 i))]
     [.box [.own 1 b.length 1 0 b.length, .own 2 l.length 2 0 l.length, .lit (.int .i64 (totB l))], .arr true lb false 1 (b.map encB), .arr true le false 2 ((entGo 0 0 l).map encEnt), .arr true false false 1 (out.map encB)])
    = R (out ++ (l.drop i).flatMap idxRow) := by
  have hln := good_len l 0 hg
  intro d
  induction d with
  | zero =>
    intro i out hi ho hol hob
    have : i = l.length := by omega
    subst this
    simp [go_sem, run_codeL E L19_0.eq_1]
    exact hk out _ _ hob hol rfl
  | succ d ih =>
    intro i out hi ho hol hob
    have hlt : i < l.length := by omega
    rw [List.drop_eq_getElem_cons hlt, List.flatMap_cons]
    obtain ⟨g2, g3, g1⟩ := good_get l 0 i hlt hg
    have gk := chkB_ok g2
    have hs := (chk_right gk.2.2.2.1).2
    have hlen := putBk_len g2
    have hrl := idxRow_len l[i] g2
    obtain ⟨k1, k2⟩ := take_succ_tot l i hlt
    have hT := tot_take_le l i hg
    have hP := blks_take_le l i
    have hT1 := tot_take_le l (i + 1) hg
    have hP1 := blks_take_le l (i + 1)
    have he := entGo_get l 0 0 i hlt
    simp only [Int.zero_add, Nat.zero_add] at he
    have hel := entGo_length l 0 0
    have hi' : i < (entGo 0 0 l).length := by omega
    have hx : (entGo 0 0 l)[i] = (totB (l.take i), (blksB (l.take i)).length) := by simpa [List.getElem?_eq_getElem hi'] using he
    have h0 : (0 : Int) ≤ (i : Int) + 1 := by omega
    have ih2 := ih (i + 1) (out ++ idxRow l[i]) (by omega) (by simp [ho]) (by simp; omega) (by
      intro c hc
      rcases List.mem_append.1 hc with h | h
      · exact hob c h
      · exact idxRow_byte _ c h)
    rw [List.append_assoc] at ih2
    have hV1 := vput_spec (sumN l[i].2).toNat (by omega)
    have hV2 := vput_spec (putBk l[i]).length (by omega)
    have hr1 := rowsB (putN (sumN l[i].2).toNat)
    have hr2 := rowsB (putN (putBk l[i]).length)
    have hrow : idxRow l[i] = putN (sumN l[i].2).toNat ++ putN (putBk l[i]).length := rfl
    rw [hrow] at ih2 ⊢
    have hpl1 := putN_len64 (n := (sumN l[i].2).toNat) (by omega)
    have hpl2 := putN_len64 (n := (putBk l[i]).length) (by omega)
    have hpn1 := putN_pos (sumN l[i].2).toNat
    have hpn2 := putN_pos (putBk l[i]).length
    generalize R _ = Q at ih2 ⊢
    generalize putN (sumN l[i].2).toNat = A at *
    generalize putN (putBk l[i]).length = B at *
    generalize hj : (sumN l[i].2).toNat = j at *
    have hj' : sumN l[i].2 = (j : Int) := by omega
    have ws : IntKind.wrap .i64 (totB (l.take (i + 1)) - totB (l.take i)) = (j : Int) := by rw [wrap64 (by omega) (by omega)]; omega
    have wq : IntKind.wrap .i64 (((blksB (l.take (i + 1))).length : Int) - ((blksB (l.take i)).length : Int)) = ((putBk l[i]).length : Int) := by rw [wrap64 (by omega) (by omega)]; omega
    have wu1 := wrap_u64 (n := j) (by omega)
    have wu2 := wrap_u64 (n := (putBk l[i]).length) (by omega)
    have wi := wrapIdx (i := i) (by omega)
    have hb1 : ¬ (70368744177664 < out.length + A.length) := by omega
    have hb2 : ¬ (70368744177664 < out.length + A.length + B.length) := by omega
    have hb2' : ¬ (70368744177664 < out.length + (A.length + B.length)) := by omega
    by_cases hl1 : i + 1 < l.length
    · have he1 := entGo_get l 0 0 (i + 1) hl1
      simp only [Int.zero_add, Nat.zero_add] at he1
      have hi1' : i + 1 < (entGo 0 0 l).length := by omega
      have hx1 : (entGo 0 0 l)[i + 1] = (totB (l.take (i + 1)), (blksB (l.take (i + 1))).length) := by simpa [List.getElem?_eq_getElem hi1'] using he1
      have hl1' : (i : Int) + 1 < (l.length : Int) := by omega
      generalize totB (l.take (i + 1)) = T1 at *
      generalize totB (l.take i) = T0 at *
      generalize (blksB (l.take (i + 1))).length = P1 at *
      generalize (blksB (l.take i)).length = P0 at *
      generalize (putBk l[i]).length = m at *
      generalize entGo 0 0 l = es at *
      simp [go_sem, run_codeL E L19_0.eq_1, hlt, hx, hx1, h0, hel, hl1, hl1', wi, ws, wq, wu1, wu2, hV1, hV2, hr1, hr2, hb1, hb2, hb2', hpn1, hpn2, purse_eq, encEnt, ho]
      rw [run_inLoop']
      simp [go_sem, purse_eq, List.range_succ]
      simpa [Nat.add_assoc] using ih2
    · have hl1' : ¬ ((i : Int) + 1 < (l.length : Int)) := by omega
      have hend : i + 1 = l.length := by omega
      have ht1 : l.take (i + 1) = l := List.take_of_length_le (by omega)
      rw [ht1] at ws wq
      rw [hbl] at wq
      generalize totB (l.take i) = T0 at *
      generalize (blksB (l.take i)).length = P0 at *
      generalize (putBk l[i]).length = m at *
      generalize entGo 0 0 l = es at *
      generalize totB l = T1 at *
      simp [go_sem, run_codeL E L19_0.eq_1, hlt, hx, h0, hel, hl1, hl1', wi, ws, wq, wu1, wu2, hV1, hV2, hr1, hr2, hb1, hb2, hb2', hpn1, hpn2, purse_eq, encEnt, ho]
      rw [run_inLoop']
      simp [go_sem, purse_eq, List.range_succ]
      simpa [Nat.add_assoc] using ih2
end Go.AM.R1
open Go Go.AM
namespace Go.AM.R1

theorem idxIn_byte (l : List Bk) : ∀ c ∈ putN l.length ++ l.flatMap idxRow, c < 256 := by
  intro c hc
  rcases List.mem_append.1 hc with h | h
  · exact putN_lt256 _ _ h
  · obtain ⟨x, _, h⟩ := List.mem_flatMap.1 h
    exact idxRow_byte x c h
theorem idxIn_len (l : List Bk) (hg : Good 0 l) : l.length < 18446744073709551616 → (putN l.length ++ l.flatMap idxRow).length ≤ 20 + 20 * l.length := by
  intro hl
  have h1 := putN_len64 hl
  have h2 : ∀ (l : List Bk) (t : Int), Good t l → (l.flatMap idxRow).length ≤ 20 * l.length := by
    intro l
    induction l with
    | nil => simp
    | cons x l ih =>
      intro t g
      have := idxRow_len x g.2.1
      have := ih _ g.2.2.2
      simp only [List.flatMap_cons, List.length_append, List.length_cons]; omega
  have := h2 l 0 hg
  rw [List.length_append]; omega
theorem sput_spec (b : List Nat) (hl : b.length ≤ 1000000) (l : List Bk) (hg : Good 0 l) (hbl : blksB l = b) (nl lb le : Bool) :
    call E (.func (.func 19) [] []) [.ptr 0 0] (ixH nl lb le b (entGo 0 0 l) (totB l))
      = some (.own (ixH nl lb le b (entGo 0 0 l) (totB l)).length (idxB l).length 1 0 (idxB l).length, ixH nl lb le b (entGo 0 0 l) (totB l) ++ [.arr true false false 1 ((idxB l).map encB)]) := by
  rw [call_func E E19]
  have hln := good_len l 0 hg
  rw [hbl] at hln
  have hb1 := idxIn_byte l
  have hb2 := idxIn_len l hg (by omega)
  have hS := seal_spec (putN l.length ++ l.flatMap idxRow) hb1 false (by omega)
  rw [show sealB (putN l.length ++ l.flatMap idxRow) = idxB l from rfl] at hS
  have hV := vput_spec l.length (by omega)
  have hpn := putN_pos l.length
  have hp64 := putN_len64 (n := l.length) (by omega)
  by_cases hb0 : b = []
  · subst hb0
    have hl0 : l = [] := by cases l with | nil => rfl | cons x r => simp at hln
    subst hl0
    simp [putN_small (show 0 < 128 by omega), encB] at hV hS
    have w0 : IntKind.wrap .u64 0 = 0 := rfl
    cases nl
    · simp [go_sem, ir19, ixH, hV, hS, w0, purse_eq, nilS]
      rw [run_inLoop']
      simp [go_sem, purse_eq, List.range_succ, run_codeL E L19_0.eq_1, encB, hS]
    · simp [go_sem, ir19, ixH, hV, hS, w0, purse_eq, nilS]
      rw [run_inLoop']
      simp [go_sem, purse_eq, List.range_succ, run_codeL E L19_0.eq_1, encB, hS]
  · have hel := entGo_length l 0 0
    have wu := wrap_u64 (n := l.length) (by omega)
    have hL := sput_loop b hl l hg (by rw [hbl]) lb le [.code (.seq (.reg [⟨none, some 71, .copy (.t 3)⟩, ⟨none, some 72, .call 83 [.t 71]⟩, ⟨none, some 2, .copy (.t 72)⟩] [] []) .ret)]
      (fun out => some (.own 3 (sealB out).length 1 0 (sealB out).length, ixH nl lb le b (entGo 0 0 l) (totB l) ++ [.arr true false false 1 ((sealB out).map encB)])) ?_ l.length 0 (putN l.length) (by omega) hpn (by omega) (fun c hc => putN_lt256 _ _ hc)
    · rw [List.drop_zero, show sealB (putN l.length ++ l.flatMap idxRow) = idxB l from rfl] at hL
      have hlen3 : (ixH nl lb le b (entGo 0 0 l) (totB l)).length = 3 := by simp [ixH, hb0]
      rw [hlen3]
      generalize some (AVal.own 3 (idxB l).length 1 0 (idxB l).length, _) = Q at hL ⊢
      simp [go_sem, ir19, ixH, hb0, hel, hV, wu, purse_eq]
      rw [run_inLoop']
      simp [go_sem, purse_eq, List.range_succ]
      exact hL
    · intro out τ H h1 h2 h3
      have hS2 := seal_spec out h1 false (by omega)
      simp [go_sem, h3, hS2, ixH, hb0, hel, purse_eq, List.range_succ]
end Go.AM.R1
open Go Go.AM
namespace Go.AM.R1

def entV (i : Nat) (es : List Ent) : AVal := if es = [] then nilS else .own i es.length 2 0 es.length
def entH (es : List Ent) : Heap := if es = [] then [] else [.arr true false false 2 (es.map encEnt)]
theorem rows2 (es : List Ent) : rowsOk 2 (es.map encEnt) = true := rowsOk_map (f := encEnt) (fun _ => rfl) es
theorem sents_spec (b : List Nat) (es : List Ent) (hl : es.length ≤ 1000000) (hbe : es = [] ↔ b = []) (t : Int) (nl lb le : Bool) :
    call E (.func (.func 21) [] []) [.ptr 0 0] (ixH nl lb le b es t)
      = some (entV 3 es, ixH nl lb true b es t ++ entH es) := by
  rw [call_func E E21]
  by_cases hb0 : b = []
  · have he := hbe.2 hb0
    subst hb0 he
    have hC : call E (.func (.func 85) [] []) [.imm true true true []] [] = some (nilS, []) := by
      rw [call_func E E85]
      simp [go_sem, ir85, purse_eq]
    cases nl
    · simp [go_sem, ir21, ixH, hC, entV, entH, purse_eq, nilS, List.range_succ]
    · simp [go_sem, ir21, ixH, hC, entV, entH, purse_eq, nilS, List.range_succ]
  · have he : es ≠ [] := fun h => hb0 (hbe.1 h)
    have hC : call E (.func (.func 85) [] []) [.imm false false true (es.map encEnt)] [] = some (.own 0 es.length 2 0 es.length, [.arr true false false 2 (es.map encEnt)]) := by
      rw [call_func E E85]
      have hr := rows2 es
      have hbb : ¬ (70368744177664 < es.length * 16) := by omega
      have hpos := List.length_pos_iff.2 he
      simp [go_sem, ir85, hr, hbb, he, purse_eq]
    simp [go_sem, ir21, ixH, hb0, hC, entV, entH, he, purse_eq, nilS, List.range_succ]
end Go.AM.R1
open Go Go.AM
namespace Go.AM.R1

/-! ### The bytes of a log that is made of rows -/
def madeGo : Int → List (List Run) → List Bk
  | _, [] => []
  | t, r :: s => if r.length ≤ 20 ∧ chk r = 0 ∧ chkB t (joined [] r) = 0 then (t, joined [] r) :: madeGo (t + sumN r) s else madeGo t s
def madeL (rows : List RowV) : List Bk := madeGo 0 ((rows.take 20).map RowV.l)
theorem Run.Fit.ok {r : Run} (h : r.Fit) : r.Ok := ⟨h.1.1, h.1.2⟩
theorem joined_drive {l : List Run} (h : ∀ r ∈ l, 0 ≤ r.Drive ∧ r.Drive ≤ 4294967295) : ∀ r ∈ joined [] l, 0 ≤ r.Drive ∧ r.Drive ≤ 4294967295 :=
  joined_mem l [] (fun r => 0 ≤ r.Drive ∧ r.Drive ≤ 4294967295) (fun r hr _ => h r hr) (fun x r hx _ _ => hx) (by simp)
theorem madeGo_good : ∀ (l : List (List Run)) (t : Int), (∀ r ∈ l, ∀ x ∈ r, x.Fit) → Good t (madeGo t l)
  | [], t, _ => trivial
  | r :: s, t, h => by
    rw [madeGo]
    split
    · rename_i h1
      have hs := joined_chk h1.2.1
      refine ⟨rfl, h1.2.2, joined_drive fun x hx => (h r (by simp) x hx).2.2, ?_⟩
      rw [hs.2.1]
      exact madeGo_good s _ fun r hr => h r (by simp [hr])
    · exact madeGo_good s _ fun r hr => h r (by simp [hr])
theorem madeL_good {rows : List RowV} (h : ∀ r ∈ rows, r.Fit) : Good 0 (madeL rows) := madeGo_good _ 0 (by
  intro r hr
  obtain ⟨v, hv, rfl⟩ := List.mem_map.1 hr
  exact (h v (List.mem_of_mem_take hv)).1)
theorem madeGo_length : ∀ (l : List (List Run)) (t : Int), (madeGo t l).length ≤ l.length
  | [], t => by simp [madeGo]
  | r :: s, t => by
    rw [madeGo]
    split
    · have := madeGo_length s (t + sumN r); simp; omega
    · have := madeGo_length s t; simp; omega
theorem putBk_len20 {x : Bk} (h : chkB x.1 x.2 = 0) (hl : x.2.length ≤ 20) : (putBk x).length ≤ 230 := by
  obtain ⟨h1, h2, h3, h4, h5, h6⟩ := chkB_ok h
  have := bytes_len5 (numsN x.1 x.2) (nums_lt h1 h3 (chk_right h4).1)
  have e : (numsN x.1 x.2).length = 2 * x.2.length + 2 := by simp only [numsN, List.length_cons, runN_length]
  have h7 := whole_len (numsN x.1 x.2)
  have h8 := putN_len64 (n := (bytesN (numsN x.1 x.2)).length) (by omega)
  unfold putBk; omega
theorem madeGo_bytes : ∀ (l : List (List Run)) (t : Int), (blksB (madeGo t l)).length ≤ 230 * l.length
  | [], t => by simp [madeGo, blksB]
  | r :: s, t => by
    rw [madeGo]
    split
    · rename_i h1
      have := madeGo_bytes s (t + sumN r)
      have := putBk_len20 (x := (t, joined [] r)) h1.2.2 (by have := joined_length r []; simp at this; show (joined [] r).length ≤ 20; omega)
      rw [blksB_cons, List.length_append, List.length_cons]; omega
    · have := madeGo_bytes s t; simp; omega
theorem blksB_byte : ∀ (l : List Bk) (t : Int), Good t l → ∀ c ∈ blksB l, c < 256
  | [], _, _ => by simp [blksB]
  | x :: l, t, g => by
    intro c hc
    rw [blksB_cons] at hc
    rcases List.mem_append.1 hc with h | h
    · exact wholeB_byte _ (nums_lt64 g.2.1) (by have := nums_bytes g.2.1; omega) c h
    · exact blksB_byte l _ g.2.2.2 c h

theorem made_loop (rows : List RowV) (hl : rows.length ≤ 9223372036854775807) (hf : ∀ r ∈ rows, r.Fit) (nl fu : Bool) (k : List Item) (R : List Nat → Option (AVal × Heap))
    (hk : ∀ (out : List Nat) τ, lk 3 τ = .own 0 out.length 1 0 out.length → finK 0 [.tmp 2] (run E 0 k τ [.arr true false out.isEmpty 1 (out.map encB)]) = R out) :
    ∀ (d i : Nat) (out : List Nat) (t : Int), i + d = (rows.take 20).length → out.length ≤ 42000 * i → (0 ≤ t ∧ t ≤ 1073741824) →
   finK 0 [.tmp 2] (run E 0 (.code L22_0 :: .inLoop [0, 3, 4, 5] L22_0 :: .inBlock 0 :: k)
     [(0, .imm nl fu true (rows.map encRow)), (3, .own 0 out.length 1 0 out.length), (4, .lit (.int .i64 t)), (5, .lit (.int .i64 i))] [.arr true false out.isEmpty 1 (out.map encB)])
    = R (out ++ blksB (madeGo t (((rows.take 20).drop i).map RowV.l))) := by
  intro d
  induction d with
  | zero =>
    intro i out t hi hol ht
    have hi2 : i = (rows.take 20).length := by omega
    rw [List.drop_eq_nil_of_le (by omega)]
    simp at hi2
    by_cases hlt : i < rows.length
    · have h20 : ¬ (i : Int) < 20 := by omega
      simp [go_sem, run_codeL E L22_0.eq_1, hlt, h20, madeGo, blksB]
      exact hk out _ rfl
    · simp [go_sem, run_codeL E L22_0.eq_1, hlt, madeGo, blksB]
      exact hk out _ rfl
  | succ d ih =>
    intro i out t hi hol ht
    have hlt' : i < (rows.take 20).length := by omega
    rw [List.drop_eq_getElem_cons hlt', List.map_cons, madeGo]
    have hlt : i < rows.length := by simp at hlt'; omega
    have h20 : (i : Int) < 20 := by simp at hlt'; omega
    rw [List.getElem_take]
    have hfi := hf _ (List.getElem_mem hlt)
    have wi := wrapIdx (i := i) (by omega)
    have hT := fun nl fu => ticks_spec rows[i].l hfi.2 (fun r hr => (hfi.1 r hr).ok) nl fu
    rw [ticks_eq] at hT
    have ih0 := ih (i + 1) out t (by omega) (by omega) ht
    by_cases h1 : rows[i].l.length ≤ 20
    · have h1' : ¬ (20 : Int) < (rows[i].l.length : Int) := by omega
      by_cases h2 : chk rows[i].l = 0
      · have hs := joined_chk h2
        have hsu := (chk_right h2).2
        have hR := chk_right h2
        have hp := posSum_of_right rows[i].l (fun r hr => by have := hR.1 r hr; omega)
        have hj := same_joins rows[i].l (by omega) (fun r hr => (hfi.1 r hr).ok) (by omega)
        have hJ := join_spec rows[i].l (by omega) (fun r hr => (hfi.1 r hr).ok) rows[i].nl rows[i].fu
        rw [hj] at hJ
        have hjl := joined_length rows[i].l []
        have hjr := chk_right hs.1
        have hjok : ∀ r ∈ joined [] rows[i].l, r.Ok := fun r hr => by
          have := hjr.1 r hr
          have hb : r.Bus = 0 ∨ r.Bus = 1 := by
            have hc := hs.1
            unfold chk at hc
            split at hc
            · rename_i hall
              have := List.all_eq_true.1 hall r hr
              simp [right] at this
              omega
            · omega
          exact ⟨by omega, by omega⟩
        have hP := fun (nl fu : Bool) (hc : chkB t (joined [] rows[i].l) = 0) => bput_spec t (by omega) (joined [] rows[i].l) (by simp at hjl; omega) hjok nl fu hc
        have hPb := fun (nl fu : Bool) (hc : chkB t (joined [] rows[i].l) ≠ 0) => bput_bad t (by omega) (joined [] rows[i].l) (by simp at hjl; omega) hjok nl fu hc
        rw [h2] at hT
        by_cases h3 : chkB t (joined [] rows[i].l) = 0
        · rw [if_pos ⟨h1, h2, h3⟩, blksB_cons]
          have hne := (chkB_ok h3).2.1
          have h6 := (chkB_ok h3).2.2.2.2.2
          have hP1 := hP false false h3
          rw [show wholeB (numsN t (joined [] rows[i].l)) = putBk (t, joined [] rows[i].l) from rfl] at hP1
          have hlen := putBk_len (x := (t, joined [] rows[i].l)) h3
          have ih1 := ih (i + 1) (out ++ putBk (t, joined [] rows[i].l)) (t + sumN rows[i].l) (by omega) (by simp; omega) (by omega)
          rw [List.append_assoc] at ih1
          have wt : IntKind.wrap .i64 (t + sumN rows[i].l) = t + sumN rows[i].l := by rw [wrap64 (by omega) (by omega)]
          have hr := rowsB (putBk (t, joined [] rows[i].l))
          have hbb : ¬ (70368744177664 < out.length + (putBk (t, joined [] rows[i].l)).length) := by omega
          have hpne : putBk (t, joined [] rows[i].l) ≠ [] := by intro q; rw [q] at hlen; simp at hlen
          generalize R _ = Q at ih1 ⊢
          clear ih0 ih hPb hP
          generalize putBk (t, joined [] rows[i].l) = B at *
          simp [resV, resH, hne] at hJ
          simp [encBlk] at hP1
          rcases snoc_cases out with rfl | ⟨o, x, rfl⟩
          · have hBe : B.isEmpty = false := by cases B with | nil => exact absurd rfl hpne | cons x r => rfl
            have hbb0 : ¬ (70368744177664 < B.length) := by omega
            simp [hBe] at ih1
            simp [go_sem, run_codeL E L22_0.eq_1, hlt, h20, h1', hT, hJ, hP1, wt, wi, hr, purse_eq, encRow, hpne, hBe, hbb0]
            rw [run_inLoop']
            simp [go_sem, purse_eq, List.range_succ]
            simpa [encRow] using ih1
          · have hbb2 : ¬ (70368744177664 < o.length + 1 + B.length) := by simpa using hbb
            simp [isEmpty_snoc] at ih1
            simp [go_sem, run_codeL E L22_0.eq_1, hlt, h20, h1', hT, hJ, hP1, wt, wi, hr, purse_eq, encRow, hpne, hbb2]
            rw [run_inLoop']
            simp [go_sem, purse_eq, List.range_succ]
            simpa [encRow, isEmpty_snoc, Nat.add_assoc, Nat.add_comm 1 B.length] using ih1
        · rw [if_neg (by intro q; exact h3 q.2.2)]
          generalize R _ = Q at ih0 ⊢
          clear ih
          by_cases hne : joined [] rows[i].l = []
          · have hP1 := hPb true true h3
            simp [resV, resH, hne] at hJ
            simp [encBlk, hne] at hP1
            rw [hne] at h3
            simp [go_sem, run_codeL E L22_0.eq_1, hlt, h20, h1', hT, hJ, hP1, h3, wi, purse_eq, encRow, nilS]
            rw [run_inLoop']
            simp [go_sem, purse_eq, List.range_succ]
            simpa [encRow] using ih0
          · have hP1 := hPb false false h3
            simp [resV, resH, hne] at hJ
            simp [encBlk] at hP1
            simp [go_sem, run_codeL E L22_0.eq_1, hlt, h20, h1', hT, hJ, hP1, h3, wi, purse_eq, encRow]
            rw [run_inLoop']
            simp [go_sem, purse_eq, List.range_succ]
            simpa [encRow] using ih0
      · rw [if_neg (by intro q; exact h2 q.2.1)]
        generalize R _ = Q at ih0 ⊢
        clear ih
        simp [go_sem, run_codeL E L22_0.eq_1, hlt, h20, h1', hT, h2, wi, purse_eq, encRow]
        rw [run_inLoop']
        simp [go_sem, purse_eq, List.range_succ]
        simpa [encRow] using ih0
    · rw [if_neg (by intro q; exact h1 q.1)]
      have h1' : (20 : Int) < (rows[i].l.length : Int) := by omega
      generalize R _ = Q at ih0 ⊢
      clear ih
      simp [go_sem, run_codeL E L22_0.eq_1, hlt, h20, h1', hT, wi, purse_eq, encRow]
      rw [run_inLoop']
      simp [go_sem, purse_eq, List.range_succ]
      simpa [encRow] using ih0
def madeB (rows : List RowV) : List Nat := blksB (madeL rows)
theorem made_spec (rows : List RowV) (hl : rows.length ≤ 9223372036854775807) (hf : ∀ r ∈ rows, r.Fit) (nl fu : Bool) :
    call E (.func (.func 22) [] []) [.imm nl fu true (rows.map encRow)] []
      = some (.own 0 (madeB rows).length 1 0 (madeB rows).length, [.arr true false (madeB rows).isEmpty 1 ((madeB rows).map encB)]) := by
  rw [call_func E E22]
  simp [go_sem, ir22, purse_eq]
  rw [run_inLoop']
  simp [go_sem, purse_eq]
  have h := made_loop rows hl hf nl fu [.code (.seq (.reg [⟨none, some 58, .copy (.t 3)⟩, ⟨none, some 2, .copy (.t 58)⟩] [] []) .ret)] (fun out => some (.own 0 out.length 1 0 out.length, [.arr true false out.isEmpty 1 (out.map encB)])) ?_ (rows.take 20).length 0 [] 0 (by omega) (by simp) (by omega)
  · simpa [madeB, madeL] using h
  · intro out τ h
    simp [go_sem, h, purse_eq]
end Go.AM.R1
open Go Go.AM
namespace Go.AM.R1

theorem openE_seal (x : List Nat) : openE (sealB x) = 0 := by
  have hl := sealB_length x
  rw [seal_take _ (by omega), hl]
  show sealB ((x ++ _).take _) = _
  rw [Nat.add_sub_cancel, List.take_left]
theorem open_any (b : List Nat) (hb : ∀ c ∈ b, c < 256) (hl : b.length ≤ 1099511627775) (nl fu : Bool) (hnl : nl = false ∨ b = []) :
    call E (.func (.func 24) [] []) [.imm nl fu true (b.map encB)] []
      = some (if openE b = 0 then (.tup [.own 0 (b.length - 4) 1 0 (b.length - 4), .lit (.int .i64 0)], [.arr true false (b.take (b.length - 4)).isEmpty 1 ((b.take (b.length - 4)).map encB)])
        else (.tup [nilS, .lit (.int .i64 (openE b))], [])) := by
  cases nl with
  | false => exact open_spec b hb hl fu
  | true =>
    have hb0 : b = [] := by rcases hnl with h | h; cases h; exact h
    subst hb0
    rw [call_func E E24]
    have w4 : IntKind.wrap .i64 (-4) = -4 := rfl
    simp [go_sem, ir24, purse_eq, openE, nilS, w4]
theorem idxB_open (l : List Bk) : openE (idxB l) = 0 := openE_seal _
theorem idxB_byte (l : List Bk) : ∀ c ∈ idxB l, c < 256 := by
  intro c hc
  rcases List.mem_append.1 hc with h | h
  · exact idxIn_byte l c h
  · exact tail_byte _ c h
theorem idxB_len (l : List Bk) (hg : Good 0 l) (hl : l.length ≤ 1000000) : (idxB l).length ≤ 24 + 20 * l.length := by
  have := idxIn_len l hg (by omega)
  unfold idxB; rw [sealB_length]; omega
def getX (b whole : List Nat) (nl : Bool) : AVal × Heap :=
  if openE b = 0 then
    if (scanB whole).2.1 = whole.length then
      if idxB (scanB whole).1 = b then (.tup [.ptr 0 0, .lit (.int .i64 0)], ixH nl false false whole (entGo 0 0 (scanB whole).1) (totB (scanB whole).1))
      else (.tup [.lit (.pointer none), .lit (.int .i64 24)], [])
    else (.tup [.lit (.pointer none), .lit (.int .i64 11)], [])
  else (.tup [.lit (.pointer none), .lit (.int .i64 (openE b))], [])
theorem sget_spec (b : List Nat) (hb : ∀ c ∈ b, c < 256) (hl : b.length ≤ 1099511627775) (nlb fub : Bool) (hnlb : nlb = false ∨ b = [])
    (w : List Nat) (hw : ∀ c ∈ w, c < 256) (hlw : w.length ≤ 1000000) (nl fu : Bool) (hnl : nl = false ∨ w = []) :
    call E (.func (.func 23) [] []) [.imm nlb fub true (b.map encB), .imm nl fu true (w.map encB)] [] = some (getX b w nl) := by
  rw [call_func E E23]
  have hO := open_any b hb hl nlb fub hnlb
  have hS := sof_spec w hw hlw nl fu hnl
  obtain ⟨f1, f2, f3, f4, f5⟩ := scanB_facts hw
  unfold getX
  by_cases h1 : openE b = 0
  · rw [if_pos h1] at hO ⊢
    by_cases h2 : (scanB w).2.1 = w.length
    · rw [if_pos h2] at hS ⊢
      rw [h2, List.take_length] at f4
      have hln := good_len _ 0 f1
      rw [← f4] at hln
      have hP := sput_spec w hlw (scanB w).1 f1 f4.symm nl false false
      have hil := idxB_len _ f1 (by omega)
      have hE := equal_spec (idxB (scanB w).1) b (idxB_byte _) hb false false nlb fub
      generalize hq : (scanB w).1 = l at *
      by_cases hw0 : w = []
      · have hl0 : l = [] := by cases l with | nil => rfl | cons x r => rw [hw0] at hln; simp at hln
        subst hw0 hl0
        generalize idxB [] = I at *
        by_cases h3 : I = b
        · rw [if_pos h3]
          rw [decide_eq_true h3] at hE
          cases nl
          · simp [ixH, entGo, totB, nilS] at hS hP
            simp [go_sem, ir23, hO, hS, hP, hE, purse_eq, List.range_succ, nilS, ixH, entGo, totB]
          · simp [ixH, entGo, totB, nilS] at hS hP
            simp [go_sem, ir23, hO, hS, hP, hE, purse_eq, List.range_succ, nilS, ixH, entGo, totB]
        · rw [if_neg h3]
          rw [decide_eq_false h3] at hE
          cases nl
          · simp [ixH, entGo, totB, nilS] at hS hP
            simp [go_sem, ir23, hO, hS, hP, hE, purse_eq, List.range_succ, nilS]
          · simp [ixH, entGo, totB, nilS] at hS hP
            simp [go_sem, ir23, hO, hS, hP, hE, purse_eq, List.range_succ, nilS]
      · have hnl' : nl = false := by rcases hnl with q | q; exact q; exact absurd q hw0
        subst hnl'
        have hel := entGo_length l 0 0
        generalize idxB l = I at *
        generalize entGo 0 0 l = es at *
        generalize totB l = t at *
        by_cases h3 : I = b
        · rw [if_pos h3]
          rw [decide_eq_true h3] at hE
          simp [ixH, hw0] at hS hP
          simp [go_sem, ir23, hO, hS, hP, hE, purse_eq, List.range_succ, nilS, ixH, hw0]
        · rw [if_neg h3]
          rw [decide_eq_false h3] at hE
          simp [ixH, hw0] at hS hP
          simp [go_sem, ir23, hO, hS, hP, hE, purse_eq, List.range_succ, nilS]
    · rw [if_neg h2] at hS ⊢
      simp [go_sem, ir23, hO, hS, purse_eq, List.range_succ]
  · rw [if_neg h1] at hO ⊢
    simp [go_sem, ir23, hO, h1, purse_eq, List.range_succ]
end Go.AM.R1
open Go Go.AM Go.Proofs
namespace Go.AM.R1
theorem awake18 : call E (.func (.func 15) [] []) [] [] = some (.lit (.bool true), []) :=
  (call_iff E).2 ⟨3000, by kernel_rfl⟩
end Go.AM.R1
open Go Go.AM Go.Proofs
namespace Go.AM.R1
theorem blks_nil {l : List Bk} {t : Int} (h : Good t l) : blksB l = [] ↔ l = [] := by
  constructor
  · intro q
    have := good_len l t h
    rw [q] at this
    cases l with | nil => rfl | cons x r => simp at this
  · rintro rfl; rfl
theorem blksB_nil : blksB [] = [] := rfl
theorem ent_nil (l : List Bk) (t : Int) (p : Nat) : entGo t p l = [] ↔ l = [] := by cases l <;> simp [entGo]
set_option maxHeartbeats 1600000 in
theorem seekBack_spec (l m : List RowV) (hl : (∀ r ∈ l, r.Fit) ∧ l.length ≤ 9223372036854775807) (hm : (∀ r ∈ m, r.Fit) ∧ m.length ≤ 9223372036854775807) (nl fu nl' fu' : Bool) (c : List Nat) (hc : ∀ x ∈ c, x < 256) (nlc fuc : Bool) (hnc : nlc = false ∨ c = []) :
    call E (.func (.func 4) [] []) [.agg [.imm nl fu true (l.map encRow), .imm nl' fu' true (m.map encRow)], .imm nlc fuc true (c.map encB)] [] = some (.lit (.bool true), []) := by
  rw [call_func E E4]
  by_cases h1 : 300 < c.length
  · have h1' : (300 : Int) < (c.length : Int) := by omega
    simp [go_sem, ir4, h1', awake18]
  have h1' : ¬ (300 : Int) < (c.length : Int) := by omega
  have hA := made_spec l hl.2 hl.1 nl fu
  have hB := made_spec m hm.2 hm.1 nl' fu'
  have gA := madeL_good hl.1
  have gB := madeL_good hm.1
  have lA := madeGo_bytes ((l.take 20).map RowV.l) 0
  have lB := madeGo_bytes ((m.take 20).map RowV.l) 0
  rw [show madeGo 0 ((l.take 20).map RowV.l) = madeL l from rfl] at lA
  rw [show madeGo 0 ((m.take 20).map RowV.l) = madeL m from rfl] at lB
  simp only [List.length_map, List.length_take] at lA lB
  unfold madeB at hA hB
  generalize madeL l = la at *
  generalize madeL m = lb at *
  have bA := blksB_byte la 0 gA
  have bB := blksB_byte lb 0 gB
  have sA := scanB_put gA
  have sB := scanB_put gB
  have nA := good_len la 0 gA
  have nB := good_len lb 0 gB
  have oA := fun fu => sof_spec (blksB la) bA (by omega) false fu (.inl rfl)
  have oB := fun fu => sof_spec (blksB lb) bB (by omega) false fu (.inl rfl)
  have pA := fun le => sput_spec (blksB la) (by omega) la gA rfl false false le
  have pB := fun le => sput_spec (blksB lb) (by omega) lb gB rfl false false le
  have eA := fun le => sents_spec (blksB la) (entGo 0 0 la) (by rw [entGo_length]; omega) (by rw [ent_nil, blks_nil gA]) (totB la) false false le
  have iA := idxB_len la gA (by omega)
  have iB := idxB_len lb gB (by omega)
  have gAA := fun fub fu => sget_spec (idxB la) (idxB_byte la) (by omega) false fub (.inl rfl) (blksB la) bA (by omega) false fu (.inl rfl)
  have gAB := fun fub fu => sget_spec (idxB la) (idxB_byte la) (by omega) false fub (.inl rfl) (blksB lb) bB (by omega) false fu (.inl rfl)
  have gCA := fun fu => sget_spec c hc (by omega) nlc fuc hnc (blksB la) bA (by omega) false fu (.inl rfl)
  have oC := open_any c hc (by omega) nlc fuc hnc
  have s1 := fun fu fu' => same13_spec (idxB la) (idxB la) (by omega) false fu false fu'
  have s2 := fun fu fu' => same13_spec (idxB la) (idxB lb) (by omega) false fu false fu'
  have s3 := fun fu => same13_spec c (idxB la) (by omega) nlc fuc false fu
  unfold getX at gAA gAB gCA
  rw [sA] at oA
  rw [sB] at oB
  simp only [sA, sB, idxB_open, if_true] at oA oB gAA gAB gCA
  simp only [decide_true] at s1
  have zA := blks_nil gA
  have zB := blks_nil gB
  have hel := entGo_length la 0 0
  have hem := entGo_length lb 0 0
  have en := ent_nil la 0 0
  clear bA bB sA sB lA lB
  have kA : la ≠ [] → ¬ blksB la = [] ∧ (blksB la).isEmpty = false ∧ ¬ entGo 0 0 la = [] := fun h => ⟨fun q => h (zA.1 q), by cases hq : blksB la with | nil => exact absurd (zA.1 hq) h | cons x r => rfl, fun q => h (en.1 q)⟩
  have kB : lb ≠ [] → ¬ blksB lb = [] ∧ (blksB lb).isEmpty = false := fun h => ⟨fun q => h (zB.1 q), by cases hq : blksB lb with | nil => exact absurd (zB.1 hq) h | cons x r => rfl⟩
  by_cases ho : openE c = 0
  · by_cases hcc : idxB la = c
    · simp only [if_pos ho, if_pos hcc] at gCA oC
      simp only [decide_eq_true hcc.symm] at s3
      clear hcc
      by_cases hI : idxB lb = idxB la
      · simp only [if_pos hI] at gAB
        rw [hI] at pB s2
        simp only [decide_true] at s2
        clear iB hI
        generalize idxB la = I at *
        by_cases ha : la = []
        · subst ha
          by_cases hb : lb = []
          · subst hb
            simp [ixH, entV, entH, nilS, entGo, totB, blksB_nil] at hA hB oA oB pA pB eA gAA gAB gCA
            simp [go_sem, ir4, h1', hA, hB, oA, oB, pA, pB, eA, gAA, gAB, gCA, oC, s1, s2, s3, ho, purse_eq, List.range_succ, nilS, awake18]
          · obtain ⟨k4, k5⟩ := kB hb
            simp [ixH, entV, entH, nilS, entGo, totB, blksB_nil, k4, k5, hem] at hA hB oA oB pA pB eA gAA gAB gCA
            simp [go_sem, ir4, h1', hA, hB, oA, oB, pA, pB, eA, gAA, gAB, gCA, oC, s1, s2, s3, ho, hem, purse_eq, List.range_succ, nilS, awake18]
        · obtain ⟨k1, k2, k3⟩ := kA ha
          by_cases hb : lb = []
          · subst hb
            simp [ixH, entV, entH, nilS, entGo, totB, blksB_nil, k1, k2, k3, hel] at hA hB oA oB pA pB eA gAA gAB gCA
            simp [go_sem, ir4, h1', hA, hB, oA, oB, pA, pB, eA, gAA, gAB, gCA, oC, s1, s2, s3, ho, hel, purse_eq, List.range_succ, nilS, awake18]
          · obtain ⟨k4, k5⟩ := kB hb
            simp [ixH, entV, entH, nilS, k1, k2, k3, hel, k4, k5, hem] at hA hB oA oB pA pB eA gAA gAB gCA
            simp [go_sem, ir4, h1', hA, hB, oA, oB, pA, pB, eA, gAA, gAB, gCA, oC, s1, s2, s3, ho, hel, hem, purse_eq, List.range_succ, nilS, awake18]
      · simp only [if_neg hI] at gAB
        have hI' : ¬ idxB la = idxB lb := fun q => hI q.symm
        simp only [decide_eq_false hI'] at s2
        by_cases ha : la = []
        · subst ha
          by_cases hb : lb = []
          · subst hb
            exact absurd rfl hI
          · obtain ⟨k4, k5⟩ := kB hb
            simp [ixH, entV, entH, nilS, entGo, totB, blksB_nil, k4, k5, hem] at hA hB oA oB pA pB eA gAA gAB gCA
            simp [go_sem, ir4, h1', hA, hB, oA, oB, pA, pB, eA, gAA, gAB, gCA, oC, s1, s2, s3, ho, hem, purse_eq, List.range_succ, nilS, awake18]
        · obtain ⟨k1, k2, k3⟩ := kA ha
          by_cases hb : lb = []
          · subst hb
            simp [ixH, entV, entH, nilS, entGo, totB, blksB_nil, k1, k2, k3, hel] at hA hB oA oB pA pB eA gAA gAB gCA
            simp [go_sem, ir4, h1', hA, hB, oA, oB, pA, pB, eA, gAA, gAB, gCA, oC, s1, s2, s3, ho, hel, purse_eq, List.range_succ, nilS, awake18]
          · obtain ⟨k4, k5⟩ := kB hb
            simp [ixH, entV, entH, nilS, k1, k2, k3, hel, k4, k5, hem] at hA hB oA oB pA pB eA gAA gAB gCA
            simp [go_sem, ir4, h1', hA, hB, oA, oB, pA, pB, eA, gAA, gAB, gCA, oC, s1, s2, s3, ho, hel, hem, purse_eq, List.range_succ, nilS, awake18]
    · simp only [if_pos ho, if_neg hcc] at gCA oC
      simp only [decide_eq_false (fun q => hcc q.symm : ¬ c = idxB la)] at s3
      by_cases hI : idxB lb = idxB la
      · simp only [if_pos hI] at gAB
        rw [hI] at pB s2
        simp only [decide_true] at s2
        clear iB hI
        generalize idxB la = I at *
        by_cases ha : la = []
        · subst ha
          by_cases hb : lb = []
          · subst hb
            simp [ixH, entV, entH, nilS, entGo, totB, blksB_nil] at hA hB oA oB pA pB eA gAA gAB gCA
            simp [go_sem, ir4, h1', hA, hB, oA, oB, pA, pB, eA, gAA, gAB, gCA, oC, s1, s2, s3, ho, purse_eq, List.range_succ, nilS, awake18]
          · obtain ⟨k4, k5⟩ := kB hb
            simp [ixH, entV, entH, nilS, entGo, totB, blksB_nil, k4, k5, hem] at hA hB oA oB pA pB eA gAA gAB gCA
            simp [go_sem, ir4, h1', hA, hB, oA, oB, pA, pB, eA, gAA, gAB, gCA, oC, s1, s2, s3, ho, hem, purse_eq, List.range_succ, nilS, awake18]
        · obtain ⟨k1, k2, k3⟩ := kA ha
          by_cases hb : lb = []
          · subst hb
            simp [ixH, entV, entH, nilS, entGo, totB, blksB_nil, k1, k2, k3, hel] at hA hB oA oB pA pB eA gAA gAB gCA
            simp [go_sem, ir4, h1', hA, hB, oA, oB, pA, pB, eA, gAA, gAB, gCA, oC, s1, s2, s3, ho, hel, purse_eq, List.range_succ, nilS, awake18]
          · obtain ⟨k4, k5⟩ := kB hb
            simp [ixH, entV, entH, nilS, k1, k2, k3, hel, k4, k5, hem] at hA hB oA oB pA pB eA gAA gAB gCA
            simp [go_sem, ir4, h1', hA, hB, oA, oB, pA, pB, eA, gAA, gAB, gCA, oC, s1, s2, s3, ho, hel, hem, purse_eq, List.range_succ, nilS, awake18]
      · simp only [if_neg hI] at gAB
        have hI' : ¬ idxB la = idxB lb := fun q => hI q.symm
        simp only [decide_eq_false hI'] at s2
        by_cases ha : la = []
        · subst ha
          by_cases hb : lb = []
          · subst hb
            exact absurd rfl hI
          · obtain ⟨k4, k5⟩ := kB hb
            simp [ixH, entV, entH, nilS, entGo, totB, blksB_nil, k4, k5, hem] at hA hB oA oB pA pB eA gAA gAB gCA
            simp [go_sem, ir4, h1', hA, hB, oA, oB, pA, pB, eA, gAA, gAB, gCA, oC, s1, s2, s3, ho, hem, purse_eq, List.range_succ, nilS, awake18]
        · obtain ⟨k1, k2, k3⟩ := kA ha
          by_cases hb : lb = []
          · subst hb
            simp [ixH, entV, entH, nilS, entGo, totB, blksB_nil, k1, k2, k3, hel] at hA hB oA oB pA pB eA gAA gAB gCA
            simp [go_sem, ir4, h1', hA, hB, oA, oB, pA, pB, eA, gAA, gAB, gCA, oC, s1, s2, s3, ho, hel, purse_eq, List.range_succ, nilS, awake18]
          · obtain ⟨k4, k5⟩ := kB hb
            simp [ixH, entV, entH, nilS, k1, k2, k3, hel, k4, k5, hem] at hA hB oA oB pA pB eA gAA gAB gCA
            simp [go_sem, ir4, h1', hA, hB, oA, oB, pA, pB, eA, gAA, gAB, gCA, oC, s1, s2, s3, ho, hel, hem, purse_eq, List.range_succ, nilS, awake18]
  · simp only [if_neg ho] at gCA oC
    clear s3
    by_cases hI : idxB lb = idxB la
    · simp only [if_pos hI] at gAB
      rw [hI] at pB s2
      simp only [decide_true] at s2
      clear iB hI
      generalize idxB la = I at *
      by_cases ha : la = []
      · subst ha
        by_cases hb : lb = []
        · subst hb
          simp [ixH, entV, entH, nilS, entGo, totB, blksB_nil] at hA hB oA oB pA pB eA gAA gAB gCA
          simp [go_sem, ir4, h1', hA, hB, oA, oB, pA, pB, eA, gAA, gAB, gCA, oC, s1, s2, ho, purse_eq, List.range_succ, nilS, awake18]
        · obtain ⟨k4, k5⟩ := kB hb
          simp [ixH, entV, entH, nilS, entGo, totB, blksB_nil, k4, k5, hem] at hA hB oA oB pA pB eA gAA gAB gCA
          simp [go_sem, ir4, h1', hA, hB, oA, oB, pA, pB, eA, gAA, gAB, gCA, oC, s1, s2, ho, hem, purse_eq, List.range_succ, nilS, awake18]
      · obtain ⟨k1, k2, k3⟩ := kA ha
        by_cases hb : lb = []
        · subst hb
          simp [ixH, entV, entH, nilS, entGo, totB, blksB_nil, k1, k2, k3, hel] at hA hB oA oB pA pB eA gAA gAB gCA
          simp [go_sem, ir4, h1', hA, hB, oA, oB, pA, pB, eA, gAA, gAB, gCA, oC, s1, s2, ho, hel, purse_eq, List.range_succ, nilS, awake18]
        · obtain ⟨k4, k5⟩ := kB hb
          simp [ixH, entV, entH, nilS, k1, k2, k3, hel, k4, k5, hem] at hA hB oA oB pA pB eA gAA gAB gCA
          simp [go_sem, ir4, h1', hA, hB, oA, oB, pA, pB, eA, gAA, gAB, gCA, oC, s1, s2, ho, hel, hem, purse_eq, List.range_succ, nilS, awake18]
    · simp only [if_neg hI] at gAB
      have hI' : ¬ idxB la = idxB lb := fun q => hI q.symm
      simp only [decide_eq_false hI'] at s2
      by_cases ha : la = []
      · subst ha
        by_cases hb : lb = []
        · subst hb
          exact absurd rfl hI
        · obtain ⟨k4, k5⟩ := kB hb
          simp [ixH, entV, entH, nilS, entGo, totB, blksB_nil, k4, k5, hem] at hA hB oA oB pA pB eA gAA gAB gCA
          simp [go_sem, ir4, h1', hA, hB, oA, oB, pA, pB, eA, gAA, gAB, gCA, oC, s1, s2, ho, hem, purse_eq, List.range_succ, nilS, awake18]
      · obtain ⟨k1, k2, k3⟩ := kA ha
        by_cases hb : lb = []
        · subst hb
          simp [ixH, entV, entH, nilS, entGo, totB, blksB_nil, k1, k2, k3, hel] at hA hB oA oB pA pB eA gAA gAB gCA
          simp [go_sem, ir4, h1', hA, hB, oA, oB, pA, pB, eA, gAA, gAB, gCA, oC, s1, s2, ho, hel, purse_eq, List.range_succ, nilS, awake18]
        · obtain ⟨k4, k5⟩ := kB hb
          simp [ixH, entV, entH, nilS, k1, k2, k3, hel, k4, k5, hem] at hA hB oA oB pA pB eA gAA gAB gCA
          simp [go_sem, ir4, h1', hA, hB, oA, oB, pA, pB, eA, gAA, gAB, gCA, oC, s1, s2, ho, hel, hem, purse_eq, List.range_succ, nilS, awake18]
end Go.AM.R1
open Go Go.AM Go.AM.R1 Go.Proofs
namespace Go.Proofs.Ytppdlldajaihbaa
open Go.ChangeShapes Go.WideShapes Go.ChangeAt Go.RowKit
namespace seekBack
theorem own : ownKnob Try.prog.godebug = none := by kernel_rfl
theorem laidOut : laidOutB Try.prog = true := by kernel_rfl
theorem mixed : Try.prog.follows .mixedOrders = true := by kernel_rfl
set_option maxRecDepth 100000 in
theorem contract (H : Type) (enc : TypeId × Value → H) (W : World) (base : Nat) (args : Array Value) (ds gs : List (DataW H)) (before : List MemPlace)
    (hval : ∀ (j : Nat) t v, Try.f4.params[j]? = some t → args[j]? = some v → Value.okWide Try.prog W .any base t v)
    (hW : DataW.Whole enc Try.prog Try.f4.params.toList Rows.seekBackSpec.vars false W args.toList ds gs before) :
    Calls Try.prog 4 args W fun e W' => ∃ v, e = .returned v ∧ Rows.seekBackSpec.post enc Try.prog Try.f4 false true false false W args v W' := by
  refine law_contract (id := 4) (f := Try.f4) (s := Rows.seekBackSpec) (k := 7) (nargs := 2) (base := base) (ds := ds) (gs := gs) (before := before) mixed R1.hE laidOut ?e1 ?e2 (tb := 4) ?e3 Try.underlying4 ?e4 ?e5 ?e7 ?e8 ?e6
  case e7 => exact hval
  case e8 => exact hW
  case e1 => rfl
  case e3 => kernel_rfl
  case e4 => rw [Try.params4]; rfl
  · rw [Try.params4]; decide +kernel
  · intro ds h
    match ds, h with
    | [d1, d2], _ => rfl
  · intro cs hA
    rw [Try.params4] at hA
    obtain ⟨d1, r1, a1, s1, rfl, rfl, h1, hA⟩ := decArgs_cons hA
    obtain ⟨d2, r2, a2, s2, rfl, rfl, h2, hA⟩ := decArgs_cons hA
    obtain ⟨rfl, rfl⟩ := decArgs_nil hA
    obtain ⟨nl, fu, nl', fu', l, m, rfl, hl, hm⟩ := decV_two (n := 2) Try.underlying42 Try.underlying41 Try.underlying49 ⟨_, _, _, Try.underlying56, Try.underlying3, Try.underlying3, Try.underlying54⟩ h1
    obtain ⟨nlc, fuc, b, rfl, hnl, hb⟩ := decV_bytes (n := 5) Try.underlying22 Try.underlying5 h2
    obtain ⟨n, hn⟩ := (call_iff R1.E).1 (seekBack_spec l m hl hm nl fu nl' fu' b hb nlc fuc hnl)
    exact ⟨n, _, hn⟩

set_option maxRecDepth 100000 in
theorem lifted (os : Os) (started : os.Started) (H : Type) (enc : TypeId × Value → H) :
    ReturnsInHanded {} Try.checked os 4 .any (Rows.seekBackSpec.pre6 enc Try.prog Try.f4 Rows.seekBackRow.domain false) (Rows.seekBackSpec.post enc Try.prog Try.f4 false true false false) := by
  refine returnsInHanded_of_change (C := Try.checked) own started (by kernel_rfl) Try.func4
    (ChangeSpec.witness6 (enc := enc) (C := Try.checked) false ⟨#[], #[.agg #[.slice none 0 0, .slice none 0 0], .slice none 0 0], []⟩ 8 (by kernel_rfl) (by kernel_rfl) (by kernel_rfl) (by kernel_rfl)) ?_
  intro W base args ds gs before hval hW _ _
  exact contract H enc W base args ds gs before hval hW

theorem proved : Rows.SeekBackSaid :=
  OpenClaim.holds_of_wide 4 Try.f4 rfl rfl rfl rfl rfl rfl rfl ⟨rfl, rfl, rfl, rfl, rfl⟩ rfl rfl rfl rfl rfl (by kernel_rfl) Try.func4 (by kernel_rfl)
    (of_decide_eq_true (by kernel_rfl)) (by unfold Func.isWrapper; first | (rw [if_pos (by decide +kernel)]; kernel_rfl) | (rw [if_neg (by decide +kernel)]; exact ⟨rfl, rfl⟩))
    (fun os started H enc _ => lifted os started H enc)
end seekBack
theorem seekBackProved : Rows.SeekBackSaid := seekBack.proved
end Go.Proofs.Ytppdlldajaihbaa
