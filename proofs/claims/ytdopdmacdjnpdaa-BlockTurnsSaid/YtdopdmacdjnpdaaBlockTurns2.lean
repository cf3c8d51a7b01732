/- The law BlockTurns of package magnetolaw15 returns true for every input, and its arguments read as before. -/
import Derived.Test.YtdopdmacdjnpdaaBlockTurns1
import Derived.Laws.Strings
import Derived.ProofKit
set_option linter.unusedVariables false
set_option linter.unusedSimpArgs false
open Go Go.AM
namespace Go.AM.R1
theorem same13_loop (l m : List Nat) (hlm : l.length = m.length) (hl : l.length ≤ 1099511627775) (nl fu nl' fu' : Bool) (k : List Item) (R : Bool → Option (AVal × Heap))
    (hk : ∀ τ, finK 0 [.tmp 4] (run E 0 k τ []) = R true) (hf : R false = some (.lit (.bool false), [])) :
    ∀ (d i : Nat), i + d = l.length →
   finK 0 [.tmp 4] (run E 0 (.code L19_0 :: .inLoop [0, 1, 5] L19_0 :: .inBlock 0 :: k) [(0, .imm nl fu true (l.map encB)), (1, .imm nl' fu' true (m.map encB)), (5, .lit (.int .i64 i))] [])
   = R (decide (l.drop i = m.drop i)) := by
  intro d
  induction d with
  | zero =>
    intro i hi
    rw [List.drop_eq_nil_of_le (by omega), List.drop_eq_nil_of_le (by omega)]
    have : ¬ i < l.length := by omega
    simp [go_sem, run_codeL E L19_0.eq_1, this]
    exact hk _
  | succ d ih =>
    intro i hi
    have hlt : i < l.length := by omega
    have hlt' : i < m.length := by omega
    have w2 := wrapIdx (i := i) (by omega)
    rw [List.drop_eq_getElem_cons hlt, List.drop_eq_getElem_cons hlt']
    by_cases h : l[i] = m[i]
    · rw [decide_eq_decide.2 (show (l[i] :: l.drop (i + 1) = m[i] :: m.drop (i + 1)) ↔ l.drop (i + 1) = m.drop (i + 1) from ⟨fun e => (List.cons.inj e).2, fun e => by rw [h, e]⟩)]
      simp [go_sem, run_codeL E L19_0.eq_1, hlt, List.getElem?_eq_getElem hlt, List.getElem?_eq_getElem hlt', encB, h, w2]
      rw [run_inLoop']
      simp [go_sem, purse_eq]
      have := ih (i + 1) (by omega)
      simpa [encB] using this
    · have h' : ¬ ((l[i] : Nat) : Int) = (m[i] : Nat) := by omega
      rw [decide_eq_false (show ¬ (l[i] :: l.drop (i + 1) = m[i] :: m.drop (i + 1)) from fun e => h (List.cons.inj e).1), hf]
      simp [go_sem, h', run_codeL E L19_0.eq_1, hlt, List.getElem?_eq_getElem hlt, List.getElem?_eq_getElem hlt', encB, h, w2]
theorem same13_spec (l m : List Nat) (hl : l.length ≤ 1099511627775) (nl fu nl' fu' : Bool) :
    call E (.func (.func 19) [] []) [.imm nl fu true (l.map encB), .imm nl' fu' true (m.map encB)] [] = some (.lit (.bool (decide (l = m))), []) := by
  rw [call_func E E19]
  by_cases hlm : l.length = m.length
  · simp [go_sem, ir19, hlm]
    rw [run_inLoop']
    simp [go_sem, purse_eq]
    have := same13_loop l m hlm hl nl fu nl' fu' [.code (.seq (.reg [⟨none, some 4, .copy (.c (.lit (.bool true)))⟩] [] []) .ret)] (fun b => some (.lit (.bool b), [])) ?_ rfl l.length 0 (by omega)
    · simpa using this
    · intro τ; simp [go_sem]
  · have : ¬ (l.length : Int) = m.length := by omega
    have h2 : ¬ l = m := fun h => hlm (by rw [h])
    simp [go_sem, ir19, hlm, this, h2]

/-! ### Which blocks are right -/
/-- Are there two runs side by side with the same drivers? -/
def dup : List Run → Bool
  | a :: b :: l => decide (a.Drive = b.Drive) || dup (b :: l)
  | _ => false
theorem dup_cons (l : List Run) (i : Nat) (h : i + 1 < l.length) : dup (l.drop i) = (decide (l[i].Drive = l[i + 1].Drive) || dup (l.drop (i + 1))) := by
  rw [List.drop_eq_getElem_cons (show i < l.length by omega), List.drop_eq_getElem_cons h, dup]
theorem dup_end (l : List Run) (i : Nat) (h : l.length ≤ i + 1) : dup (l.drop i) = false := by
  rcases Nat.lt_or_ge i l.length with h2 | h2
  · rw [List.drop_eq_getElem_cons h2, List.drop_eq_nil_of_le (by omega)]; rfl
  · rw [List.drop_eq_nil_of_le h2]; rfl
def chkB (first : Int) (l : List Run) : Int :=
  if first < 0 ∨ 1073741824 < first then 10 else if l = [] then 16 else if 4096 < l.length then 12 else if chk l ≠ 0 then chk l else if dup l = true then 11 else if 1073741824 < first + sumN l then 12 else 0
def encBlk (first : Int) (l : List Run) (nl fu : Bool) : List AVal := [.lit (.int .i64 first), .imm nl fu true (l.map encRun)]
theorem bcheck_loop (first n : Int) (l : List Run) (hl : l.length ≤ 4096) (nl fu : Bool) (k : List Item) (R : Bool → Option (AVal × Heap))
    (hk : ∀ τ, lk 1 τ = .ptr 0 0 → lk 3 τ = .lit (.int .i64 n) → finK 0 [.tmp 2] (run E 0 k τ [.box (encBlk first l nl fu)]) = R false)
    (ht : R true = some (.lit (.int .i64 11), [])) :
    ∀ (d i : Nat), i + d + 1 = l.length →
   finK 0 [.tmp 2] (run E 0 (.code L18_0 :: .inLoop [1, 3, 37, 38] L18_0 :: .inBlock 1 :: k)
     [(1, .ptr 0 0), (3, .lit (.int .i64 n)), (37, .lit (.int .i64 ((l.length : Int) - 1))), (38, .lit (.int .i64 i))] [.box (encBlk first l nl fu)]) = R (dup (l.drop i)) := by
  intro d
  induction d with
  | zero =>
    intro i hi
    rw [dup_end l i (by omega)]
    have h1 : ¬ (i : Int) < (l.length : Int) - 1 := by omega
    simp [go_sem, run_codeL E L18_0.eq_1, h1]
    exact hk _ rfl rfl
  | succ d ih =>
    intro i hi
    have hlt : i < l.length := by omega
    have hlt' : i + 1 < l.length := by omega
    have h1 : (i : Int) < (l.length : Int) - 1 := by omega
    have w2 := wrapIdx (i := i) (by omega)
    have ht1 : ((i : Int) + 1).toNat = i + 1 := by omega
    have hz : (0 : Int) ≤ (i : Int) + 1 := by omega
    rw [dup_cons l i hlt']
    have ih2 := ih (i + 1) (by omega)
    simp [encBlk] at ih2
    simp at w2
    by_cases hd : l[i].Drive = l[i + 1].Drive
    · rw [show (decide (l[i].Drive = l[i + 1].Drive) || dup (l.drop (i + 1))) = true from by simp [hd], ht]
      simp [go_sem, run_codeL E L18_0.eq_1, h1, hlt, hlt', List.getElem?_eq_getElem hlt, List.getElem?_eq_getElem hlt', encBlk, encRun, w2, ht1, hz, hd]
    · rw [show (decide (l[i].Drive = l[i + 1].Drive) || dup (l.drop (i + 1))) = dup (l.drop (i + 1)) from by simp [hd]]
      simp [go_sem, run_codeL E L18_0.eq_1, h1, hlt, hlt', List.getElem?_eq_getElem hlt, List.getElem?_eq_getElem hlt', encBlk, encRun, w2, ht1, hz, hd]
      rw [run_inLoop']
      simp [go_sem, purse_eq]
      exact ih2
theorem bcheck_spec (first : Int) (hf : -9223372036854775808 ≤ first ∧ first ≤ 9223372036854775807) (l : List Run) (hl : l.length ≤ 1048576) (hl2 : ∀ r ∈ l, r.Ok) (nl fu : Bool) :
    call E (.func (.func 18) [] []) [.agg (encBlk first l nl fu)] [] = some (.lit (.int .i64 (chkB first l)), []) := by
  rw [call_func E E18]
  have hT := ticks_spec l (by omega) hl2 nl fu
  rw [ticks_eq] at hT
  unfold chkB
  by_cases h1 : first < 0
  · simp [go_sem, ir18, encBlk, h1]
  · by_cases h2 : 1073741824 < first
    · simp [go_sem, ir18, encBlk, h1, h2]
    · by_cases h3 : l = []
      · subst h3
        simp [go_sem, ir18, encBlk, h1, h2]
      · by_cases h4 : 4096 < l.length
        · have h4' : (4096 : Int) < l.length := by omega
          simp [go_sem, ir18, encBlk, h1, h2, h3, h4, h4']
        · have h4' : ¬ (4096 : Int) < l.length := by omega
          by_cases h5 : chk l = 0
          · obtain ⟨hN, h0, hS⟩ := chk_right h5
            rw [h5, if_pos rfl] at hT
            have hlen : 0 < l.length := List.length_pos_iff.2 h3
            have w1 : IntKind.wrap .i64 ((l.length : Int) - 1) = (l.length : Int) - 1 := wrap64 (by omega) (by omega)
            have w2 : IntKind.wrap .i64 (first + sumN l) = first + sumN l := wrap64 (by omega) (by omega)
            simp [go_sem, ir18, encBlk, h1, h2, h3, h4, h4', hT, h5, w1]
            rw [run_inLoop']
            simp [go_sem, purse_eq]
            have hlp := bcheck_loop first (sumN l) l (by omega) nl fu [.code (.seq (.seq (.reg [⟨none, some 56, .fieldA 0 (.t 1)⟩, ⟨none, some 57, .load false 1 (.t 56)⟩, ⟨none, some 58, .copy (.t 3)⟩, ⟨none, some 59, .bin .add (.t 57) (.t 58)⟩, ⟨none, some 60, .bin .gtr (.t 59) (.c (.lit (.int .i64 1073741824)))⟩] [] []) (.cond (.t 60) (.seq (.reg [⟨none, some 2, .copy (.c (.lit (.int .i64 12)))⟩] [] []) .ret) .skip)) (.seq (.reg [⟨none, some 2, .copy (.c (.lit (.int .i64 0)))⟩] [] []) .ret))]
              (fun b => some (.lit (.int .i64 (if b = true then 11 else if 1073741824 < first + sumN l then 12 else 0)), [])) ?_ rfl (l.length - 1) 0 (by omega)
            · simpa [encBlk] using hlp
            · intro τ t1 t3
              by_cases h6 : 1073741824 < first + sumN l
              · simp [go_sem, t1, t3, encBlk, w2, h6]
              · simp [go_sem, t1, t3, encBlk, w2, h6]
          · rw [if_neg h5] at hT
            simp [go_sem, ir18, encBlk, h1, h2, h3, h4, h4', hT, h5]

theorem rcheck_loop (first : Int) (l : List Run) (hl : l.length ≤ 4096) (nl fu : Bool) (k : List Item) (R : Bool → Option (AVal × Heap))
    (hk : ∀ τ, lk 1 τ = .ptr 0 0 → finK 0 [.tmp 2] (run E 0 k τ [.box (encBlk first l nl fu)]) = R false)
    (ht : R true = some (.lit (.int .i64 11), [])) :
    ∀ (d i : Nat), i + d + 1 = l.length →
   finK 0 [.tmp 2] (run E 0 (.code L17_0 :: .inLoop [1, 4] L17_0 :: .inBlock 0 :: k)
     [(1, .ptr 0 0), (4, .lit (.int .i64 ((i : Int) + 1)))] [.box (encBlk first l nl fu)]) = R (dup (l.drop i)) := by
  intro d
  induction d with
  | zero =>
    intro i hi
    rw [dup_end l i (by omega)]
    have h1 : ¬ (i : Int) + 1 < (l.length : Int) := by omega
    simp [go_sem, run_codeL E L17_0.eq_1, h1, encBlk]
    exact hk _ rfl
  | succ d ih =>
    intro i hi
    have hlt : i < l.length := by omega
    have hlt' : i + 1 < l.length := by omega
    have h1 : (i : Int) + 1 < (l.length : Int) := by omega
    have w2 : IntKind.wrap .i64 ((i : Int) + 1 + 1) = (i : Int) + 1 + 1 := wrap64 (by omega) (by omega)
    have w3 : IntKind.wrap .i64 (i : Int) = i := wrap64 (by omega) (by omega)
    have ht1 : ((i : Int) + 1).toNat = i + 1 := by omega
    have hz : (0 : Int) ≤ (i : Int) + 1 := by omega
    rw [dup_cons l i hlt']
    have ih2 := ih (i + 1) (by omega)
    simp [encBlk] at ih2
    by_cases hd : l[i + 1].Drive = l[i].Drive
    · rw [show (decide (l[i].Drive = l[i + 1].Drive) || dup (l.drop (i + 1))) = true from by simp [hd], ht]
      simp [go_sem, run_codeL E L17_0.eq_1, h1, hlt, hlt', List.getElem?_eq_getElem hlt, List.getElem?_eq_getElem hlt', encBlk, encRun, w2, w3, ht1, hz, hd]
    · rw [show (decide (l[i].Drive = l[i + 1].Drive) || dup (l.drop (i + 1))) = dup (l.drop (i + 1)) from by rw [decide_eq_false (show ¬ l[i].Drive = l[i + 1].Drive from fun e => hd e.symm), Bool.false_or]]
      simp [go_sem, run_codeL E L17_0.eq_1, h1, hlt, hlt', List.getElem?_eq_getElem hlt, List.getElem?_eq_getElem hlt', encBlk, encRun, w2, w3, ht1, hz, hd]
      rw [run_inLoop']
      simp [go_sem, purse_eq]
      exact ih2
theorem rcheck_spec (first : Int) (hf : -9223372036854775808 ≤ first ∧ first ≤ 9223372036854775807) (l : List Run) (hl : l.length ≤ 1048576) (nl fu : Bool) :
    call E (.func (.func 17) [] []) [.agg (encBlk first l nl fu)] [] = some (.lit (.int .i64 (chkB first l)), []) := by
  rw [call_func E E17]
  have hT := refCheck_spec l hl nl fu
  unfold chkB
  by_cases h1 : first < 0
  · simp [go_sem, ir17, encBlk, h1]
  · by_cases h2 : 1073741824 < first
    · simp [go_sem, ir17, encBlk, h1, h2]
    · by_cases h3 : l = []
      · subst h3
        simp [go_sem, ir17, encBlk, h1, h2]
      · by_cases h4 : 4096 < l.length
        · have h4' : (4096 : Int) < l.length := by omega
          simp [go_sem, ir17, encBlk, h1, h2, h3, h4, h4']
        · have h4' : ¬ (4096 : Int) < l.length := by omega
          by_cases h5 : chk l = 0
          · obtain ⟨hN, h0, hS⟩ := chk_right h5
            rw [h5] at hT
            have hC := count_spec l hl hN nl fu
            have hlen : 0 < l.length := List.length_pos_iff.2 h3
            have w2 : IntKind.wrap .i64 (1073741824 - first) = 1073741824 - first := wrap64 (by omega) (by omega)
            simp [go_sem, ir17, encBlk, h1, h2, h3, h4, h4', hT, h5]
            rw [run_inLoop']
            simp [go_sem, purse_eq]
            have hlp := rcheck_loop first l (by omega) nl fu [.code (.seq (.seq (.reg [⟨none, some 48, .fieldA 1 (.t 1)⟩, ⟨none, some 49, .load false 1 (.t 48)⟩, ⟨none, some 50, .call 26 [(.t 49)]⟩, ⟨none, some 51, .fieldA 0 (.t 1)⟩, ⟨none, some 52, .load false 1 (.t 51)⟩, ⟨none, some 53, .bin .sub (.c (.lit (.int .i64 1073741824))) (.t 52)⟩, ⟨none, some 54, .bin .gtr (.t 50) (.t 53)⟩] [(4, 2)] []) (.cond (.t 54) (.seq (.reg [⟨none, some 2, .copy (.c (.lit (.int .i64 12)))⟩] [] []) .ret) .skip)) (.seq (.reg [⟨none, some 2, .copy (.c (.lit (.int .i64 0)))⟩] [] []) .ret))]
              (fun b => some (.lit (.int .i64 (if b = true then 11 else if 1073741824 < first + sumN l then 12 else 0)), [])) ?_ rfl (l.length - 1) 0 (by omega)
            · simpa [encBlk] using hlp
            · intro τ t1
              by_cases h6 : 1073741824 < first + sumN l
              · have h7 : 1073741824 - first < sumN l := by omega
                simp [go_sem, t1, encBlk, hC, w2, h6, h7]
              · have h7 : ¬ 1073741824 - first < sumN l := by omega
                simp [go_sem, t1, encBlk, hC, w2, h6, h7]
          · simp [go_sem, ir17, encBlk, h1, h2, h3, h4, h4', hT, h5]
end Go.AM.R1
open Go Go.AM
namespace Go.AM.R1

/-! ### The bytes of a block -/
theorem ixor_range (x y : Int) : 0 ≤ ixor .u32 x y ∧ ixor .u32 x y ≤ 4294967295 := by
  unfold ixor
  generalize ((BitVec.ofInt IntKind.u32.bits x ^^^ BitVec.ofInt IntKind.u32.bits y).toNat : Int) = z
  simp [IntKind.wrap, IntKind.bits, IntKind.signed]; omega
theorem putN_pos (n : Nat) : putN n ≠ [] := by
  rcases Nat.lt_or_ge n 128 with h | h
  · rw [putN_small h]; simp
  · rw [putN_big h]; simp
theorem putN_length : ∀ (d n : Nat), n < 128 ^ (d + 1) → (putN n).length ≤ d + 1
  | 0, n, h => by rw [putN_small (by omega)]; simp
  | d + 1, n, h => by
    rcases Nat.lt_or_ge n 128 with h2 | h2
    · rw [putN_small h2]; simp
    · rw [putN_big h2, List.length_cons]
      have := putN_length d (n / 128) (by rw [Nat.pow_succ] at h; omega)
      omega
theorem putN_len64 {n : Nat} (h : n < 18446744073709551616) : (putN n).length ≤ 10 := putN_length 9 n (by omega)
theorem putN_byte : ∀ (d n : Nat), n < 128 ^ (d + 1) → ∀ c ∈ putN n, c < 256
  | 0, n, h => by rw [putN_small (by omega)]; simp; omega
  | d + 1, n, h => by
    rcases Nat.lt_or_ge n 128 with h2 | h2
    · rw [putN_small h2]; simp; omega
    · rw [putN_big h2]
      have := putN_byte d (n / 128) (by rw [Nat.pow_succ] at h; omega)
      intro c hc
      rcases List.mem_cons.1 hc with rfl | hc
      · omega
      · exact this c hc
/-- The inside as it is laid: a place with its bytes. -/
def inH (I : List Nat) : Heap := if I = [] then [.box [nilS]] else [.box [.own 1 I.length 1 0 I.length], .arr true false false 1 (I.map encB)]
theorem put1_spec (n : Nat) (hn : n < 18446744073709551616) (I : List Nat) (hI : I.length ≤ 1099511627775) :
    call E (.func (.func 43) [] [.ptr 0 0]) [.lit (.int .u64 n)] (inH I) = some (.tup [], inH (I ++ putN n)) := by
  rw [call_func E E43]
  have hV := vput_spec n hn
  have hp := putN_pos n
  have hr := rowsB (putN n)
  have hl := putN_len64 hn
  generalize putN n = B at hV hp hr hl
  have hb : ¬ (70368744177664 < B.length) := by omega
  have hb2 : ¬ (70368744177664 < I.length + B.length) := by omega
  by_cases h : I = []
  · subst h
    simp [go_sem, ir43, inH, hV, hp, hr, hb, purse_eq, List.range_succ]
  · simp [go_sem, ir43, inH, hV, hp, hr, h, hb2, purse_eq, List.range_succ]

/-- The numbers of a block's runs. -/
def runN (last : Int) : List Run → List Nat
  | [] => []
  | r :: l => r.N.toNat :: (ixor .u32 r.Drive last).toNat :: runN r.Drive l
def numsN (first : Int) (l : List Run) : List Nat := first.toNat :: l.length :: runN 4294967295 l
def bytesN (l : List Nat) : List Nat := l.flatMap putN
def insideB (first : Int) (l : List Run) : List Nat := bytesN (numsN first l)
/-- The bytes of numbers, as an inside. -/
def wholeB (l : List Nat) : List Nat := sealB (putN (bytesN l).length ++ bytesN l)
theorem bput_loop (l : List Run) (hl : l.length ≤ 4096) (hN : ∀ r ∈ l, 1 ≤ r.N ∧ r.N ≤ 1073741824) (nl fu : Bool) (k : List Item) (R : List Nat → Option (AVal × Heap))
    (hk : ∀ I τ, I ≠ [] → I.length ≤ 82000 → (∀ c ∈ I, c < 256) → lk 5 τ = .ptr 1 0 → finK 0 [.tmp 2, .tmp 3] (run E 0 k τ [.dead, .box [.own 2 I.length 1 0 I.length], .arr true false false 1 (I.map encB)]) = R I) :
    ∀ (d i : Nat) (I : List Nat) (last : Int), i + d = l.length → I ≠ [] → I.length ≤ 20 + 20 * i → (∀ c ∈ I, c < 256) →
   finK 0 [.tmp 2, .tmp 3] (run E 0 (.code L16_0 :: .inLoop [5, 6, 7, 28, 29, 30] L16_0 :: .inBlock 0 :: k)
     [(5, .ptr 1 0), (6, .func (.func 43) [] [.ptr 1 0]), (7, .lit (.int .u32 last)), (28, .imm nl fu true (l.map encRun)), (29, .lit (.int .i64 l.length)), (30, .lit (.int .i64 i))]
     [.dead, .box [.own 2 I.length 1 0 I.length], .arr true false false 1 (I.map encB)]) = R (I ++ bytesN (runN last (l.drop i))) := by
  intro d
  induction d with
  | zero =>
    intro i I last hi hne hI hby
    have : i = l.length := by omega
    subst this
    simp [go_sem, run_codeL E L16_0.eq_1, runN, bytesN]
    exact hk I _ hne (by omega) hby rfl
  | succ d ih =>
    intro i I last hi hne hI hby
    have hlt : i < l.length := by omega
    have w2 := wrapIdx (i := i) (by omega)
    have hn := hN _ (List.getElem_mem hlt)
    have hx := ixor_range l[i].Drive last
    have hP1 := put1_spec l[i].N.toNat (by omega) I (by omega)
    have hl1 := putN_len64 (n := l[i].N.toNat) (by omega)
    have hl2 := putN_len64 (n := (ixor .u32 l[i].Drive last).toNat) (by omega)
    have hP2 := put1_spec (ixor .u32 l[i].Drive last).toNat (by omega) (I ++ putN l[i].N.toNat) (by simp; omega)
    have e1 : IntKind.wrap .u64 l[i].N = l[i].N := by simp [IntKind.wrap, IntKind.bits, IntKind.signed]; omega
    have e2 : IntKind.wrap .u64 (ixor .u32 l[i].Drive last) = ixor .u32 l[i].Drive last := by simp [IntKind.wrap, IntKind.bits, IntKind.signed]; omega
    have e3 : ((l[i].N.toNat : Nat) : Int) = l[i].N := by omega
    have e4 : (((ixor .u32 l[i].Drive last).toNat : Nat) : Int) = ixor .u32 l[i].Drive last := by omega
    rw [e3] at hP1
    rw [e4] at hP2
    have ih2 := ih (i + 1) (I ++ putN l[i].N.toNat ++ putN (ixor .u32 l[i].Drive last).toNat) l[i].Drive (by omega) (by simp [hne]) (by simp; omega) (by
      intro c hc
      rcases List.mem_append.1 hc with hc | hc
      · rcases List.mem_append.1 hc with hc | hc
        · exact hby c hc
        · exact putN_byte 9 _ (by omega) c hc
      · exact putN_byte 9 _ (by omega) c hc)
    rw [List.drop_eq_getElem_cons hlt, runN]
    have hne2 : ¬ (I ++ putN l[i].N.toNat = []) := by simp [hne]
    have hne3 : ¬ (I ++ putN l[i].N.toNat ++ putN (ixor .u32 l[i].Drive last).toNat = []) := by simp [hne]
    rw [show I ++ bytesN (l[i].N.toNat :: (ixor .u32 l[i].Drive last).toNat :: runN l[i].Drive (l.drop (i + 1))) = I ++ putN l[i].N.toNat ++ putN (ixor .u32 l[i].Drive last).toNat ++ bytesN (runN l[i].Drive (l.drop (i + 1))) from by simp [bytesN]]
    unfold inH at hP1 hP2
    rw [if_neg hne, if_neg hne2] at hP1
    rw [if_neg hne2, if_neg hne3] at hP2
    generalize I ++ putN l[i].N.toNat = I1 at hP1 hP2 ih2
    generalize I1 ++ putN (ixor .u32 l[i].Drive last).toNat = I2 at hP2 ih2
    simp at ih2
    simp [go_sem, run_codeL E L16_0.eq_1, hlt, List.getElem?_eq_getElem hlt, encRun, w2, e1, e2, hP1, hP2, purse_eq]
    rw [run_inLoop']
    simp [go_sem, purse_eq]
    exact ih2

theorem chkB_ok {first : Int} {l : List Run} (h : chkB first l = 0) : (0 ≤ first ∧ first ≤ 1073741824) ∧ l ≠ [] ∧ l.length ≤ 4096 ∧ chk l = 0 ∧ dup l = false ∧ first + sumN l ≤ 1073741824 := by
  unfold chkB at h
  split at h
  · omega
  · split at h
    · omega
    · split at h
      · omega
      · split at h
        · rename_i h5; exact absurd h h5
        · split at h
          · omega
          · split at h
            · omega
            · rename_i h1 h2 h3 h4 h5 h6
              exact ⟨by omega, h2, by omega, by simpa using h4, by simpa using h5, by omega⟩
theorem bytes_len (l : List Nat) (h : ∀ n ∈ l, n < 18446744073709551616) : (bytesN l).length ≤ 10 * l.length := by
  induction l with
  | nil => simp [bytesN]
  | cons n l ih =>
    have h1 := putN_len64 (h n (by simp))
    have h2 := ih fun m hm => h m (by simp [hm])
    simp only [bytesN, List.flatMap_cons, List.length_append, List.length_cons] at h2 ⊢
    omega
theorem bytes_byte (l : List Nat) (h : ∀ n ∈ l, n < 18446744073709551616) : ∀ c ∈ bytesN l, c < 256 := by
  intro c hc
  simp only [bytesN, List.mem_flatMap] at hc
  obtain ⟨n, hn, hc⟩ := hc
  exact putN_byte 9 n (by have := h n hn; omega) c hc
theorem runN_lt : ∀ (l : List Run) (last : Int), (∀ r ∈ l, 1 ≤ r.N ∧ r.N ≤ 1073741824) → ∀ n ∈ runN last l, n < 4294967296
  | [], _, _, n, hn => by simp [runN] at hn
  | r :: l, last, h, n, hn => by
    have hr := h r (by simp)
    have hx := ixor_range r.Drive last
    simp only [runN, List.mem_cons] at hn
    rcases hn with rfl | rfl | hn
    · omega
    · omega
    · exact runN_lt l _ (fun x hx => h x (by simp [hx])) n hn
theorem runN_length : ∀ (l : List Run) (last : Int), (runN last l).length = 2 * l.length
  | [], _ => rfl
  | r :: l, last => by simp only [runN, List.length_cons, runN_length l]; omega
theorem nums_lt {first : Int} {l : List Run} (hf : 0 ≤ first ∧ first ≤ 1073741824) (hl : l.length ≤ 4096) (h : ∀ r ∈ l, 1 ≤ r.N ∧ r.N ≤ 1073741824) : ∀ n ∈ numsN first l, n < 4294967296 := by
  intro n hn
  simp only [numsN, List.mem_cons] at hn
  rcases hn with rfl | rfl | hn
  · omega
  · omega
  · exact runN_lt l _ h n hn
theorem inside_len {first : Int} {l : List Run} (hf : 0 ≤ first ∧ first ≤ 1073741824) (hl : l.length ≤ 4096) (h : ∀ r ∈ l, 1 ≤ r.N ∧ r.N ≤ 1073741824) : (insideB first l).length ≤ 82000 := by
  have := bytes_len (numsN first l) fun n hn => by have := nums_lt hf hl h n hn; omega
  have e : (numsN first l).length = 2 * l.length + 2 := by simp only [numsN, List.length_cons, runN_length]
  unfold insideB
  omega
theorem bput_spec (first : Int) (hf : -9223372036854775808 ≤ first ∧ first ≤ 9223372036854775807) (l : List Run) (hl : l.length ≤ 1048576) (hl2 : ∀ r ∈ l, r.Ok) (nl fu : Bool) (hc : chkB first l = 0) :
    call E (.func (.func 16) [] []) [.agg (encBlk first l nl fu)] []
      = some (.tup [.own 0 (wholeB (numsN first l)).length 1 0 (wholeB (numsN first l)).length, .lit (.int .i64 0)], [.arr true false false 1 ((wholeB (numsN first l)).map encB)]) := by
  rw [call_func E E16]
  have hC := bcheck_spec first hf l hl hl2 nl fu
  rw [hc] at hC
  obtain ⟨h1, h2, h3, h4, h5, h6⟩ := chkB_ok hc
  obtain ⟨hN, -, -⟩ := chk_right h4
  have hP1 := put1_spec first.toNat (by omega) [] (by simp)
  have hl1 := putN_len64 (n := first.toNat) (by omega)
  have hP2 := put1_spec l.length (by omega) (putN first.toNat) (by omega)
  have hl2 := putN_len64 (n := l.length) (by omega)
  have hp := putN_pos first.toNat
  have hne : ¬ (putN first.toNat ++ putN l.length = []) := by simp [hp]
  have e1 : IntKind.wrap .u64 first = first := by simp [IntKind.wrap, IntKind.bits, IntKind.signed]; omega
  have e2 := wrap_u64 (n := l.length) (by omega)
  have e3 : ((first.toNat : Nat) : Int) = first := by omega
  rw [e3] at hP1
  unfold inH at hP1 hP2
  rw [List.nil_append, if_pos rfl, if_neg hp] at hP1
  rw [if_neg hp, if_neg hne] at hP2
  have hil := inside_len h1 h3 hN
  have hib := bytes_byte (numsN first l) fun n hn => by have := nums_lt h1 h3 hN n hn; omega
  have hlp := bput_loop l h3 hN nl fu [.code (.seq (.reg [⟨none, some 49, .load false 1 (.t 5)⟩, ⟨none, some 50, .len (.t 49)⟩, ⟨none, some 51, .toInt .u64 (.t 50)⟩, ⟨none, some 52, .call 44 [(.t 51)]⟩, ⟨none, some 53, .load false 1 (.t 5)⟩, ⟨none, some 54, .append true 1 1 (.t 52) (.t 53)⟩, ⟨none, some 55, .call 45 [(.t 54)]⟩, ⟨none, some 2, .copy (.t 55)⟩, ⟨none, some 3, .copy (.c (.lit (.int .i64 0)))⟩] [(4, 3)] []) .ret)]
    (fun I => some (.tup [.own 0 (sealB (putN I.length ++ I)).length 1 0 (sealB (putN I.length ++ I)).length, .lit (.int .i64 0)], [.arr true false false 1 ((sealB (putN I.length ++ I)).map encB)])) ?_
    l.length 0 (putN first.toNat ++ putN l.length) 4294967295 (by omega) hne (by simp; omega) (by
      intro c hc
      rcases List.mem_append.1 hc with hc | hc
      · exact putN_byte 9 _ (by omega) c hc
      · exact putN_byte 9 _ (by omega) c hc)
  · rw [show putN first.toNat ++ putN l.length ++ bytesN (runN 4294967295 (l.drop 0)) = insideB first l from by simp [insideB, bytesN, numsN]] at hlp
    rw [show sealB (putN (insideB first l).length ++ insideB first l) = wholeB (numsN first l) from rfl] at hlp
    generalize putN first.toNat = A1 at hP1 hP2 hlp hp hne
    generalize A1 ++ putN l.length = A2 at hP2 hlp
    simp [encBlk] at hC
    simp only [nilS] at hP1
    simp [go_sem, ir16, encBlk, hC, e1, e2, hP1, hP2, purse_eq]
    rw [run_inLoop']
    simp [go_sem, purse_eq]
    simpa using hlp
  · intro I τ hI hIl hIb t5
    have hV := vput_spec I.length (by omega)
    have hq := wrap_u64 (n := I.length) (by omega)
    have hlV := putN_len64 (n := I.length) (by omega)
    have hr := rowsB I
    have hpb := putN_byte 9 I.length (by omega)
    have hpp := putN_pos I.length
    have hS := seal_spec (putN I.length ++ I) (by
      intro c hc
      rcases List.mem_append.1 hc with hc | hc
      · exact hpb c hc
      · exact hIb c hc) false (by simp; omega)
    generalize putN I.length = A at hV hlV hpp hS
    generalize sealB (A ++ I) = S at hS
    have hb : ¬ (70368744177664 < A.length + I.length) := by omega
    simp at hS
    simp [go_sem, t5, hq, hV, hr, hb, hI, hS, purse_eq]
end Go.AM.R1
open Go Go.AM
namespace Go.AM.R1

theorem bput_bad (first : Int) (hf : -9223372036854775808 ≤ first ∧ first ≤ 9223372036854775807) (l : List Run) (hl : l.length ≤ 1048576) (hl2 : ∀ r ∈ l, r.Ok) (nl fu : Bool) (hc : chkB first l ≠ 0) :
    call E (.func (.func 16) [] []) [.agg (encBlk first l nl fu)] [] = some (.tup [nilS, .lit (.int .i64 (chkB first l))], []) := by
  rw [call_func E E16]
  have hC := bcheck_spec first hf l hl hl2 nl fu
  simp [encBlk] at hC
  simp [go_sem, ir16, encBlk, hC, hc]
def encU (n : Nat) : List AVal := [.lit (.int .u64 n)]
theorem rowsU (l : List Nat) : rowsOk 1 (l.map encU) = true := rowsOk_map (f := encU) (fun _ => rfl) l
theorem rinside_loop (first : Int) (l : List Run) (hl : l.length ≤ 4096) (hN : ∀ r ∈ l, 1 ≤ r.N ∧ r.N ≤ 1073741824) (nl fu : Bool) (k : List Item) (R : List Nat → Option (AVal × Heap))
    (hk : ∀ out τ, lk 3 τ = .own 1 out.length 1 0 out.length → finK 0 [.tmp 2] (run E 0 k τ [.box (encBlk first l nl fu), .arr true false (decide (l.length = 0)) 1 (out.map encU)]) = R out) :
    ∀ (d i : Nat) (out : List Nat) (last : Int), i + d = l.length → out.length ≤ 2 + 2 * i →
   finK 0 [.tmp 2] (run E 0 (.code L47_0 :: .inLoop [1, 3, 4, 5] L47_0 :: .inBlock 0 :: k)
     [(1, .ptr 0 0), (3, .own 1 out.length 1 0 out.length), (4, .lit (.int .u32 last)), (5, .lit (.int .i64 i))]
     [.box (encBlk first l nl fu), .arr true false (decide (i = 0)) 1 (out.map encU)]) = R (out ++ runN last (l.drop i)) := by
  intro d
  induction d with
  | zero =>
    intro i out last hi hl
    have : i = l.length := by omega
    subst this
    have hk' := hk out
    simp [encBlk] at hk'
    simp [go_sem, run_codeL E L47_0.eq_1, runN, encBlk]
    exact hk' _ rfl
  | succ d ih =>
    intro i out last hi hl
    have hlt : i < l.length := by omega
    have w2 := wrapIdx (i := i) (by omega)
    have hn := hN _ (List.getElem_mem hlt)
    have hx := ixor_range l[i].Drive last
    have e1 : IntKind.wrap .u64 l[i].N = l[i].N := by simp [IntKind.wrap, IntKind.bits, IntKind.signed]; omega
    have e2 : IntKind.wrap .u64 (ixor .u32 l[i].Drive last) = ixor .u32 l[i].Drive last := by simp [IntKind.wrap, IntKind.bits, IntKind.signed]; omega
    have e3 : ((l[i].N.toNat : Nat) : Int) = l[i].N := by omega
    have e4 : (((ixor .u32 l[i].Drive last).toNat : Nat) : Int) = ixor .u32 l[i].Drive last := by omega
    have hb : ¬ (70368744177664 < (out.length + 2) * 8) := by omega
    have ih2 := ih (i + 1) (out ++ [l[i].N.toNat, (ixor .u32 l[i].Drive last).toNat]) l[i].Drive (by omega) (by simp; omega)
    rw [List.drop_eq_getElem_cons hlt, runN]
    simp only [List.length_append, List.length_cons, List.length_nil, List.map_append, List.map_cons, List.map_nil, encU, encBlk, e3, e4, List.append_assoc, List.cons_append, List.nil_append] at ih2
    simp at ih2
    simp [go_sem, run_codeL E L47_0.eq_1, hlt, List.getElem?_eq_getElem hlt, encRun, encBlk, w2, e1, e2, hb, purse_eq]
    rw [run_inLoop']
    simp [go_sem, purse_eq]
    exact ih2
theorem rinside_spec (first : Int) (hf : 0 ≤ first ∧ first ≤ 1073741824) (l : List Run) (hl : l.length ≤ 4096) (hne : l ≠ []) (hN : ∀ r ∈ l, 1 ≤ r.N ∧ r.N ≤ 1073741824) (nl fu : Bool) :
    call E (.func (.func 47) [] []) [.agg (encBlk first l nl fu)] []
      = some (.own 0 (numsN first l).length 1 0 (numsN first l).length, [.arr true false false 1 ((numsN first l).map encU)]) := by
  rw [call_func E E47]
  have e1 : IntKind.wrap .u64 first = first := by simp [IntKind.wrap, IntKind.bits, IntKind.signed]; omega
  have e2 := wrap_u64 (n := l.length) (by omega)
  have e3 : ((first.toNat : Nat) : Int) = first := by omega
  have hlp := rinside_loop first l hl hN nl fu [.code (.seq (.reg [⟨none, some 46, .copy (.t 3)⟩, ⟨none, some 2, .copy (.t 46)⟩] [] []) .ret)]
    (fun out => some (.own 0 out.length 1 0 out.length, [.arr true false false 1 (out.map encU)])) ?_ l.length 0 [first.toNat, l.length] 4294967295 (by omega) (by simp)
  · rw [show [first.toNat, l.length] ++ runN 4294967295 (l.drop 0) = numsN first l from rfl] at hlp
    have hm : max first 0 = first := by omega
    simp [encU, encBlk, hm] at hlp
    simp [go_sem, ir47, encBlk, e1, e2, purse_eq, List.replicate]
    rw [run_inLoop']
    simp [go_sem, purse_eq]
    simpa [encU] using hlp
  · intro out τ t3
    have hl0 : ¬ l.length = 0 := by simpa using hne
    simp [go_sem, t3, encBlk, purse_eq, hl0, hne]
theorem rbytes_loop (l : List Nat) (hl : l.length ≤ 10000) (hN : ∀ n ∈ l, n < 18446744073709551616) (nl fu : Bool) (k : List Item) (R : List Nat → Option (AVal × Heap))
    (hk : ∀ out τ, out.length ≤ 100000 → (∀ c ∈ out, c < 256) → lk 3 τ = .own 0 out.length 1 0 out.length → finK 0 [.tmp 2] (run E 0 k τ [.arr true false out.isEmpty 1 (out.map encB)]) = R out) :
    ∀ (d i : Nat) (out : List Nat), i + d = l.length → out.length ≤ 10 * i → (∀ c ∈ out, c < 256) →
   finK 0 [.tmp 2] (run E 0 (.code L46_0 :: .inLoop [0, 3, 4] L46_0 :: .inBlock 0 :: k)
     [(0, .imm nl fu true (l.map encU)), (3, .own 0 out.length 1 0 out.length), (4, .lit (.int .i64 i))]
     [.arr true false out.isEmpty 1 (out.map encB)]) = R (out ++ bytesN (l.drop i)) := by
  intro d
  induction d with
  | zero =>
    intro i out hi hl hb
    have : i = l.length := by omega
    subst this
    simp [go_sem, run_codeL E L46_0.eq_1, bytesN]
    exact hk out _ (by omega) hb rfl
  | succ d ih =>
    intro i out hi hl hby
    have hlt : i < l.length := by omega
    have w2 := wrapIdx (i := i) (by omega)
    have hn := hN _ (List.getElem_mem hlt)
    have hP := rput_spec l[i] hn
    have hp := putN_pos l[i]
    have hr := rowsB (putN l[i])
    have hl1 := putN_len64 hn
    have hb1 := putN_byte 9 l[i] (by omega)
    have ih2 := ih (i + 1) (out ++ putN l[i]) (by omega) (by simp; omega) (by
      intro c hc
      rcases List.mem_append.1 hc with hc | hc
      · exact hby c hc
      · exact hb1 c hc)
    rw [List.drop_eq_getElem_cons hlt, show out ++ bytesN (l[i] :: l.drop (i + 1)) = out ++ putN l[i] ++ bytesN (l.drop (i + 1)) from by rw [bytesN, List.flatMap_cons, ← List.append_assoc]; rfl]
    generalize putN l[i] = B at *
    have hb : ¬ (70368744177664 < out.length + B.length) := by omega
    have hie : (out ++ B).isEmpty = false := by cases B with
      | nil => exact absurd rfl hp
      | cons x xs => exact isEmpty_snoc _ _ _
    simp [hie] at ih2
    simp [go_sem, run_codeL E L46_0.eq_1, hlt, List.getElem?_eq_getElem hlt, encU, w2, hP, hr, hp, hb, purse_eq]
    rw [run_inLoop']
    simp [go_sem, purse_eq]
    simpa [encU] using ih2
theorem rbytes_spec (l : List Nat) (hl : l.length ≤ 10000) (hN : ∀ n ∈ l, n < 18446744073709551616) (nl fu : Bool) :
    call E (.func (.func 46) [] []) [.imm nl fu true (l.map encU)] []
      = some (.own 0 (wholeB l).length 1 0 (wholeB l).length, [.arr true false false 1 ((wholeB l).map encB)]) := by
  rw [call_func E E46]
  have hlp := rbytes_loop l hl hN nl fu [.code (.seq (.reg [⟨none, some 19, .copy (.t 3)⟩, ⟨none, some 20, .len (.t 19)⟩, ⟨none, some 21, .toInt .u64 (.t 20)⟩, ⟨none, some 22, .call 67 [(.t 21)]⟩, ⟨none, some 23, .copy (.t 3)⟩, ⟨none, some 24, .append true 1 1 (.t 22) (.t 23)⟩, ⟨none, some 25, .call 68 [(.t 24)]⟩, ⟨none, some 2, .copy (.t 25)⟩] [] []) .ret)]
    (fun I => some (.own 0 (sealB (putN I.length ++ I)).length 1 0 (sealB (putN I.length ++ I)).length, [.arr true false false 1 ((sealB (putN I.length ++ I)).map encB)])) ?_ l.length 0 [] (by omega) (by simp) (by simp)
  · rw [List.nil_append, show l.drop 0 = l from rfl, show sealB (putN (bytesN l).length ++ bytesN l) = wholeB l from rfl] at hlp
    simp at hlp
    simp [go_sem, ir46, purse_eq]
    rw [run_inLoop']
    simp [go_sem, purse_eq]
    exact hlp
  · intro I τ hIl hIb t3
    have hV := rput_spec I.length (by omega)
    have hq := wrap_u64 (n := I.length) (by omega)
    have hlV := putN_len64 (n := I.length) (by omega)
    have hr := rowsB I
    have hpb := putN_byte 9 I.length (by omega)
    have hS := rseal_spec (putN I.length ++ I) (by
      intro c hc
      rcases List.mem_append.1 hc with hc | hc
      · exact hpb c hc
      · exact hIb c hc) false false (by simp; omega)
    generalize putN I.length = A at hV hlV hS
    generalize sealB (A ++ I) = S at hS
    have hb : ¬ (70368744177664 < A.length + I.length) := by omega
    by_cases hI : I = []
    · subst hI
      simp at hS hV
      simp [go_sem, t3, hV, hr, hS, purse_eq, show IntKind.wrap .u64 0 = 0 from rfl]
    · simp at hS
      simp [go_sem, t3, hq, hV, hr, hb, hI, hS, purse_eq]
theorem rput15_spec (first : Int) (l : List Run) (nl fu : Bool) (hc : chkB first l = 0) :
    call E (.func (.func 20) [] []) [.agg (encBlk first l nl fu)] []
      = some (.own 0 (wholeB (numsN first l)).length 1 0 (wholeB (numsN first l)).length, [.arr true false false 1 ((wholeB (numsN first l)).map encB)]) := by
  rw [call_func E E20]
  obtain ⟨h1, h2, h3, h4, h5, h6⟩ := chkB_ok hc
  obtain ⟨hN, -, -⟩ := chk_right h4
  have hI := rinside_spec first h1 l h3 h2 hN nl fu
  have e : (numsN first l).length = 2 * l.length + 2 := by simp only [numsN, List.length_cons, runN_length]
  have hB := rbytes_spec (numsN first l) (by omega) (fun n hn => by have := nums_lt h1 h3 hN n hn; omega) false false
  generalize numsN first l = M at hI hB
  simp [encBlk] at hI
  simp [go_sem, ir20, encBlk, hI, hB, purse_eq]
theorem awake15 : call E (.func (.func 15) [] []) [] [] = some (.lit (.bool true), []) :=
  (call_iff E).2 ⟨400, by kernel_rfl⟩
theorem tail_length (s : Nat) : (tailN s).length = 4 := rfl
theorem whole_length (l : List Nat) : (wholeB l).length = (putN (bytesN l).length).length + (bytesN l).length + 4 := by
  simp [wholeB, sealB, tail_length]; omega
end Go.AM.R1
open Go Go.AM
namespace Go.AM.R1

/-! ### Numbers, got -/
def getGo (i acc : Nat) : List Nat → Nat × Nat × Int
  | [] => (0, 0, 13)
  | x :: r => if i = 9 ∧ 1 < x then (0, 0, 10) else if x = 0 ∧ 0 < i then (0, 0, 11) else if x < 128 then (acc + x % 128 * 128 ^ i, i + 1, 0) else getGo (i + 1) (acc + x % 128 * 128 ^ i) r
def getN (b : List Nat) : Nat × Nat × Int := getGo 0 0 b
theorem iand_127 (x : Nat) (h : x < 256) : iand .u8 (x : Int) 127 = ((x % 128 : Nat) : Int) := by
  have e : (BitVec.ofInt 8 (x : Int) &&& BitVec.ofInt 8 127).toNat = x % 128 := by
    rw [BitVec.toNat_and, BitVec.toNat_ofInt, BitVec.toNat_ofInt]
    have h1 : ((x : Int) % ((2 ^ 8 : Nat) : Int)).toNat = x := by simp; omega
    have h2 : ((127 : Int) % ((2 ^ 8 : Nat) : Int)).toNat = 127 := by decide
    rw [h1, h2, show 127 = 2 ^ 7 - 1 from rfl, Nat.and_two_pow_sub_one_eq_mod]
  unfold iand
  show IntKind.wrap .u8 ((BitVec.ofInt 8 (x : Int) &&& BitVec.ofInt 8 127).toNat : Int) = _
  rw [e, wrap8]
  omega
theorem ior_add {i acc m : Nat} (h : acc < 2 ^ i) (h2 : acc + m * 2 ^ i < 18446744073709551616) : ior .u64 (acc : Int) ((m * 2 ^ i : Nat) : Int) = ((acc + m * 2 ^ i : Nat) : Int) := by
  have e : (BitVec.ofInt 64 (acc : Int) ||| BitVec.ofInt 64 ((m * 2 ^ i : Nat) : Int)).toNat = acc + m * 2 ^ i := by
    rw [BitVec.toNat_or, BitVec.ofInt_natCast, BitVec.ofInt_natCast, BitVec.toNat_ofNat, BitVec.toNat_ofNat, Nat.mod_eq_of_lt (by omega), Nat.mod_eq_of_lt (by omega)]
    have := Nat.shiftLeft_add_eq_or_of_lt h m
    rw [Nat.shiftLeft_eq] at this
    rw [Nat.or_comm, ← this]; omega
  unfold ior
  show IntKind.wrap .u64 ((BitVec.ofInt 64 (acc : Int) ||| BitVec.ofInt 64 ((m * 2 ^ i : Nat) : Int)).toNat : Int) = _
  rw [e, wrap_u64 h2]
theorem pow128 (i : Nat) : (128 : Nat) ^ i = 2 ^ (7 * i) := by rw [Nat.pow_mul]
theorem get_bound {i acc x : Nat} (h9 : i ≤ 9) (ha : acc < 128 ^ i) (hx : i = 9 → x ≤ 1) : acc + x % 128 * 128 ^ i < 18446744073709551616 := by
  have hm : x % 128 ≤ 127 := by omega
  rcases Nat.lt_or_ge i 9 with h | h
  · have h2 : x % 128 * 128 ^ i ≤ 127 * 128 ^ i := Nat.mul_le_mul_right _ hm
    have h3 : 128 ^ i ≤ 128 ^ 8 := Nat.pow_le_pow_right (by omega) (by omega)
    omega
  · have : i = 9 := by omega
    subst this
    have h2 : x % 128 * 128 ^ 9 ≤ 1 * 128 ^ 9 := Nat.mul_le_mul_right _ (by have := hx rfl; omega)
    omega
theorem get_next {i acc x : Nat} (ha : acc < 128 ^ i) : acc + x % 128 * 128 ^ i < 128 ^ (i + 1) := by
  have hm : x % 128 ≤ 127 := by omega
  have h2 : x % 128 * 128 ^ i ≤ 127 * 128 ^ i := Nat.mul_le_mul_right _ hm
  rw [Nat.pow_succ]
  omega
theorem vget_loop (b : List Nat) (hb : ∀ c ∈ b, c < 256) (hl : b.length ≤ 1099511627775) (nl fu : Bool) (k : List Item) (R : Nat × Nat × Int → Option (AVal × Heap))
    (hk : ∀ (n kk : Nat) (e : Int) τ, lk 5 τ = .lit (.int .u64 (n : Nat)) → lk 6 τ = .lit (.int .i64 e) → lk 7 τ = .lit (.int .i64 (kk : Nat)) → finK 0 [.tmp 2, .tmp 3, .tmp 4] (run E 0 k τ []) = R (if e = 0 then (n, kk, 0) else (0, 0, e))) :
    ∀ (d i acc : Nat), i + d = b.length → i ≤ 9 → acc < 128 ^ i →
   finK 0 [.tmp 2, .tmp 3, .tmp 4] (run E 0 (.code L57_0 :: .inLoop [5, 6, 7, 10, 11, 12] L57_0 :: .inBlock 0 :: k)
     [(5, .lit (.int .u64 acc)), (6, .lit (.int .i64 13)), (7, .lit (.int .i64 0)), (10, .imm nl fu true (b.map encB)), (11, .lit (.int .i64 b.length)), (12, .lit (.int .i64 i))] []) = R (getGo i acc (b.drop i)) := by
  intro d
  induction d with
  | zero =>
    intro i acc hi h9 ha
    have : i = b.length := by omega
    subst this
    simp [go_sem, run_codeL E L57_0.eq_1, getGo]
    exact hk acc 0 13 _ rfl rfl rfl
  | succ d ih =>
    intro i acc hi h9 ha
    have hlt : i < b.length := by omega
    have hx := hb _ (List.getElem_mem hlt)
    have w2 := wrapIdx (i := i) (by omega)
    rw [List.drop_eq_getElem_cons hlt, getGo]
    by_cases c1 : i = 9 ∧ 1 < b[i]
    · rw [if_pos c1]
      obtain ⟨rfl, c1b⟩ := c1
      have c1c : (1 : Int) < (b[9] : Nat) := by omega
      have hlt' : (9 : Int) < b.length := by omega
      simp [go_sem, run_codeL E L57_0.eq_1, hlt, hlt', List.getElem?_eq_getElem hlt, encB, c1c]
      have hk' := hk acc 0 10
      simp at hk'
      exact hk' _ rfl rfl rfl
    · rw [if_neg c1]
      have c1' : ¬ ((i : Int) = 9 ∧ (1 : Int) < (b[i] : Nat)) := by omega
      by_cases c2 : b[i] = 0 ∧ 0 < i
      · rw [if_pos c2]
        obtain ⟨c2a, c2b⟩ := c2
        have hk' := hk acc 0 11
        simp at hk'
        by_cases c3 : i = 9
        · subst c3
          have hlt' : (9 : Int) < b.length := by omega
          simp [go_sem, run_codeL E L57_0.eq_1, hlt, hlt', List.getElem?_eq_getElem hlt, encB, c2a]
          exact hk' _ rfl rfl rfl
        · have c3' : ¬ (i : Int) = 9 := by omega
          simp [go_sem, run_codeL E L57_0.eq_1, hlt, List.getElem?_eq_getElem hlt, encB, c2a, c2b, c3']
          exact hk' _ rfl rfl rfl
      · rw [if_neg c2]
        have hbd := get_bound (x := b[i]) h9 ha (by omega)
        have hnx := get_next (x := b[i]) ha
        have e1 := iand_127 b[i] hx
        have e2 : IntKind.wrap .u64 ((b[i] % 128 : Nat) : Int) = ((b[i] % 128 : Nat) : Int) := wrap_u64 (by omega)
        have e3 : IntKind.wrap .i64 (7 * (i : Int)) = ((7 * i : Nat) : Int) := by rw [wrap64 (by omega) (by omega)]; omega
        have e4 : min (7 * i) 64 = 7 * i := by omega
        rw [pow128] at hbd hnx ha ⊢
        have e5 : IntKind.wrap .u64 (((b[i] % 128 : Nat) : Int) * 2 ^ (7 * i)) = ((b[i] % 128 * 2 ^ (7 * i) : Nat) : Int) := by
          rw [show ((b[i] % 128 : Nat) : Int) * 2 ^ (7 * i) = ((b[i] % 128 * 2 ^ (7 * i) : Nat) : Int) from by simp, wrap_u64 (by omega)]
        have e6 := ior_add (m := b[i] % 128) ha hbd
        have hsh : ¬ ((7 * i : Nat) : Int) < 0 := by omega
        rw [show ((7 * i : Nat) : Int) = 7 * (i : Int) from by omega] at e3 hsh
        have e7 : (7 * (i : Int)).toNat = 7 * i := by omega
        by_cases c3 : i = 9
        · subst c3
          have hx1 : b[9] = 1 := by omega
          have hlt' : (9 : Int) < b.length := by omega
          rw [hx1] at hbd e6 ⊢
          have f1 : iand .u8 1 127 = 1 := by decide
          have f2 : IntKind.wrap .u64 1 = 1 := by decide
          have f3 : IntKind.wrap .i64 63 = 63 := by decide
          have f4 : IntKind.wrap .u64 9223372036854775808 = 9223372036854775808 := by decide
          have f5 : IntKind.wrap .i64 10 = 10 := by decide
          have hk' := hk (acc + 9223372036854775808) 10 0
          simp at e6 hk'
          simp [go_sem, run_codeL E L57_0.eq_1, hlt, hlt', List.getElem?_eq_getElem hlt, encB, hx1, f1, f2, f3, f4, f5, e6]
          exact hk' _ rfl rfl rfl
        · have c3' : ¬ (i : Int) = 9 := by omega
          by_cases c4 : b[i] = 0
          · have hi0 : i = 0 := by omega
            subst hi0
            have ha0 : acc = 0 := by simp at ha; omega
            subst ha0
            have hlt' : (0 : Int) < b.length := by omega
            have f1 : iand .u8 0 127 = 0 := by decide
            have f2 : IntKind.wrap .u64 0 = 0 := by decide
            have f3 : IntKind.wrap .i64 0 = 0 := by decide
            have f5 : IntKind.wrap .i64 1 = 1 := by decide
            have f6 : ior .u64 0 0 = 0 := by decide
            have hk' := hk 0 1 0
            simp at hk'
            rw [c4]
            simp [go_sem, run_codeL E L57_0.eq_1, hlt, hlt', List.getElem?_eq_getElem hlt, encB, c4, f1, f2, f3, f5, f6]
            exact hk' _ rfl rfl rfl
          · have c4' : ¬ ((b[i] : Nat) : Int) = 0 := by omega
            by_cases c5 : b[i] < 128
            · rw [if_pos c5]
              have c5' : ((b[i] : Nat) : Int) < 128 := by omega
              simp only [Int.natCast_emod] at e1 e2 e5 e6
              simp at e1 e2 e3 e5 e6 w2
              simp [go_sem, run_codeL E L57_0.eq_1, hlt, List.getElem?_eq_getElem hlt, encB, c3', c4, c4', c5, c5', w2, e1, e2, e3, e4, e5, e6, e7, hsh]
              have hk' := hk (acc + b[i] % 128 * 2 ^ (7 * i)) (i + 1) 0
              simp at hk'
              exact hk' _ rfl rfl rfl
            · rw [if_neg c5]
              have c5' : ¬ ((b[i] : Nat) : Int) < 128 := by omega
              have ih2 := ih (i + 1) (acc + b[i] % 128 * 2 ^ (7 * i)) (by omega) (by omega) (by rw [pow128] at hnx ⊢; exact hnx)
              simp only [Int.natCast_emod] at e1 e2 e5 e6
              simp at e1 e2 e3 e5 e6 w2 ih2
              simp [go_sem, run_codeL E L57_0.eq_1, hlt, List.getElem?_eq_getElem hlt, encB, c3', c4, c4', c5, c5', w2, e1, e2, e3, e4, e5, e6, e7, hsh]
              rw [run_inLoop']
              simp [go_sem, purse_eq]
              simpa [encB] using ih2

theorem vget_spec (b : List Nat) (hb : ∀ c ∈ b, c < 256) (hl : b.length ≤ 1099511627775) (nl fu : Bool) :
    call E (.func (.func 57) [] []) [.imm nl fu true (b.map encB)] [] = some (.tup [.lit (.int .u64 (getN b).1), .lit (.int .i64 (getN b).2.1), .lit (.int .i64 (getN b).2.2)], []) := by
  rw [call_func E E57]
  have h := vget_loop b hb hl nl fu [.code (.seq (.seq (.reg [⟨none, some 44, .copy (.t 6)⟩, ⟨none, some 45, .bin .neq (.t 44) (.c (.lit (.int .i64 0)))⟩] [] []) (.cond (.t 45) (.seq (.reg [⟨none, some 46, .copy (.t 6)⟩, ⟨none, some 2, .copy (.c (.lit (.int .u64 0)))⟩, ⟨none, some 3, .copy (.c (.lit (.int .i64 0)))⟩, ⟨none, some 4, .copy (.t 46)⟩] [] []) .ret) .skip)) (.seq (.reg [⟨none, some 47, .copy (.t 5)⟩, ⟨none, some 48, .copy (.t 7)⟩, ⟨none, some 2, .copy (.t 47)⟩, ⟨none, some 3, .copy (.t 48)⟩, ⟨none, some 4, .copy (.c (.lit (.int .i64 0)))⟩] [] []) .ret)), .inScope]
    (fun r => some (.tup [.lit (.int .u64 r.1), .lit (.int .i64 r.2.1), .lit (.int .i64 r.2.2)], [])) ?_ b.length 0 0 (by omega) (by omega) (by simp)
  · simp [go_sem, ir57]
    rw [run_inLoop']
    simp [go_sem, purse_eq]
    simpa [getN] using h
  · intro n kk e τ t5 t6 t7
    by_cases he : e = 0
    · subst he
      simp [go_sem, t5, t6, t7]
    · simp [go_sem, t5, t6, t7, he]
end Go.AM.R1
open Go Go.AM
namespace Go.AM.R1

theorem tmod128' (x : Nat) : ((x : Nat) : Int).tmod 128 = ((x % 128 : Nat) : Int) := by rw [Int.tmod_eq_emod_of_nonneg (by omega)]; omega
theorem rget_loop (b : List Nat) (hb : ∀ c ∈ b, c < 256) (hl : b.length ≤ 1099511627775) (nl fu : Bool) (k : List Item) (R : Nat × Nat × Int → Option (AVal × Heap))
    (hR : ∀ r, R r = some (.tup [.lit (.int .u64 r.1), .lit (.int .i64 r.2.1), .lit (.int .i64 r.2.2)], []))
    (hk : ∀ τ, finK 0 [.tmp 2, .tmp 3, .tmp 4] (run E 0 k τ []) = R (0, 0, 13)) :
    ∀ (d i acc : Nat), i + d = b.length → i ≤ 9 → acc < 128 ^ i →
   finK 0 [.tmp 2, .tmp 3, .tmp 4] (run E 0 (.code L61_0 :: .inLoop [0, 5, 6, 7] L61_0 :: .inBlock 0 :: k)
     [(0, .imm nl fu true (b.map encB)), (5, .lit (.int .u64 acc)), (6, .lit (.int .u64 ((128 ^ i : Nat) : Int))), (7, .lit (.int .i64 i))] []) = R (getGo i acc (b.drop i)) := by
  intro d
  induction d with
  | zero =>
    intro i acc hi h9 ha
    have : i = b.length := by omega
    subst this
    simp [go_sem, run_codeL E L61_0.eq_1, getGo]
    exact hk _
  | succ d ih =>
    intro i acc hi h9 ha
    have hlt : i < b.length := by omega
    have hx := hb _ (List.getElem_mem hlt)
    have w2 := wrapIdx (i := i) (by omega)
    rw [List.drop_eq_getElem_cons hlt, getGo]
    by_cases c1 : i = 9 ∧ 1 < b[i]
    · rw [if_pos c1, hR]
      obtain ⟨rfl, c1b⟩ := c1
      have c1c : (1 : Int) < (b[9] : Nat) := by omega
      have hlt' : (9 : Int) < b.length := by omega
      simp [go_sem, run_codeL E L61_0.eq_1, hlt, hlt', List.getElem?_eq_getElem hlt, encB, c1c]
    · rw [if_neg c1]
      by_cases c2 : b[i] = 0 ∧ 0 < i
      · rw [if_pos c2, hR]
        obtain ⟨c2a, c2b⟩ := c2
        by_cases c3 : i = 9
        · subst c3
          have hlt' : (9 : Int) < b.length := by omega
          simp [go_sem, run_codeL E L61_0.eq_1, hlt, hlt', List.getElem?_eq_getElem hlt, encB, c2a]
        · have c3' : ¬ (i : Int) = 9 := by omega
          simp [go_sem, run_codeL E L61_0.eq_1, hlt, List.getElem?_eq_getElem hlt, encB, c2a, c2b, c3']
      · rw [if_neg c2]
        have hbd := get_bound (x := b[i]) h9 ha (by omega)
        have hnx := get_next (x := b[i]) ha
        have e1 := tmod128' b[i]
        have e2 : IntKind.wrap .u64 ((b[i] % 128 : Nat) : Int) = ((b[i] % 128 : Nat) : Int) := wrap_u64 (by omega)
        have e3 : IntKind.wrap .u64 (((128 ^ i : Nat) : Int) * ((b[i] % 128 : Nat) : Int)) = ((b[i] % 128 * 128 ^ i : Nat) : Int) := by
          rw [show ((128 ^ i : Nat) : Int) * ((b[i] % 128 : Nat) : Int) = ((b[i] % 128 * 128 ^ i : Nat) : Int) from by rw [Nat.mul_comm]; simp, wrap_u64 (by omega)]
        have e4 : IntKind.wrap .u64 ((acc : Int) + ((b[i] % 128 * 128 ^ i : Nat) : Int)) = ((acc + b[i] % 128 * 128 ^ i : Nat) : Int) := by
          rw [show (acc : Int) + ((b[i] % 128 * 128 ^ i : Nat) : Int) = ((acc + b[i] % 128 * 128 ^ i : Nat) : Int) from by omega, wrap_u64 (by omega)]
        by_cases c3 : i = 9
        · subst c3
          have hx1 : b[9] = 1 := by omega
          have hlt' : (9 : Int) < b.length := by omega
          rw [hx1] at hbd e3 e4 ⊢
          have f2 : IntKind.wrap .u64 1 = 1 := by decide
          have f3 : IntKind.wrap .u64 1180591620717411303424 = 0 := by decide
          have f5 : IntKind.wrap .i64 10 = 10 := by decide
          have f6 : IntKind.wrap .u64 9223372036854775808 = 9223372036854775808 := by decide
          simp at e3 e4
          simp [hR, go_sem, run_codeL E L61_0.eq_1, hlt, hlt', List.getElem?_eq_getElem hlt, encB, hx1, f2, f3, f5, f6, e3, e4, show (1 : Int).tmod 128 = 1 from rfl]
        · have c3' : ¬ (i : Int) = 9 := by omega
          have hp : (128 : Nat) ^ (i + 1) ≤ 128 ^ 9 := Nat.pow_le_pow_right (by omega) (by omega)
          have e5 : IntKind.wrap .u64 (((128 ^ i : Nat) : Int) * 128) = ((128 ^ (i + 1) : Nat) : Int) := by
            rw [show ((128 ^ i : Nat) : Int) * 128 = ((128 ^ (i + 1) : Nat) : Int) from by rw [Nat.pow_succ]; simp, wrap_u64 (by omega)]
          by_cases c5 : b[i] < 128
          · rw [if_pos c5]
            have c5' : ((b[i] : Nat) : Int) < 128 := by omega
            by_cases c4 : b[i] = 0
            · have hi0 : i = 0 := by omega
              subst hi0
              have ha0 : acc = 0 := by simp at ha; omega
              subst ha0
              rw [c4] at e2 e3 e4 ⊢
              have hlt' : (0 : Int) < b.length := by omega
              have f5 : IntKind.wrap .i64 1 = 1 := by decide
              have f2 : IntKind.wrap .u64 128 = 128 := by decide
              simp at e2 e3 e4
              simp [hR, go_sem, run_codeL E L61_0.eq_1, hlt, hlt', List.getElem?_eq_getElem hlt, encB, c4, e2, e3, e4, f2, f5]
            · have c4' : ¬ ((b[i] : Nat) : Int) = 0 := by omega
              simp only [Int.natCast_emod] at e1 e2 e3 e4
              simp at e1 e2 e3 e4 e5 w2
              simp [hR, go_sem, run_codeL E L61_0.eq_1, hlt, List.getElem?_eq_getElem hlt, encB, c3', c4, c4', c5, c5', w2, e1, e2, e3, e4, e5]
          · rw [if_neg c5]
            have c5' : ¬ ((b[i] : Nat) : Int) < 128 := by omega
            have c4 : ¬ b[i] = 0 := by omega
            have c4' : ¬ ((b[i] : Nat) : Int) = 0 := by omega
            have ih2 := ih (i + 1) (acc + b[i] % 128 * 128 ^ i) (by omega) (by omega) hnx
            simp only [Int.natCast_emod] at e1 e2 e3 e4
            simp at e1 e2 e3 e4 e5 w2 ih2
            simp [go_sem, run_codeL E L61_0.eq_1, hlt, List.getElem?_eq_getElem hlt, encB, c3', c4, c4', c5, c5', w2, e1, e2, e3, e4, e5]
            rw [run_inLoop']
            simp [go_sem, purse_eq]
            simpa [encB] using ih2
theorem rget_spec (b : List Nat) (hb : ∀ c ∈ b, c < 256) (hl : b.length ≤ 1099511627775) (nl fu : Bool) :
    call E (.func (.func 61) [] []) [.imm nl fu true (b.map encB)] [] = some (.tup [.lit (.int .u64 (getN b).1), .lit (.int .i64 (getN b).2.1), .lit (.int .i64 (getN b).2.2)], []) := by
  rw [call_func E E61]
  have h := rget_loop b hb hl nl fu [.code (.seq (.reg [⟨none, some 2, .copy (.c (.lit (.int .u64 0)))⟩, ⟨none, some 3, .copy (.c (.lit (.int .i64 0)))⟩, ⟨none, some 4, .copy (.c (.lit (.int .i64 13)))⟩] [] []) .ret)]
    (fun r => some (.tup [.lit (.int .u64 r.1), .lit (.int .i64 r.2.1), .lit (.int .i64 r.2.2)], [])) (fun _ => rfl) (by intro τ; simp [go_sem]) b.length 0 0 (by omega) (by omega) (by simp)
  simp [go_sem, ir61]
  rw [run_inLoop']
  simp [go_sem, purse_eq]
  simpa [getN] using h
end Go.AM.R1
open Go Go.AM
namespace Go.AM.R1

/-! ### What is put is got, and what is got was put -/
theorem get_put_gen (r : List Nat) : ∀ (d m i acc : Nat), m < 128 ^ (d + 1) → i ≤ 9 → (i = 0 ∨ m ≠ 0) → acc + m * 128 ^ i < 18446744073709551616 → getGo i acc (putN m ++ r) = (acc + m * 128 ^ i, i + (putN m).length, 0)
  | 0, m, i, acc, hm, h9, h0, hb => by
    rw [putN_small (by omega)]
    simp only [List.cons_append, List.nil_append, getGo, List.length_cons, List.length_nil]
    have c1 : ¬ (i = 9 ∧ 1 < m) := by
      rintro ⟨rfl, h⟩
      have : 2 * 128 ^ 9 ≤ m * 128 ^ 9 := Nat.mul_le_mul_right _ h
      omega
    rw [if_neg c1, if_neg (by omega), if_pos (by omega), Nat.mod_eq_of_lt (by omega)]
  | d + 1, m, i, acc, hm, h9, h0, hb => by
    rcases Nat.lt_or_ge m 128 with h | h
    · exact get_put_gen r 0 m i acc (by omega) h9 h0 hb
    · rw [putN_big h]
      simp only [List.cons_append, getGo, List.length_cons]
      have hi : i < 9 := by
        rcases Nat.lt_or_ge i 9 with h2 | h2
        · exact h2
        · have : i = 9 := by omega
          subst this
          have : 128 * 128 ^ 9 ≤ m * 128 ^ 9 := Nat.mul_le_mul_right _ h
          omega
      rw [if_neg (by omega), if_neg (by omega), if_neg (by omega)]
      have e : acc + (m % 128 + 128) % 128 * 128 ^ i + m / 128 * 128 ^ (i + 1) = acc + m * 128 ^ i := by
        rw [Nat.pow_succ, show (m % 128 + 128) % 128 = m % 128 from by omega]
        have h1 : m / 128 * (128 ^ i * 128) = (128 * (m / 128)) * 128 ^ i := by
          rw [Nat.mul_comm (128 ^ i) 128, ← Nat.mul_assoc, Nat.mul_comm (m / 128) 128]
        rw [h1, Nat.add_assoc, ← Nat.add_mul, Nat.mod_add_div]
      have ih := get_put_gen r d (m / 128) (i + 1) (acc + (m % 128 + 128) % 128 * 128 ^ i) (by rw [Nat.pow_succ] at hm; omega) (by omega) (.inr (by omega)) (by rw [e]; exact hb)
      rw [ih, e]
      congr 2; omega
theorem get_put {n : Nat} (h : n < 18446744073709551616) (r : List Nat) : getN (putN n ++ r) = (n, (putN n).length, 0) := by
  have := get_put_gen r 9 n 0 0 (by omega) (by omega) (.inl rfl) (by simpa using h)
  simpa [getN] using this
theorem put_get_gen : ∀ (b : List Nat) (i acc n k : Nat), (∀ c ∈ b, c < 256) → i ≤ 9 → acc < 128 ^ i → getGo i acc b = (n, k, 0) →
    ∃ m, b = putN m ++ b.drop (k - i) ∧ n = acc + m * 128 ^ i ∧ k = i + (putN m).length ∧ (0 < i → m ≠ 0) ∧ n < 18446744073709551616
  | [], i, acc, n, k, _, _, _, h => by simp [getGo] at h
  | x :: r, i, acc, n, k, hb, h9, ha, h => by
    have hx := hb x (by simp)
    rw [getGo] at h
    split at h
    · simp at h
    · rename_i c1
      split at h
      · simp at h
      · rename_i c2
        have hbd := get_bound (x := x) h9 ha (by omega)
        split at h
        · rename_i c3
          simp only [Prod.mk.injEq] at h
          obtain ⟨h1, h2, -⟩ := h
          refine ⟨x, ?_, ?_, ?_, ?_, ?_⟩
          · rw [putN_small c3, ← h2, show i + 1 - i = 1 from by omega]; rfl
          · rw [← h1, Nat.mod_eq_of_lt c3]
          · rw [putN_small c3, ← h2]; rfl
          · omega
          · rw [← h1]; exact hbd
        · rename_i c3
          have hi : i < 9 := by omega
          obtain ⟨m, e1, e2, e3, e4, e5⟩ := put_get_gen r (i + 1) _ n k (fun c hc => hb c (by simp [hc])) (by omega) (get_next ha) h
          have hm := e4 (by omega)
          have hk : i + 1 ≤ k := by omega
          refine ⟨x % 128 + m * 128, ?_, ?_, ?_, ?_, e5⟩
          · rw [putN_big (by omega), show (x % 128 + m * 128) % 128 + 128 = x from by omega, show (x % 128 + m * 128) / 128 = m from by omega, show k - i = (k - (i + 1)) + 1 from by omega]
            simp only [List.cons_append, List.drop_succ_cons]
            rw [← e1]
          · rw [e2, Nat.pow_succ, Nat.add_mul, Nat.mul_assoc m 128, Nat.mul_comm 128 (128 ^ i)]; omega
          · rw [putN_big (by omega), show (x % 128 + m * 128) / 128 = m from by omega, List.length_cons]; omega
          · omega
theorem put_get {b : List Nat} {n k : Nat} (hb : ∀ c ∈ b, c < 256) (h : getN b = (n, k, 0)) : b = putN n ++ b.drop k ∧ k = (putN n).length ∧ n < 18446744073709551616 := by
  obtain ⟨m, e1, e2, e3, -, e5⟩ := put_get_gen b 0 0 n k hb (by omega) (by simp) h
  simp at e2 e3 e1
  subst e2
  exact ⟨by simpa using e1, e3, e5⟩
theorem getGo_bad : ∀ (b : List Nat) (i acc : Nat), (getGo i acc b).2.2 ≠ 0 → (getGo i acc b).1 = 0 ∧ (getGo i acc b).2.1 = 0
  | [], _, _, _ => ⟨rfl, rfl⟩
  | x :: r, i, acc, h => by
    rw [getGo] at h ⊢
    split
    · exact ⟨rfl, rfl⟩
    · rename_i c1
      rw [if_neg c1] at h
      split
      · exact ⟨rfl, rfl⟩
      · rename_i c2
        rw [if_neg c2] at h
        split
        · rename_i c3
          rw [if_pos c3] at h; simp at h
        · rename_i c3
          rw [if_neg c3] at h
          exact getGo_bad r _ _ h
/-- The numbers of bytes. -/
def allGo : Nat → List Nat → Nat → List Nat → List Nat × Nat × Int
  | 0, _, _, acc => (acc, 0, 0)
  | d + 1, b, p, acc => if b.length ≤ p then (acc, 0, 0) else if (getN (b.drop p)).2.2 = 0 then allGo d b (p + (getN (b.drop p)).2.1) (acc ++ [(getN (b.drop p)).1]) else ([], p, (getN (b.drop p)).2.2)
def allN (b : List Nat) : List Nat × Nat × Int := allGo b.length b 0 []
theorem get_ok {b : List Nat} (hb : ∀ c ∈ b, c < 256) (h : (getN b).2.2 = 0) : b = putN (getN b).1 ++ b.drop (getN b).2.1 ∧ (getN b).2.1 = (putN (getN b).1).length ∧ (getN b).1 < 18446744073709551616 :=
  put_get hb (by rw [← h])
theorem all_ok : ∀ (d : Nat) (b : List Nat) (p : Nat) (acc l : List Nat) (q : Nat), (∀ c ∈ b, c < 256) → b.length ≤ p + d → allGo d b p acc = (l, q, 0) → ∃ l', l = acc ++ l' ∧ b.drop p = bytesN l' ∧ (∀ n ∈ l', n < 18446744073709551616) ∧ q = 0
  | 0, b, p, acc, l, q, hb, hd, h => by
    simp only [allGo, Prod.mk.injEq] at h
    exact ⟨[], by simp [h.1], by rw [List.drop_eq_nil_of_le (by omega)]; rfl, by simp, h.2.1.symm⟩
  | d + 1, b, p, acc, l, q, hb, hd, h => by
    rw [allGo] at h
    split at h
    · simp only [Prod.mk.injEq] at h
      exact ⟨[], by simp [h.1], by rw [List.drop_eq_nil_of_le (by omega)]; rfl, by simp, h.2.1.symm⟩
    · split at h
      · rename_i h1 h2
        obtain ⟨e1, e2, e3⟩ := get_ok (fun c hc => hb c (List.mem_of_mem_drop hc)) h2
        have hpos := List.length_pos_iff.2 (putN_pos (getN (b.drop p)).1)
        obtain ⟨l', f1, f2, f3, f4⟩ := all_ok d b _ _ l q hb (by omega) h
        refine ⟨(getN (b.drop p)).1 :: l', by rw [f1]; simp, ?_, ?_, f4⟩
        · rw [show bytesN ((getN (b.drop p)).1 :: l') = putN (getN (b.drop p)).1 ++ bytesN l' from rfl, ← f2, ← List.drop_drop]
          exact e1
        · intro n hn
          rcases List.mem_cons.1 hn with rfl | hn
          · exact e3
          · exact f3 n hn
      · rename_i h1 h2
        simp only [Prod.mk.injEq] at h
        exact absurd h.2.2 h2
theorem all_bytes : ∀ (l' : List Nat) (d : Nat) (b : List Nat) (p : Nat) (acc : List Nat), b.drop p = bytesN l' → (∀ n ∈ l', n < 18446744073709551616) → b.length ≤ p + d → allGo d b p acc = (acc ++ l', 0, 0)
  | [], d, b, p, acc, h, _, hd => by
    have hl : b.length ≤ p := by
      have := congrArg List.length h
      simp [bytesN] at this; omega
    cases d with
    | zero => simp [allGo]
    | succ d => rw [allGo, if_pos hl]; simp
  | n :: l', d, b, p, acc, h, hn, hd => by
    have h' : b.drop p = putN n ++ bytesN l' := h
    have hg := get_put (hn n (by simp)) (bytesN l')
    rw [← h'] at hg
    have hpos := List.length_pos_iff.2 (putN_pos n)
    have hlen := congrArg List.length h'
    simp at hlen
    cases d with
    | zero => omega
    | succ d =>
      rw [allGo, if_neg (by omega), hg, if_pos rfl]
      rw [all_bytes l' d b (p + (putN n).length) (acc ++ [n]) (by rw [← List.drop_drop, h', List.drop_left]) (fun m hm => hn m (by simp [hm])) (by omega)]
      simp
theorem bytesN_inj {l m : List Nat} (hl : ∀ n ∈ l, n < 18446744073709551616) (hm : ∀ n ∈ m, n < 18446744073709551616) (h : bytesN l = bytesN m) : l = m := by
  have h1 := all_bytes l (bytesN l).length (bytesN l) 0 [] rfl hl (by omega)
  have h2 := all_bytes m (bytesN l).length (bytesN l) 0 [] (by simpa using h) hm (by omega)
  rw [h1] at h2
  simpa using h2
end Go.AM.R1
open Go Go.AM
namespace Go.AM.R1

theorem take_allB (b : List Nat) : List.take b.length (List.map encB b) = List.map encB b := List.take_of_length_le (by simp)
theorem bytesOf_map : ∀ l : List Nat, bytesOf (l.map encB) = some (l.map UInt8.ofNat)
  | [] => rfl
  | c :: l => by
    rw [List.map_cons, encB, bytesOf, bytesOf_map l]
    simp
theorem ofNat_inj {a b : Nat} (ha : a < 256) (hb : b < 256) (h : UInt8.ofNat a = UInt8.ofNat b) : a = b := by
  have := congrArg UInt8.toNat h
  simp at this
  omega
theorem map_ofNat_inj : ∀ {l m : List Nat}, (∀ c ∈ l, c < 256) → (∀ c ∈ m, c < 256) → l.map UInt8.ofNat = m.map UInt8.ofNat → l = m
  | [], [], _, _, _ => rfl
  | [], _ :: _, _, _, h => by simp at h
  | _ :: _, [], _, _, h => by simp at h
  | a :: l, b :: m, hl, hm, h => by
    simp only [List.map_cons, List.cons.injEq] at h
    rw [ofNat_inj (hl a (by simp)) (hm b (by simp)) h.1, map_ofNat_inj (fun c hc => hl c (by simp [hc])) (fun c hc => hm c (by simp [hc])) h.2]
theorem equal_spec (l m : List Nat) (hl : ∀ c ∈ l, c < 256) (hm : ∀ c ∈ m, c < 256) (nl fu nl' fu' : Bool) :
    call E (.func (.func 70) [] []) [.imm nl fu true (l.map encB), .imm nl' fu' true (m.map encB)] [] = some (.lit (.bool (decide (l = m))), []) := by
  rw [call_func E E70]
  have e : (l.map UInt8.ofNat == m.map UInt8.ofNat) = decide (l = m) := by
    by_cases h : l = m
    · subst h; simp
    · rw [decide_eq_false h, beq_eq_false_iff_ne]
      exact fun e => h (map_ofNat_inj hl hm e)
  simp [go_sem, ir70, bytesOf_map, e]

theorem tail_length' (s : Nat) : (tailN s).length = 4 := rfl
theorem tail_byte (s : Nat) : ∀ c ∈ tailN s, c < 256 := by
  intro c hc
  simp [tailN] at hc
  omega
/-- Is there a sum behind, that is right? -/
def openE (b : List Nat) : Int := if b.length < 4 then 13 else if b.drop (b.length - 4) = tailN (crc (b.take (b.length - 4))).toNat then 0 else 18
theorem open_spec (b : List Nat) (hb : ∀ c ∈ b, c < 256) (hl : b.length ≤ 1099511627775) (fu : Bool) :
    call E (.func (.func 56) [] []) [.imm false fu true (b.map encB)] []
      = some (if openE b = 0 then (.tup [.own 0 (b.length - 4) 1 0 (b.length - 4), .lit (.int .i64 0)], [.arr true false (b.take (b.length - 4)).isEmpty 1 ((b.take (b.length - 4)).map encB)])
        else (.tup [nilS, .lit (.int .i64 (openE b))], [])) := by
  rw [call_func E E56]
  by_cases h4 : b.length < 4
  · have e : openE b = 13 := by unfold openE; rw [if_pos h4]
    have w : IntKind.wrap .i64 ((b.length : Int) - 4) = (b.length : Int) - 4 := wrap64 (by omega) (by omega)
    have hneg : (b.length : Int) - 4 < 0 := by omega
    simp [go_sem, ir56, e, w, hneg]
  · have w : IntKind.wrap .i64 ((b.length : Int) - 4) = ((b.length - 4 : Nat) : Int) := by rw [wrap64 (by omega) (by omega)]; omega
    have hS := sum_spec (b.take (b.length - 4)) (fun c hc => hb c (List.mem_of_mem_take hc)) (by simp; omega) false (fu && decide (b.length - 4 = b.length))
    have hT := tail_spec (crc (b.take (b.length - 4))).toNat
    have hE := equal_spec (b.drop (b.length - 4)) (tailN (crc (b.take (b.length - 4))).toNat) (fun c hc => hb c (List.mem_of_mem_drop hc)) (tail_byte _) false fu false false
    have hC := clone_spec (b.take (b.length - 4)) (fu && decide (b.length - 4 = b.length)) (by simp; omega)
    have htl : (tailN (crc (b.take (b.length - 4))).toNat).length = 4 := rfl
    have hlt : (b.take (b.length - 4)).length = b.length - 4 := by simp
    have e : openE b = if b.drop (b.length - 4) = tailN (crc (b.take (b.length - 4))).toNat then 0 else 18 := by unfold openE; rw [if_neg h4]
    rw [hlt] at hC
    generalize tailN (crc (b.take (b.length - 4))).toNat = T at hT hE htl e
    rw [List.map_take] at hS hC
    rw [List.map_drop] at hE
    rw [List.map_take]
    have hk : b.length - 4 ≤ b.length := by omega
    have hr := rowsB b
    generalize hkk : b.length - 4 = kk at *
    have hneg : ¬ (kk : Int) < 0 := by omega
    by_cases hq : b.drop kk = T
    · rw [if_pos hq] at e
      rw [decide_eq_true hq] at hE
      simp [go_sem, ir56, e, w, hneg, hk, hr, take_allB, hS, hT, hE, hC, htl, purse_eq]
    · rw [if_neg hq] at e
      rw [decide_eq_false hq] at hE
      simp [go_sem, ir56, e, w, hneg, hk, hr, take_allB, hS, hT, hE, htl, purse_eq]

theorem seal_take (b : List Nat) (h : ¬ b.length < 4) : openE b = 0 ↔ sealB (b.take (b.length - 4)) = b := by
  unfold openE sealB
  rw [if_neg h]
  constructor
  · intro e
    split at e
    · rename_i hq
      rw [← hq, List.take_append_drop]
    · omega
  · intro e
    rw [if_pos]
    have h2 := congrArg (List.drop (b.length - 4)) e
    rw [List.drop_append] at h2
    have hlt : (b.take (b.length - 4)).length = b.length - 4 := by simp
    rw [hlt, Nat.sub_self, List.drop_zero, List.drop_eq_nil_of_le (by omega), List.nil_append] at h2
    exact h2.symm
theorem sealB_length (l : List Nat) : (sealB l).length = l.length + 4 := by simp [sealB, tail_length']
theorem ropen_loop (b w : List Nat) (hlen : w.length = b.length) (hl : b.length ≤ 1099511627775) (nl fu fu2 : Bool) (k : List Item) (R : Bool → Option (AVal × Heap))
    (hk : ∀ τ, lk 0 τ = .imm nl fu true (b.map encB) → finK 0 [.tmp 2, .tmp 3] (run E 0 k τ [.arr true false fu2 1 (w.map encB)]) = R true) (hf : R false = some (.tup [nilS, .lit (.int .i64 18)], [])) :
    ∀ (d i : Nat), i + d = b.length →
   finK 0 [.tmp 2, .tmp 3] (run E 0 (.code L60_0 :: .inLoop [0, 4, 5] L60_0 :: .inBlock 0 :: k) [(0, .imm nl fu true (b.map encB)), (4, .own 0 w.length 1 0 w.length), (5, .lit (.int .i64 i))] [.arr true false fu2 1 (w.map encB)])
   = R (decide (w.drop i = b.drop i)) := by
  intro d
  induction d with
  | zero =>
    intro i hi
    rw [List.drop_eq_nil_of_le (by omega), List.drop_eq_nil_of_le (by omega)]
    have : ¬ i < w.length := by omega
    simp [go_sem, run_codeL E L60_0.eq_1, this]
    exact hk _ rfl
  | succ d ih =>
    intro i hi
    have hlt : i < w.length := by omega
    have hlt' : i < b.length := by omega
    have w2 := wrapIdx (i := i) (by omega)
    rw [List.drop_eq_getElem_cons hlt, List.drop_eq_getElem_cons hlt']
    by_cases h : w[i] = b[i]
    · rw [decide_eq_decide.2 (show (w[i] :: w.drop (i + 1) = b[i] :: b.drop (i + 1)) ↔ w.drop (i + 1) = b.drop (i + 1) from ⟨fun e => (List.cons.inj e).2, fun e => by rw [h, e]⟩)]
      simp [go_sem, run_codeL E L60_0.eq_1, hlt, hlt', List.getElem?_eq_getElem hlt, List.getElem?_eq_getElem hlt', encB, h, w2]
      rw [run_inLoop']
      simp [go_sem, purse_eq]
      have := ih (i + 1) (by omega)
      simpa [encB] using this
    · have h' : ¬ ((w[i] : Nat) : Int) = (b[i] : Nat) := by omega
      rw [decide_eq_false (show ¬ (w[i] :: w.drop (i + 1) = b[i] :: b.drop (i + 1)) from fun e => h (List.cons.inj e).1), hf]
      simp [go_sem, h', run_codeL E L60_0.eq_1, hlt, hlt', List.getElem?_eq_getElem hlt, List.getElem?_eq_getElem hlt', encB, h, w2, purse_eq]
theorem ropen_spec (b : List Nat) (hb : ∀ c ∈ b, c < 256) (hl : b.length ≤ 1099511627775) (nl fu : Bool) :
    call E (.func (.func 60) [] []) [.imm nl fu true (b.map encB)] []
      = some (if openE b = 0 then (.tup [.imm nl (fu && decide (b.length - 4 = b.length)) true ((b.take (b.length - 4)).map encB), .lit (.int .i64 0)], [])
        else (.tup [nilS, .lit (.int .i64 (openE b))], [])) := by
  rw [call_func E E60]
  by_cases h4 : b.length < 4
  · have e : openE b = 13 := by unfold openE; rw [if_pos h4]
    have h4' : (b.length : Int) < 4 := by omega
    simp [go_sem, ir60, e, h4']
  · have h4' : ¬ (b.length : Int) < 4 := by omega
    have w : IntKind.wrap .i64 ((b.length : Int) - 4) = ((b.length - 4 : Nat) : Int) := by rw [wrap64 (by omega) (by omega)]; omega
    have hS := rseal_spec (b.take (b.length - 4)) (fun c hc => hb c (List.mem_of_mem_take hc)) nl (fu && decide (b.length - 4 = b.length)) (by simp; omega)
    have hst := seal_take b h4
    have hsl := sealB_length (b.take (b.length - 4))
    have hlt : (b.take (b.length - 4)).length = b.length - 4 := by simp
    have e : openE b = 0 ∨ openE b = 18 := by unfold openE; rw [if_neg h4]; split <;> simp
    generalize sealB (b.take (b.length - 4)) = W at hS hst hsl
    rw [List.map_take] at hS ⊢
    have hk : b.length - 4 ≤ b.length := by omega
    have hr := rowsB b
    have hlp := ropen_loop b W (by omega) hl nl fu false [.code (.seq (.reg [⟨none, some 30, .copy (.t 0)⟩, ⟨none, some 31, .copy (.t 0)⟩, ⟨none, some 32, .len (.t 31)⟩, ⟨none, some 33, .bin .sub (.t 32) (.c (.lit (.int .i64 4)))⟩, ⟨none, some 34, .slice 1 (.t 30) none (some (.t 33)) none⟩, ⟨none, some 2, .copy (.t 34)⟩, ⟨none, some 3, .copy (.c (.lit (.int .i64 0)))⟩] [] []) .ret)]
      (fun q => some (if q = true then (.tup [.imm nl (fu && decide (b.length - 4 = b.length)) true (List.take (b.length - 4) (b.map encB)), .lit (.int .i64 0)], []) else (.tup [nilS, .lit (.int .i64 18)], []))) ?_ rfl b.length 0 (by omega)
    · simp [go_sem, ir60, w, h4', hk, hr, hS, purse_eq]
      rw [run_inLoop']
      simp [go_sem, purse_eq]
      rw [List.drop_zero, List.drop_zero] at hlp
      by_cases hq : W = b
      · rw [decide_eq_true hq] at hlp
        have e0 := hst.2 hq
        simp [e0]
        simpa [nilS] using hlp
      · rw [decide_eq_false hq] at hlp
        have e0 : openE b = 18 := e.resolve_left fun h => hq (hst.1 h)
        simp [e0]
        simpa [nilS] using hlp
    · intro τ t0
      simp [go_sem, t0, w, hk, hr]
end Go.AM.R1
open Go Go.AM
namespace Go.AM.R1

def sizeB (b : List Nat) : Int × Int := if (getN b).2.2 ≠ 0 then (0, (getN b).2.2) else if 65536 < (getN b).1 then (0, 12) else (((getN b).2.1 + (getN b).1 + 4 : Nat), 0)
theorem get_k_le {b : List Nat} (hb : ∀ c ∈ b, c < 256) (h : (getN b).2.2 = 0) : 1 ≤ (getN b).2.1 ∧ (getN b).2.1 ≤ 10 ∧ (getN b).2.1 ≤ b.length := by
  obtain ⟨e1, e2, e3⟩ := get_ok hb h
  have hpos := List.length_pos_iff.2 (putN_pos (getN b).1)
  have h10 := putN_len64 e3
  have hl := congrArg List.length e1
  simp at hl
  omega
theorem size_spec (b : List Nat) (hb : ∀ c ∈ b, c < 256) (hl : b.length ≤ 1099511627775) (nl fu : Bool) :
    call E (.func (.func 40) [] []) [.imm nl fu true (b.map encB)] [] = some (.tup [.lit (.int .i64 (sizeB b).1), .lit (.int .i64 (sizeB b).2)], []) := by
  rw [call_func E E40]
  have hG := vget_spec b hb hl nl fu
  unfold sizeB
  by_cases h : (getN b).2.2 = 0
  · have hk := get_k_le hb h
    rw [h] at hG
    by_cases h2 : 65536 < (getN b).1
    · have h2' : (65536 : Int) < ((getN b).1 : Nat) := by omega
      simp [go_sem, ir40, hG, h, h2, h2']
    · have h2' : ¬ (65536 : Int) < ((getN b).1 : Nat) := by omega
      have w0 : IntKind.wrap .i64 ((getN b).1 : Int) = ((getN b).1 : Int) := wrap64 (by omega) (by omega)
      have w1 : IntKind.wrap .i64 (((getN b).2.1 : Int) + ((getN b).1 : Int)) = ((getN b).2.1 : Int) + ((getN b).1 : Int) := wrap64 (by omega) (by omega)
      have w2 : IntKind.wrap .i64 (((getN b).2.1 : Int) + ((getN b).1 : Int) + 4) = ((getN b).2.1 : Int) + ((getN b).1 : Int) + 4 := wrap64 (by omega) (by omega)
      simp [go_sem, ir40, hG, h, h2, h2', w0, w1, w2]
  · simp [go_sem, ir40, hG, h]
theorem rsize_spec (b : List Nat) (hb : ∀ c ∈ b, c < 256) (hl : b.length ≤ 1099511627775) (nl fu : Bool) :
    call E (.func (.func 41) [] []) [.imm nl fu true (b.map encB)] [] = some (.tup [.lit (.int .i64 (sizeB b).1), .lit (.int .i64 (sizeB b).2)], []) := by
  rw [call_func E E41]
  have hG := rget_spec b hb hl nl fu
  unfold sizeB
  by_cases h : (getN b).2.2 = 0
  · have hk := get_k_le hb h
    rw [h] at hG
    by_cases h2 : 65536 < (getN b).1
    · have h2' : (65536 : Int) < ((getN b).1 : Nat) := by omega
      simp [go_sem, ir41, hG, h, h2, h2']
    · have h2' : ¬ (65536 : Int) < ((getN b).1 : Nat) := by omega
      have w0 : IntKind.wrap .i64 ((getN b).1 : Int) = ((getN b).1 : Int) := wrap64 (by omega) (by omega)
      have w1 : IntKind.wrap .i64 (((getN b).2.1 : Int) + ((getN b).1 : Int)) = ((getN b).2.1 : Int) + ((getN b).1 : Int) := wrap64 (by omega) (by omega)
      have w2 : IntKind.wrap .i64 (((getN b).2.1 : Int) + ((getN b).1 : Int) + 4) = ((getN b).2.1 : Int) + ((getN b).1 : Int) + 4 := wrap64 (by omega) (by omega)
      simp [go_sem, ir41, hG, h, h2, h2', w0, w1, w2]
  · simp [go_sem, ir41, hG, h]

/-! ### All numbers -/
theorem rall_loop (b : List Nat) (hb : ∀ c ∈ b, c < 256) (hl : b.length ≤ 1099511627) (nl fu : Bool) (k : List Item) (R : List Nat × Nat × Int → Option (AVal × Heap))
    (hk : ∀ acc τ, lk 5 τ = .own 0 acc.length 1 0 acc.length → finK 0 [.tmp 2, .tmp 3, .tmp 4] (run E 0 k τ [.arr true false acc.isEmpty 1 (acc.map encU)]) = R (acc, 0, 0))
    (hR : ∀ p e, e ≠ 0 → R ([], p, e) = some (.tup [nilS, .lit (.int .i64 (p : Nat)), .lit (.int .i64 e)], [])) :
    ∀ (d p : Nat) (acc : List Nat), b.length ≤ p + d → p ≤ b.length → acc.length ≤ p →
   finK 0 [.tmp 2, .tmp 3, .tmp 4] (run E 0 (.code L62_0 :: .inLoop [0, 5, 6] L62_0 :: .inBlock 0 :: k)
     [(0, .imm nl fu true (b.map encB)), (5, .own 0 acc.length 1 0 acc.length), (6, .lit (.int .i64 p))] [.arr true false acc.isEmpty 1 (acc.map encU)]) = R (allGo d b p acc) := by
  intro d
  induction d with
  | zero =>
    intro p acc hd hp ha
    have hnp : ¬ p < b.length := by omega
    rw [allGo]
    simp [go_sem, run_codeL E L62_0.eq_1, hnp]
    exact hk acc _ rfl
  | succ d ih =>
    intro p acc hd hp ha
    rw [allGo]
    by_cases hlt : p < b.length
    · rw [if_neg (by omega)]
      have hG := rget_spec (b.drop p) (fun c hc => hb c (List.mem_of_mem_drop hc)) (by simp; omega) nl fu
      rw [List.map_drop] at hG
      have hr := rowsB b
      by_cases h : (getN (b.drop p)).2.2 = 0
      · have hk2 := get_k_le (fun c hc => hb c (List.mem_of_mem_drop hc)) h
        simp at hk2
        rw [if_pos h]
        rw [h] at hG
        generalize getN (b.drop p) = g at *
        have w : IntKind.wrap .i64 ((p : Int) + (g.2.1 : Int)) = ((p + g.2.1 : Nat) : Int) := by rw [wrap64 (by omega) (by omega)]; omega
        have hb2 : ¬ (70368744177664 < (acc.length + 1) * 8) := by omega
        have ih2 := ih (p + g.2.1) (acc ++ [g.1]) (by omega) (by omega) (by simp; omega)
        simp [isEmpty_snoc, encU] at ih2 w
        simp [go_sem, run_codeL E L62_0.eq_1, hlt, hp, hr, take_allB, hG, w, hb2]
        rw [run_inLoop']
        simp [go_sem, purse_eq]
        simpa [encU] using ih2
      · rw [if_neg h, hR _ _ h]
        simp [go_sem, run_codeL E L62_0.eq_1, hlt, hp, hr, take_allB, hG, h]
    · rw [if_pos (by omega)]
      simp [go_sem, run_codeL E L62_0.eq_1, hlt]
      exact hk acc _ rfl
theorem rall_spec (b : List Nat) (hb : ∀ c ∈ b, c < 256) (hl : b.length ≤ 1099511627) (nl fu : Bool) :
    call E (.func (.func 62) [] []) [.imm nl fu true (b.map encB)] []
      = some (if (allN b).2.2 = 0 then (.tup [.own 0 (allN b).1.length 1 0 (allN b).1.length, .lit (.int .i64 0), .lit (.int .i64 0)], [.arr true false (allN b).1.isEmpty 1 ((allN b).1.map encU)])
        else (.tup [nilS, .lit (.int .i64 (allN b).2.1), .lit (.int .i64 (allN b).2.2)], [])) := by
  rw [call_func E E62]
  have h := rall_loop b hb hl nl fu [.code (.seq (.reg [⟨none, some 34, .copy (.t 5)⟩, ⟨none, some 2, .copy (.t 34)⟩, ⟨none, some 3, .copy (.c (.lit (.int .i64 0)))⟩, ⟨none, some 4, .copy (.c (.lit (.int .i64 0)))⟩] [] []) .ret)]
    (fun r => some (if r.2.2 = 0 then (.tup [.own 0 r.1.length 1 0 r.1.length, .lit (.int .i64 0), .lit (.int .i64 0)], [.arr true false r.1.isEmpty 1 (r.1.map encU)])
        else (.tup [nilS, .lit (.int .i64 r.2.1), .lit (.int .i64 r.2.2)], []))) ?_ (fun p e he => by simp [he]) b.length 0 [] (by omega) (by omega) (by simp)
  · rw [show allGo b.length b 0 [] = allN b from rfl] at h
    generalize allN b = g at h ⊢
    by_cases hz : g.2.2 = 0
    · simp [hz] at h
      simp [go_sem, ir62, purse_eq, hz]
      rw [run_inLoop']
      simp [go_sem, purse_eq]
      exact h
    · simp [hz] at h
      simp [go_sem, ir62, purse_eq, hz]
      rw [run_inLoop']
      simp [go_sem, purse_eq]
      exact h
  · intro acc τ t5
    simp [go_sem, t5, purse_eq]

/-- The heap that a round of All sees. -/
def alH (acc : List Nat) : Heap :=
  if acc = [] then [.loop 0 none [(2, .ptr 1 0), (3, .ptr 2 0), (4, .ptr 3 0), (5, .ptr 4 0)] [9] A58_0 B58_0, .box [nilS], .box [.lit (.int .i64 0)], .box [.lit (.int .i64 0)], .box [nilS]]
  else [.loop 0 none [(2, .ptr 1 0), (3, .ptr 2 0), (4, .ptr 3 0), (5, .ptr 4 0)] [9] A58_0 B58_0, .box [nilS], .box [.lit (.int .i64 0)], .box [.lit (.int .i64 0)], .box [.own 5 acc.length 1 0 acc.length], .arr true false false 1 (acc.map encU)]
def alF (acc : List Nat) (p : Nat) (e : Int) : Heap :=
  if acc = [] then [.loop 2 (some .ret) [(2, .ptr 1 0), (3, .ptr 2 0), (4, .ptr 3 0), (5, .ptr 4 0)] [9] A58_0 B58_0, .box [nilS], .box [.lit (.int .i64 p)], .box [.lit (.int .i64 e)], .box [nilS]]
  else [.loop 2 (some .ret) [(2, .ptr 1 0), (3, .ptr 2 0), (4, .ptr 3 0), (5, .ptr 4 0)] [9] A58_0 B58_0, .box [nilS], .box [.lit (.int .i64 p)], .box [.lit (.int .i64 e)], .box [.own 5 acc.length 1 0 acc.length], .arr true false false 1 (acc.map encU)]
theorem alY (acc : List Nat) (ha : acc.length ≤ 1099511627) (n p : Nat) :
    call E (.yld 0) [.agg [.lit (.int .u64 n), .lit (.int .i64 p), .lit (.int .i64 0)]] (alH acc) = some (.lit (.bool true), alH (acc ++ [n])) := by
  have hb : ¬ (70368744177664 < (acc.length + 1) * 8) := by omega
  by_cases h : acc = []
  · subst h
    simp [go_sem, alH, run_codeL E A58_0.eq_1, run_codeL E B58_0.eq_1, purse_eq, List.range_succ, encU]
  · simp [go_sem, alH, h, run_codeL E A58_0.eq_1, run_codeL E B58_0.eq_1, purse_eq, List.range_succ, encU, hb]
theorem alYe (acc : List Nat) (n p : Nat) (e : Int) (he : e ≠ 0) :
    call E (.yld 0) [.agg [.lit (.int .u64 n), .lit (.int .i64 p), .lit (.int .i64 e)]] (alH acc) = some (.lit (.bool false), alF acc p e) := by
  by_cases h : acc = []
  · subst h
    simp [go_sem, alH, alF, he, run_codeL E A58_0.eq_1, run_codeL E B58_0.eq_1, purse_eq, List.range_succ]
  · simp [go_sem, alH, alF, he, h, run_codeL E A58_0.eq_1, run_codeL E B58_0.eq_1, purse_eq, List.range_succ]
end Go.AM.R1
open Go Go.AM
namespace Go.AM.R1

def numH (nl fu : Bool) (b acc : List Nat) : Heap :=
  if acc = [] then [.box [.imm nl fu true (b.map encB)], .loop 0 none [(2, .ptr 2 0), (3, .ptr 3 0), (4, .ptr 4 0), (5, .ptr 5 0)] [9] A58_0 B58_0, .box [nilS], .box [.lit (.int .i64 0)], .box [.lit (.int .i64 0)], .box [nilS]]
  else [.box [.imm nl fu true (b.map encB)], .loop 0 none [(2, .ptr 2 0), (3, .ptr 3 0), (4, .ptr 4 0), (5, .ptr 5 0)] [9] A58_0 B58_0, .box [nilS], .box [.lit (.int .i64 0)], .box [.lit (.int .i64 0)], .box [.own 6 acc.length 1 0 acc.length], .arr true false false 1 (acc.map encU)]
def numF (nl fu : Bool) (b acc : List Nat) (p : Nat) (e : Int) : Heap :=
  if acc = [] then [.box [.imm nl fu true (b.map encB)], .loop 2 (some .ret) [(2, .ptr 2 0), (3, .ptr 3 0), (4, .ptr 4 0), (5, .ptr 5 0)] [9] A58_0 B58_0, .box [nilS], .box [.lit (.int .i64 p)], .box [.lit (.int .i64 e)], .box [nilS]]
  else [.box [.imm nl fu true (b.map encB)], .loop 2 (some .ret) [(2, .ptr 2 0), (3, .ptr 3 0), (4, .ptr 4 0), (5, .ptr 5 0)] [9] A58_0 B58_0, .box [nilS], .box [.lit (.int .i64 p)], .box [.lit (.int .i64 e)], .box [.own 6 acc.length 1 0 acc.length], .arr true false false 1 (acc.map encU)]
/-- What the walk through the numbers ends with: all, or the error at a place. -/
def numGo : Nat → List Nat → Nat → List Nat → List Nat × Nat × Int
  | 0, _, _, acc => (acc, 0, 0)
  | d + 1, b, p, acc => if b.length ≤ p then (acc, 0, 0) else if (getN (b.drop p)).2.2 = 0 then numGo d b (p + (getN (b.drop p)).2.1) (acc ++ [(getN (b.drop p)).1]) else (acc, p, (getN (b.drop p)).2.2)
theorem num_all : ∀ (d : Nat) (b : List Nat) (p : Nat) (acc : List Nat), allGo d b p acc = if (numGo d b p acc).2.2 = 0 then ((numGo d b p acc).1, 0, 0) else ([], (numGo d b p acc).2.1, (numGo d b p acc).2.2)
  | 0, b, p, acc => by simp [allGo, numGo]
  | d + 1, b, p, acc => by
    rw [allGo, numGo]
    by_cases h : b.length ≤ p
    · simp [h]
    · rw [if_neg h, if_neg h]
      by_cases h2 : (getN (b.drop p)).2.2 = 0
      · rw [if_pos h2, if_pos h2, num_all d]
      · rw [if_neg h2, if_neg h2]; simp [h2]
theorem num_loop (b : List Nat) (hb : ∀ c ∈ b, c < 256) (hl : b.length ≤ 1099511627) (nl fu : Bool) :
    ∀ (d p : Nat) (acc : List Nat), b.length ≤ p + d → p ≤ b.length → acc.length ≤ p →
   finK 6 [] (run E 6 [.code L75_0, .inLoop [0, 1, 3] L75_0, .inBlock 0]
     [(0, .yld 1), (1, .ptr 0 0), (3, .lit (.int .i64 p))] (numH nl fu b acc))
    = some (.tup [], if (numGo d b p acc).2.2 = 0 then numH nl fu b (numGo d b p acc).1 else numF nl fu b (numGo d b p acc).1 (numGo d b p acc).2.1 (numGo d b p acc).2.2) := by
  intro d
  induction d with
  | zero =>
    intro p acc hd hp ha
    have hnp : ¬ p < b.length := by omega
    rw [numGo]
    by_cases h : acc = []
    · subst h
      simp [go_sem, run_codeL E L75_0.eq_1, hnp, numH, List.range_succ, purse_eq]
    · simp [go_sem, run_codeL E L75_0.eq_1, hnp, numH, h, List.range_succ, purse_eq]
  | succ d ih =>
    intro p acc hd hp ha
    by_cases hlt : p < b.length
    · have hG := vget_spec (b.drop p) (fun c hc => hb c (List.mem_of_mem_drop hc)) (by simp; omega) nl fu
      rw [List.map_drop] at hG
      have hr := rowsB b
      by_cases h : (getN (b.drop p)).2.2 = 0
      · have hk2 := get_k_le (fun c hc => hb c (List.mem_of_mem_drop hc)) h
        simp at hk2
        have hn : numGo (d + 1) b p acc = numGo d b (p + (getN (b.drop p)).2.1) (acc ++ [(getN (b.drop p)).1]) := by
          rw [numGo, if_neg (show ¬ b.length ≤ p by omega), if_pos h]
        rw [hn]
        rw [h] at hG
        clear hn
        generalize getN (b.drop p) = g at *
        have w : IntKind.wrap .i64 ((p : Int) + (g.2.1 : Int)) = ((p + g.2.1 : Nat) : Int) := by rw [wrap64 (by omega) (by omega)]; omega
        have ih2 := ih (p + g.2.1) (acc ++ [g.1]) (by omega) (by omega) (by simp; omega)
        have hY := alY acc (by omega) g.1 p
        by_cases ha0 : acc = []
        · subst ha0
          simp [alH, nilS] at hY
          simp [numH, nilS] at ih2 w
          simp [go_sem, run_codeL E L75_0.eq_1, hlt, hp, hr, take_allB, hG, w, numH, purse_eq, hY]
          rw [run_inLoop']
          simp [go_sem, purse_eq, List.range_succ]
          simpa [numH, nilS] using ih2
        · simp [alH, ha0, nilS] at hY
          simp [numH, nilS] at ih2 w
          simp [go_sem, run_codeL E L75_0.eq_1, hlt, hp, hr, take_allB, hG, w, numH, ha0, purse_eq, hY]
          rw [run_inLoop']
          simp [go_sem, purse_eq, List.range_succ]
          simpa [numH, nilS] using ih2
      · have hn : numGo (d + 1) b p acc = (acc, p, (getN (b.drop p)).2.2) := by
          rw [numGo, if_neg (show ¬ b.length ≤ p by omega), if_neg h]
        rw [hn]
        clear hn
        have hY := alYe acc (getN (b.drop p)).1 p (getN (b.drop p)).2.2 h
        generalize getN (b.drop p) = g at *
        by_cases ha0 : acc = []
        · subst ha0
          simp [alH, alF, nilS] at hY
          simp [go_sem, run_codeL E L75_0.eq_1, hlt, hp, hr, take_allB, hG, h, numH, numF, purse_eq, hY, List.range_succ]
        · simp [alH, alF, ha0, nilS] at hY
          simp [go_sem, run_codeL E L75_0.eq_1, hlt, hp, hr, take_allB, hG, h, numH, numF, ha0, purse_eq, hY, List.range_succ]
    · have hn : numGo (d + 1) b p acc = (acc, 0, 0) := by rw [numGo, if_pos (show b.length ≤ p by omega)]
      rw [hn]
      by_cases h : acc = []
      · subst h
        simp [go_sem, run_codeL E L75_0.eq_1, hlt, numH, List.range_succ, purse_eq]
      · simp [go_sem, run_codeL E L75_0.eq_1, hlt, numH, h, List.range_succ, purse_eq]

theorem num_spec (b : List Nat) (hb : ∀ c ∈ b, c < 256) (hl : b.length ≤ 1099511627) (nl fu : Bool) :
    call E (.func (.func 75) [] [.ptr 0 0]) [.yld 1] (numH nl fu b [])
     = some (.tup [], if (numGo b.length b 0 []).2.2 = 0 then numH nl fu b (numGo b.length b 0 []).1 else numF nl fu b (numGo b.length b 0 []).1 (numGo b.length b 0 []).2.1 (numGo b.length b 0 []).2.2) := by
  rw [call_func E E75]
  have h := num_loop b hb hl nl fu b.length 0 [] (by omega) (by omega) (by simp)
  generalize (if (numGo b.length b 0 []).2.2 = 0 then numH nl fu b (numGo b.length b 0 []).1 else numF nl fu b (numGo b.length b 0 []).1 (numGo b.length b 0 []).2.1 (numGo b.length b 0 []).2.2) = F at h ⊢
  simp [numH, nilS] at h
  simp [go_sem, ir75, numH, purse_eq]
  rw [run_inLoop']
  simp [go_sem, purse_eq, List.range_succ]
  exact h
theorem numbers_spec (nl fu : Bool) (rows : List (List AVal)) : call E (.func (.func 71) [] []) [.imm nl fu true rows] [] = some (.func (.func 75) [] [.ptr 0 0], [.box [.imm nl fu true rows]]) := by
  rw [call_func E E71]
  simp [go_sem, ir71, purse_eq]
theorem all_spec (b : List Nat) (hb : ∀ c ∈ b, c < 256) (hl : b.length ≤ 1099511627) (nl fu : Bool) :
    call E (.func (.func 58) [] []) [.imm nl fu true (b.map encB)] []
      = some (if (allN b).2.2 = 0 then (if (allN b).1 = [] then (.tup [nilS, .lit (.int .i64 0), .lit (.int .i64 0)], []) else (.tup [.own 0 (allN b).1.length 1 0 (allN b).1.length, .lit (.int .i64 0), .lit (.int .i64 0)], [.arr true false false 1 ((allN b).1.map encU)]))
        else (.tup [nilS, .lit (.int .i64 (allN b).2.1), .lit (.int .i64 (allN b).2.2)], [])) := by
  rw [call_func E E58]
  have hN := num_spec b hb hl nl fu
  have hS := numbers_spec nl fu (b.map encB)
  have ha := num_all b.length b 0 []
  rw [show allGo b.length b 0 [] = allN b from rfl] at ha
  generalize numGo b.length b 0 [] = g at hN ha
  rw [ha]
  by_cases h : g.2.2 = 0
  · rw [if_pos h] at hN
    rw [if_pos h]
    by_cases h2 : g.1 = []
    · simp [numH, h2, nilS] at hN
      simp [go_sem, ir58, hS, hN, h2, purse_eq]
    · simp [numH, h2, nilS] at hN
      simp [go_sem, ir58, hS, hN, h2, purse_eq]
  · rw [if_neg h] at hN
    rw [if_neg h]
    by_cases h2 : g.1 = []
    · simp [numH, numF, h2, nilS] at hN
      simp [go_sem, ir58, hS, hN, h, h2, purse_eq]
    · simp [numH, numF, h2, nilS] at hN
      simp [go_sem, ir58, hS, hN, h, h2, purse_eq]
end Go.AM.R1
open Go Go.AM
namespace Go.AM.R1

/-! ### The block of numbers -/
def nextB (most : Nat) : List Nat × Bool → Nat × (List Nat × Bool)
  | ([], _) => (0, [], false)
  | (x :: r, q) => if most < x then (0, x :: r, false) else (x, r, q)
theorem nextB_le (most : Nat) (s : List Nat × Bool) : (nextB most s).1 ≤ most := by
  obtain ⟨l, q⟩ := s
  cases l with
  | nil => simp [nextB]
  | cons x r => rw [nextB]; split <;> simp; omega
theorem next_spec (most : Nat) (L : List Nat) (q nl fu : Bool) :
    call E (.func (.func 72) [] [.ptr 0 0, .ptr 1 0]) [.lit (.int .u64 most)] [.box [.imm nl fu true (L.map encU)], .box [.lit (.bool q)]]
      = some (.lit (.int .u64 (nextB most (L, q)).1), [.box [.imm nl fu true ((nextB most (L, q)).2.1.map encU)], .box [.lit (.bool (nextB most (L, q)).2.2)]]) := by
  rw [call_func E E72]
  cases L with
  | nil => simp [go_sem, ir72, nextB, purse_eq, List.range_succ]
  | cons x r =>
    have hr := rowsU r
    have htk : List.take r.length (List.map encU r) = List.map encU r := List.take_of_length_le (by simp)
    have hz : ¬ ((r.length : Int) + 1 = 0) := by omega
    by_cases h : most < x
    · have h' : (most : Int) < (x : Nat) := by omega
      simp [go_sem, ir72, nextB, purse_eq, List.range_succ, h, h', hz, encU]
    · have h' : ¬ (most : Int) < (x : Nat) := by omega
      simp [go_sem, ir72, nextB, purse_eq, List.range_succ, h, h', hz, encU, hr, htk]
def inLp : Nat → List Nat × Bool → Int → List Run → (List Nat × Bool) × List Run
  | 0, s, _, out => (s, out)
  | n + 1, s, last, out =>
    inLp n (nextB 4294967295 (nextB 1073741824 s).2).2 (ixor .u32 ((nextB 4294967295 (nextB 1073741824 s).2).1 : Nat) last)
      (out ++ [⟨((nextB 1073741824 s).1 : Nat), if ixor .u32 ((nextB 4294967295 (nextB 1073741824 s).2).1 : Nat) last = 4294967295 then 1 else 0, ixor .u32 ((nextB 4294967295 (nextB 1073741824 s).2).1 : Nat) last⟩])
/-- The heap of the numbers' walk. -/
def insH (nl fu : Bool) (s : List Nat × Bool) (first : Int) (out : List Run) : Heap :=
  [.box [.imm nl fu true (s.1.map encU)], .box [.lit (.int .i64 0), nilS], .box [.lit (.bool s.2)], .box [.lit (.int .i64 first), resV 6 (out.map encRun)]] ++ resH [.dead, .dead] (out.map encRun)
theorem inside_loop (nl fu : Bool) (first : Int) (n : Nat) (hn : n ≤ 4096) (k : List Item) (R : (List Nat × Bool) × List Run → Option (AVal × Heap))
    (hk : ∀ s out τ, out.length ≤ 4096 → (∀ r ∈ out, r.Ok) → lk 1 τ = .ptr 0 0 → lk 2 τ = .ptr 1 0 → lk 4 τ = .ptr 2 0 → lk 6 τ = .ptr 3 0 → finK 0 [.cell 2 true 2, .tmp 3] (run E 0 k τ (insH nl fu s first out)) = R (s, out)) :
    ∀ (d i : Nat) (s : List Nat × Bool) (last : Int) (out : List Run), i + d = n → out.length = i → (∀ r ∈ out, r.Ok) →
   finK 0 [.cell 2 true 2, .tmp 3] (run E 0 (.code L59_0 :: .inLoop [1, 2, 4, 5, 6, 8, 18, 19] L59_0 :: .inBlock 0 :: k)
     [(1, .ptr 0 0), (2, .ptr 1 0), (4, .ptr 2 0), (5, .func (.func 72) [] [.ptr 0 0, .ptr 2 0]), (6, .ptr 3 0), (8, .lit (.int .u32 last)), (18, .lit (.int .i64 n)), (19, .lit (.int .i64 i))] (insH nl fu s first out))
    = R (inLp d s last out) := by
  intro d
  induction d with
  | zero =>
    intro i s last out hi ho hok
    have : i = n := by omega
    subst this
    have hk' := hk s out
    rcases snoc_cases out with rfl | ⟨o, x, rfl⟩
    · simp [insH, resV, resH] at hk'
      simp [go_sem, run_codeL E L59_0.eq_1, insH, resV, resH, inLp]
      exact hk' _ rfl rfl rfl rfl
    · simp [insH, resV, resH] at hk' ho
      simp [go_sem, run_codeL E L59_0.eq_1, insH, resV, resH, inLp]
      refine hk' _ (by omega) ?_ rfl rfl rfl rfl
      intro r hr
      exact hok r (by simpa using hr)
  | succ d ih =>
    intro i s last out hi ho hok
    have hlt : (i : Int) < (n : Int) := by omega
    have w2 := wrapIdx (i := i) (by omega)
    obtain ⟨L, q⟩ := s
    have hA := next_spec 1073741824 L q nl fu
    have hAle := nextB_le 1073741824 (L, q)
    rw [inLp]
    generalize nextB 1073741824 (L, q) = a at hA hAle ⊢
    obtain ⟨a1, L1, q1⟩ := a
    have hB := next_spec 4294967295 L1 q1 nl fu
    have hBle := nextB_le 4294967295 (L1, q1)
    simp only [] at hA hAle ⊢
    generalize nextB 4294967295 (L1, q1) = c at hB hBle ⊢
    obtain ⟨c1, L2, q2⟩ := c
    simp only [] at hB hBle ⊢
    have e1 : IntKind.wrap .i64 (a1 : Int) = (a1 : Int) := wrap64 (by omega) (by omega)
    have e2 : IntKind.wrap .u32 (c1 : Int) = (c1 : Int) := by simp [IntKind.wrap, IntKind.bits, IntKind.signed]; omega
    generalize hdr : ixor .u32 (c1 : Int) last = dr
    have ih2 := ih (i + 1) (L2, q2) dr (out ++ [⟨(a1 : Nat), if dr = 4294967295 then 1 else 0, dr⟩]) (by omega) (by simp [ho]) (by
      intro r hr
      rcases List.mem_append.1 hr with hr | hr
      · exact hok r hr
      · simp at hr; subst hr; exact ⟨by show -9223372036854775808 ≤ (a1 : Int); omega, by show (a1 : Int) ≤ 9223372036854775807; omega⟩)
    have hb : ¬ (70368744177664 < (out.length + 1) * 24) := by omega
    by_cases hd : dr = 4294967295
    · subst hd
      rcases snoc_cases out with rfl | ⟨o, x, rfl⟩
      · simp [insH, resV, resH, encRun, nilS] at ih2 hA hB
        simp [go_sem, run_codeL E L59_0.eq_1, insH, resV, resH, hlt, w2, hA, hB, e1, e2, hdr, purse_eq]
        rw [run_inLoop']
        simp [go_sem, purse_eq]
        exact ih2
      · simp at hb
        have hb' : ¬ (70368744177664 < (o.length + 1 + 1) * 24) := by omega
        simp [insH, resV, resH, encRun, nilS] at ih2 hA hB
        simp [go_sem, run_codeL E L59_0.eq_1, insH, resV, resH, hlt, w2, hA, hB, e1, e2, hb', hdr, purse_eq]
        rw [run_inLoop']
        simp [go_sem, purse_eq]
        simpa [encRun] using ih2
    · rcases snoc_cases out with rfl | ⟨o, x, rfl⟩
      · simp [insH, resV, resH, encRun, nilS, hd] at ih2 hA hB
        simp [go_sem, run_codeL E L59_0.eq_1, insH, resV, resH, hlt, w2, hA, hB, e1, e2, hdr, purse_eq, hd]
        rw [run_inLoop']
        simp [go_sem, purse_eq]
        exact ih2
      · simp at hb
        have hb' : ¬ (70368744177664 < (o.length + 1 + 1) * 24) := by omega
        simp [insH, resV, resH, encRun, nilS, hd] at ih2 hA hB
        simp [go_sem, run_codeL E L59_0.eq_1, insH, resV, resH, hlt, w2, hA, hB, e1, e2, hb', hdr, purse_eq, hd]
        rw [run_inLoop']
        simp [go_sem, purse_eq]
        simpa [encRun] using ih2

/-- What the numbers' walk makes of numbers. -/
def insA (l : List Nat) : Nat × (List Nat × Bool) := nextB 1073741824 (l, true)
def insC (l : List Nat) : Nat × (List Nat × Bool) := nextB 4096 (insA l).2
def insR (l : List Nat) : (List Nat × Bool) × List Run := inLp (insC l).1 (insC l).2 4294967295 []
def insOk (l : List Nat) : Bool := (insR l).1.2 && decide ((insR l).1.1 = []) && decide (chkB (insA l).1 (insR l).2 = 0)
def resHl (lk : Bool) (rows : List (List AVal)) : Heap := if rows = [] then [] else [.arr true lk false 3 rows]
def insL (l : List Nat) : Bool := (insR l).1.2 && decide ((insR l).1.1 = [])
theorem inside_spec (l : List Nat) (nl fu : Bool) :
    call E (.func (.func 59) [] []) [.imm nl fu true (l.map encU)] []
      = some (.tup [.agg [.lit (.int .i64 (insA l).1), resV 0 ((insR l).2.map encRun)], .lit (.bool (insOk l))], resHl (insL l) ((insR l).2.map encRun)) := by
  rw [call_func E E59]
  have hA := next_spec 1073741824 l true nl fu
  have hAle := nextB_le 1073741824 (l, true)
  rw [show nextB 1073741824 (l, true) = insA l from rfl] at hA hAle
  have hC := next_spec 4096 (insA l).2.1 (insA l).2.2 nl fu
  have hCle := nextB_le 4096 (insA l).2
  rw [show nextB 4096 (insA l).2 = insC l from rfl] at hCle
  rw [show ((insA l).2.1, (insA l).2.2) = (insA l).2 from rfl, show nextB 4096 (insA l).2 = insC l from rfl] at hC
  have hlp := inside_loop nl fu (insA l).1 (insC l).1 hCle [.code (.seq (.reg [⟨none, some 42, .load true 2 (.t 6)⟩, ⟨none, some 43, .load false 1 (.t 4)⟩, ⟨none, some 44, .copy (.t 43)⟩, ⟨some (44, true), some 45, .load false 1 (.t 1)⟩, ⟨some (44, true), some 46, .len (.t 45)⟩, ⟨some (44, true), some 47, .bin .eql (.t 46) (.c (.lit (.int .i64 0)))⟩, ⟨none, some 48, .pick (.t 44) (.t 47) (.c (.lit (.bool false)))⟩, ⟨none, some 49, .copy (.t 48)⟩, ⟨some (49, true), some 50, .load true 2 (.t 6)⟩, ⟨some (49, true), some 51, .call 18 [(.t 50)]⟩, ⟨some (49, true), some 52, .bin .eql (.t 51) (.c (.lit (.int .i64 0)))⟩, ⟨none, some 53, .pick (.t 49) (.t 52) (.c (.lit (.bool false)))⟩, ⟨none, none, .store 2 (.t 2) (.t 42)⟩, ⟨none, some 3, .copy (.t 53)⟩] [(0, 9)] []) .ret)]
    (fun r => some (.tup [.agg [.lit (.int .i64 (insA l).1), resV 0 (r.2.map encRun)], .lit (.bool (r.1.2 && decide (r.1.1 = []) && decide (chkB (insA l).1 r.2 = 0)))], resHl (r.1.2 && decide (r.1.1 = [])) (r.2.map encRun))) ?_ (insC l).1 0 (insC l).2 4294967295 [] (by omega) rfl (by simp)
  · rw [show inLp (insC l).1 (insC l).2 4294967295 [] = insR l from rfl, show ((insR l).1.2 && decide ((insR l).1.1 = []) && decide (chkB (insA l).1 (insR l).2 = 0)) = insOk l from rfl, show ((insR l).1.2 && decide ((insR l).1.1 = [])) = insL l from rfl] at hlp
    generalize insL l = lq at hlp ⊢
    generalize insR l = r at hlp ⊢
    generalize insOk l = q at hlp ⊢
    have e1 : IntKind.wrap .i64 ((insA l).1 : Int) = ((insA l).1 : Int) := wrap64 (by omega) (by omega)
    have e2 : IntKind.wrap .i64 ((insC l).1 : Int) = ((insC l).1 : Int) := wrap64 (by omega) (by omega)
    generalize insC l = c at hlp hC e2
    generalize insA l = a at hlp hA hC e1 ⊢
    simp [insH, nilS] at hlp hA hC
    rw [show resV 6 [] = AVal.imm true true true [] from rfl] at hlp
    simp [resH] at hlp
    simp [go_sem, ir59, hA, hC, e1, e2, purse_eq, nilS]
    rw [run_inLoop']
    simp [go_sem, purse_eq, resH]
    exact hlp
  · intro s out τ ho hok t1 t2 t4 t6
    obtain ⟨L, q⟩ := s
    have hCh := fun nl fu => bcheck_spec (insA l).1 ⟨by omega, by omega⟩ out (by omega) hok nl fu
    cases q with
    | false =>
      by_cases h0 : out = []
      · subst h0
        simp [go_sem, t1, t2, t4, t6, insH, resV, resH, resHl, purse_eq]
      · simp [go_sem, t1, t2, t4, t6, insH, resV, resH, resHl, purse_eq, h0]
    | true =>
      by_cases hL : L = []
      · subst hL
        by_cases h0 : out = []
        · subst h0
          have hC1 := hCh true true
          simp [encBlk] at hC1
          simp [go_sem, t1, t2, t4, t6, insH, resV, resH, resHl, purse_eq, hC1]
        · have hC1 := hCh false false
          simp [encBlk] at hC1
          simp [go_sem, t1, t2, t4, t6, insH, resV, resH, resHl, purse_eq, h0, hC1]
      · by_cases h0 : out = []
        · subst h0
          simp [go_sem, t1, t2, t4, t6, insH, resV, resH, resHl, purse_eq, hL]
        · simp [go_sem, t1, t2, t4, t6, insH, resV, resH, resHl, purse_eq, h0, hL]
end Go.AM.R1
open Go Go.AM
namespace Go.AM.R1

def ofLp : List Nat → Int → List Run → Bool × List Run
  | n :: d :: r, last, out => if 1073741824 < n ∨ 4294967295 < d then (false, out) else ofLp r (ixor .u32 last (d : Nat)) (out ++ [⟨(n : Nat), if ixor .u32 last (d : Nat) = 4294967295 then 1 else 0, ixor .u32 last (d : Nat)⟩])
  | _, _, out => (true, out)
def ofH (first : Int) (out : List Run) : Heap := [.box [.lit (.int .i64 0), nilS], .box [.lit (.int .i64 first), resV 4 (out.map encRun)]] ++ resH [.dead, .dead] (out.map encRun)
theorem of_loop (l : List Nat) (hl : l.length ≤ 1099511627) (nl fu : Bool) (k : List Item) (R : Bool × List Run → Option (AVal × Heap))
    (hk : ∀ out τ, lk 0 τ = .imm nl fu true (l.map encU) → lk 2 τ = .ptr 0 0 → lk 3 τ = .ptr 1 0 → finK 0 [.cell 2 true 2] (run E 0 k τ (ofH (-1) out)) = R (true, out))
    (hf : ∀ out, R (false, out) = some (.agg [.lit (.int .i64 (-1)), resV 0 (out.map encRun)], resH [] (out.map encRun))) :
    ∀ (d i : Nat) (last : Int) (out : List Run), i + 2 * d = l.length → out.length ≤ i →
   finK 0 [.cell 2 true 2] (run E 0 (.code L63_0 :: .inLoop [0, 2, 3, 4, 5] L63_0 :: .inBlock 0 :: k)
     [(0, .imm nl fu true (l.map encU)), (2, .ptr 0 0), (3, .ptr 1 0), (4, .lit (.int .u32 last)), (5, .lit (.int .i64 i))] (ofH (-1) out))
    = R (ofLp (l.drop i) last out) := by
  intro d
  induction d with
  | zero =>
    intro i last out hi ho
    have hil : i = l.length := by omega
    subst hil
    have w2 := wrapIdx (i := l.length) (by omega)
    have hlt : ¬ ((l.length : Int) + 1 < (l.length : Int)) := by omega
    have hk' := hk out
    rw [List.drop_length]
    simp at w2
    by_cases h0 : out = []
    · subst h0
      simp [ofH, resV, resH] at hk'
      simp [go_sem, run_codeL E L63_0.eq_1, ofH, resV, resH, w2, hlt, ofLp]
      exact hk' _ rfl rfl rfl
    · simp [ofH, resV, resH, h0] at hk'
      simp [go_sem, run_codeL E L63_0.eq_1, ofH, resV, resH, w2, hlt, ofLp, h0]
      exact hk' _ rfl rfl rfl
  | succ d ih =>
    intro i last out hi ho
    have hlt : i < l.length := by omega
    have hlt' : i + 1 < l.length := by omega
    have w1 : IntKind.wrap .i64 ((i : Int) + 1) = (i : Int) + 1 := wrap64 (by omega) (by omega)
    have w2 : IntKind.wrap .i64 ((i : Int) + 2) = (i : Int) + 2 := wrap64 (by omega) (by omega)
    have hlI : (i : Int) + 1 < (l.length : Int) := by omega
    have hz : (0 : Int) ≤ (i : Int) + 1 := by omega
    have ht : ((i : Int) + 1).toNat = i + 1 := by omega
    rw [List.drop_eq_getElem_cons hlt, List.drop_eq_getElem_cons hlt', ofLp]
    by_cases c1 : 1073741824 < l[i]
    · rw [if_pos (.inl c1), hf]
      have c1' : (1073741824 : Int) < (l[i] : Nat) := by omega
      by_cases h0 : out = []
      · subst h0
        simp [go_sem, run_codeL E L63_0.eq_1, ofH, resV, resH, w1, hlI, hlt, hlt', hz, ht, List.getElem?_eq_getElem hlt, List.getElem?_eq_getElem hlt', encU, c1', purse_eq]
      · simp [go_sem, run_codeL E L63_0.eq_1, ofH, resV, resH, w1, hlI, hlt, hlt', hz, ht, List.getElem?_eq_getElem hlt, List.getElem?_eq_getElem hlt', encU, c1', h0, purse_eq]
    · have c1' : ¬ (1073741824 : Int) < (l[i] : Nat) := by omega
      by_cases c2 : 4294967295 < l[i + 1]
      · rw [if_pos (.inr c2), hf]
        have c2' : (4294967295 : Int) < (l[i + 1] : Nat) := by omega
        by_cases h0 : out = []
        · subst h0
          simp [go_sem, run_codeL E L63_0.eq_1, ofH, resV, resH, w1, hlI, hlt, hlt', hz, ht, List.getElem?_eq_getElem hlt, List.getElem?_eq_getElem hlt', encU, c1', c2', purse_eq]
        · simp [go_sem, run_codeL E L63_0.eq_1, ofH, resV, resH, w1, hlI, hlt, hlt', hz, ht, List.getElem?_eq_getElem hlt, List.getElem?_eq_getElem hlt', encU, c1', c2', h0, purse_eq]
      · rw [if_neg (by omega)]
        have c2' : ¬ (4294967295 : Int) < (l[i + 1] : Nat) := by omega
        have e1 : IntKind.wrap .i64 ((l[i] : Nat) : Int) = ((l[i] : Nat) : Int) := wrap64 (by omega) (by omega)
        have e2 : IntKind.wrap .u32 ((l[i + 1] : Nat) : Int) = ((l[i + 1] : Nat) : Int) := by simp [IntKind.wrap, IntKind.bits, IntKind.signed]; omega
        generalize hdr : ixor .u32 last ((l[i + 1] : Nat) : Int) = dr
        have ih2 := ih (i + 2) dr (out ++ [⟨((l[i] : Nat) : Int), if dr = 4294967295 then 1 else 0, dr⟩]) (by omega) (by simp; omega)
        have hb : ¬ (70368744177664 < (out.length + 1) * 24) := by omega
        by_cases hd : dr = 4294967295
        · subst hd
          by_cases h0 : out = []
          · subst h0
            simp [ofH, resV, resH, encRun, nilS] at ih2
            simp [go_sem, run_codeL E L63_0.eq_1, ofH, resV, resH, w1, w2, hlI, hlt, hlt', hz, ht, List.getElem?_eq_getElem hlt, List.getElem?_eq_getElem hlt', encU, c1', c2', e1, e2, hdr, purse_eq]
            rw [run_inLoop']
            simp [go_sem, purse_eq]
            simpa [encU] using ih2
          · simp [ofH, resV, resH, encRun, nilS, h0] at ih2
            simp [go_sem, run_codeL E L63_0.eq_1, ofH, resV, resH, w1, w2, hlI, hlt, hlt', hz, ht, List.getElem?_eq_getElem hlt, List.getElem?_eq_getElem hlt', encU, c1', c2', e1, e2, hdr, h0, hb, purse_eq]
            rw [run_inLoop']
            simp [go_sem, purse_eq]
            simpa [encU] using ih2
        · by_cases h0 : out = []
          · subst h0
            simp [ofH, resV, resH, encRun, nilS, hd] at ih2
            simp [go_sem, run_codeL E L63_0.eq_1, ofH, resV, resH, w1, w2, hlI, hlt, hlt', hz, ht, List.getElem?_eq_getElem hlt, List.getElem?_eq_getElem hlt', encU, c1', c2', e1, e2, hdr, hd, purse_eq]
            rw [run_inLoop']
            simp [go_sem, purse_eq]
            simpa [encU] using ih2
          · simp [ofH, resV, resH, encRun, nilS, h0, hd] at ih2
            simp [go_sem, run_codeL E L63_0.eq_1, ofH, resV, resH, w1, w2, hlI, hlt, hlt', hz, ht, List.getElem?_eq_getElem hlt, List.getElem?_eq_getElem hlt', encU, c1', c2', e1, e2, hdr, h0, hd, hb, purse_eq]
            rw [run_inLoop']
            simp [go_sem, purse_eq]
            simpa [encU] using ih2

def ofR : List Nat → Int × List Run
  | a :: c :: r => if (a :: c :: r).length % 2 ≠ 0 ∨ 1073741824 < a then (-1, []) else if (ofLp r 4294967295 []).1 = true then (((a : Nat) : Int), (ofLp r 4294967295 []).2) else (-1, (ofLp r 4294967295 []).2)
  | _ => (-1, [])
theorem of_spec (l : List Nat) (hl : l.length ≤ 1099511627) (nl fu : Bool) :
    call E (.func (.func 63) [] []) [.imm nl fu true (l.map encU)] [] = some (.agg [.lit (.int .i64 (ofR l).1), resV 0 ((ofR l).2.map encRun)], resH [] ((ofR l).2.map encRun)) := by
  rw [call_func E E63]
  match l, hl with
  | [], _ => simp [go_sem, ir63, ofR, resV, resH, purse_eq]
  | [a], _ => simp [go_sem, ir63, ofR, resV, resH, purse_eq]
  | a :: c :: r, hl =>
    simp at hl
    have hlen2 : ¬ ((r.length : Int) + 1 + 1 < 2) := by omega
    have hm : ((r.length : Int) + 1 + 1).tmod 2 = ((r.length % 2 : Nat) : Int) := by rw [Int.tmod_eq_emod_of_nonneg (by omega)]; omega
    by_cases h1 : r.length % 2 ≠ 0
    · have e : ofR (a :: c :: r) = (-1, []) := by rw [ofR, if_pos (.inl (by simp; omega))]
      have hm2 : ((r.length : Int) + 1 + 1).tmod 2 = 1 := by omega
      simp [go_sem, ir63, e, resV, resH, purse_eq, hlen2, hm2]
    · have hm0 : ((r.length : Int) + 1 + 1).tmod 2 = 0 := by omega
      by_cases h2 : 1073741824 < a
      · have h2' : (1073741824 : Int) < (a : Nat) := by omega
        have e : ofR (a :: c :: r) = (-1, []) := by rw [ofR, if_pos (.inr h2)]
        simp [go_sem, ir63, e, resV, resH, purse_eq, hlen2, hm0, h2', encU]
      · have h2' : ¬ (1073741824 : Int) < (a : Nat) := by omega
        have e1 : IntKind.wrap .i64 ((a : Nat) : Int) = ((a : Nat) : Int) := wrap64 (by omega) (by omega)
        have e : ofR (a :: c :: r) = if (ofLp r 4294967295 []).1 = true then (((a : Nat) : Int), (ofLp r 4294967295 []).2) else (-1, (ofLp r 4294967295 []).2) := by
          rw [ofR, if_neg]
          simp; omega
        have hlp := of_loop (a :: c :: r) (by simp; omega) nl fu [.code (.seq (.reg [⟨none, some 69, .copy (.t 0)⟩, ⟨none, some 70, .idxS 1 (.t 69) (.c (.lit (.int .i64 0)))⟩, ⟨none, some 71, .load false 1 (.t 70)⟩, ⟨none, some 72, .toInt .i64 (.t 71)⟩, ⟨none, some 73, .fieldA 0 (.t 3)⟩, ⟨none, none, .store 1 (.t 73) (.t 72)⟩] [] []) (.seq (.reg [⟨none, some 74, .load true 2 (.t 3)⟩, ⟨none, none, .store 2 (.t 2) (.t 74)⟩] [] []) .ret))]
          (fun q => some (.agg [.lit (.int .i64 (if q.1 = true then ((a : Nat) : Int) else -1)), resV 0 (q.2.map encRun)], resH [] (q.2.map encRun))) ?_ (fun out => rfl) (r.length / 2) 2 4294967295 [] (by simp; omega) (by simp)
        · rw [show (a :: c :: r).drop 2 = r from rfl] at hlp
          have e' : ofR (a :: c :: r) = (if (ofLp r 4294967295 []).1 = true then ((a : Nat) : Int) else -1, (ofLp r 4294967295 []).2) := by rw [e]; split <;> rfl
          rw [e']
          generalize ofLp r 4294967295 [] = q at hlp ⊢
          simp [ofH, nilS, encU] at hlp
          rw [show resV 4 [] = AVal.imm true true true [] from rfl, show resH [.dead, .dead] [] = [] from rfl] at hlp
          simp [go_sem, ir63, purse_eq, hlen2, hm0, h2', encU, nilS]
          rw [run_inLoop']
          simp [go_sem, purse_eq]
          simpa [encU] using hlp
        · intro out τ t0 t2 t3
          by_cases h0 : out = []
          · subst h0
            simp [go_sem, t0, t2, t3, ofH, resV, resH, encU, e1, purse_eq]
          · simp [go_sem, t0, t2, t3, ofH, resV, resH, encU, e1, purse_eq, h0]
end Go.AM.R1
open Go Go.AM
namespace Go.AM.R1

/-! ### Which numbers are a block's -/
theorem ixor_nat {x y : Int} (hx : 0 ≤ x ∧ x ≤ 4294967295) (hy : 0 ≤ y ∧ y ≤ 4294967295) : ixor .u32 x y = ((BitVec.ofNat 32 x.toNat ^^^ BitVec.ofNat 32 y.toNat).toNat : Int) := by
  rw [← ixor_bv]
  congr 1
  · rw [BitVec.toNat_ofNat, Nat.mod_eq_of_lt (by omega)]; omega
  · rw [BitVec.toNat_ofNat, Nat.mod_eq_of_lt (by omega)]; omega
theorem ixor_comm {x y : Int} (hx : 0 ≤ x ∧ x ≤ 4294967295) (hy : 0 ≤ y ∧ y ≤ 4294967295) : ixor .u32 x y = ixor .u32 y x := by
  rw [ixor_nat hx hy, ixor_nat hy hx, BitVec.xor_comm]
theorem ixor_cancel {x y : Int} (hx : 0 ≤ x ∧ x ≤ 4294967295) (hy : 0 ≤ y ∧ y ≤ 4294967295) : ixor .u32 (ixor .u32 x y) y = x := by
  rw [ixor_nat (ixor_range x y) hy, ixor_nat hx hy]
  have e : (((BitVec.ofNat 32 x.toNat ^^^ BitVec.ofNat 32 y.toNat).toNat : Int)).toNat = (BitVec.ofNat 32 x.toNat ^^^ BitVec.ofNat 32 y.toNat).toNat := by omega
  rw [e, BitVec.ofNat_toNat, BitVec.setWidth_eq, BitVec.xor_assoc, BitVec.xor_self, BitVec.xor_zero, BitVec.toNat_ofNat, Nat.mod_eq_of_lt (by omega)]
  omega
def busOf (d : Int) : Int := if d = 4294967295 then 1 else 0
theorem inLp_true : ∀ (n : Nat) (s : List Nat × Bool) (last : Int) (out : List Run), (0 ≤ last ∧ last ≤ 4294967295) → (inLp n s last out).1.2 = true →
    s.2 = true ∧ ∃ R, (inLp n s last out).2 = out ++ R ∧ R.length = n ∧ s.1 = runN last R ++ (inLp n s last out).1.1 ∧ ∀ r ∈ R, 0 ≤ r.Drive ∧ r.Drive ≤ 4294967295
  | 0, s, last, out, _, h => ⟨h, [], by simp [inLp], rfl, by simp [inLp, runN], by simp⟩
  | n + 1, s, last, out, hl, h => by
    rw [inLp] at h ⊢
    obtain ⟨L, q⟩ := s
    obtain ⟨h1, R, e1, e2, e3, e4⟩ := inLp_true n _ _ _ (ixor_range _ _) h
    cases L with
    | nil => simp [nextB] at h1
    | cons x L =>
      by_cases c1 : 1073741824 < x
      · exfalso
        simp only [nextB, if_pos c1] at h1
        split at h1 <;> simp at h1
      · simp only [nextB, if_neg c1] at h1 e1 e2 e3 ⊢
        cases L with
        | nil => simp [nextB] at h1
        | cons y L =>
          by_cases c2 : 4294967295 < y
          · simp [nextB, c2] at h1
          · simp only [nextB, if_neg c2] at h1 e1 e2 e3 ⊢
            refine ⟨h1, ⟨(x : Nat), if ixor .u32 (y : Nat) last = 4294967295 then 1 else 0, ixor .u32 (y : Nat) last⟩ :: R, by rw [e1]; simp, by simp [e2], ?_, ?_⟩
            · simp only [runN, List.cons_append]
              rw [ixor_cancel ⟨by omega, by omega⟩ hl]
              simp only [Int.toNat_natCast]
              rw [← e3]
            · intro r hr
              rcases List.mem_cons.1 hr with rfl | hr
              · exact ixor_range _ _
              · exact e4 r hr
theorem ins_good {l : List Nat} (h : insOk l = true) : chkB (insA l).1 (insR l).2 = 0 ∧ numsN (insA l).1 (insR l).2 = l ∧ (∀ r ∈ (insR l).2, 0 ≤ r.Drive ∧ r.Drive ≤ 4294967295) := by
  simp only [insOk, Bool.and_eq_true, decide_eq_true_eq] at h
  obtain ⟨⟨h1, h2⟩, h3⟩ := h
  obtain ⟨g1, R, e1, e2, e3, e4⟩ := inLp_true (insC l).1 (insC l).2 4294967295 [] (by omega) h1
  rw [show inLp (insC l).1 (insC l).2 4294967295 [] = insR l from rfl] at e1 e3
  rw [List.nil_append] at e1
  rw [h2, List.append_nil] at e3
  refine ⟨h3, ?_, fun r hr => e4 r (by rw [e1] at hr; exact hr)⟩
  rw [e1, numsN, e2]
  unfold insC insA at e3 g1 ⊢
  cases l with
  | nil => simp [nextB] at g1
  | cons x l =>
    by_cases c1 : 1073741824 < x
    · exfalso
      simp only [nextB, if_pos c1] at g1
      split at g1 <;> simp at g1
    · simp only [nextB, if_neg c1] at e3 g1 ⊢
      cases l with
      | nil => simp [nextB] at g1
      | cons y l =>
        by_cases c2 : 4096 < y
        · simp [nextB, c2] at g1
        · simp only [nextB, if_neg c2] at e3 g1 ⊢
          rw [← e3]; rfl
theorem inLp_nums : ∀ (R : List Run) (last : Int) (out : List Run), (0 ≤ last ∧ last ≤ 4294967295) → (∀ r ∈ R, right r = true ∧ 0 ≤ r.Drive ∧ r.Drive ≤ 4294967295) → inLp R.length (runN last R, true) last out = (([], true), out ++ R)
  | [], last, out, _, _ => by simp [inLp, runN]
  | r :: R, last, out, hl, h => by
    obtain ⟨hr, hd⟩ := h r (by simp)
    have hN := right_N hr
    have hx := ixor_range r.Drive last
    rw [List.length_cons, inLp, runN]
    have c1 : ¬ 1073741824 < r.N.toNat := by omega
    have c2 : ¬ 4294967295 < (ixor .u32 r.Drive last).toNat := by omega
    have e4 : (((ixor .u32 r.Drive last).toNat : Nat) : Int) = ixor .u32 r.Drive last := by omega
    have e5 : ((r.N.toNat : Nat) : Int) = r.N := by omega
    simp only [nextB, if_neg c1, if_neg c2, e4, e5, ixor_cancel hd hl]
    have hb : (if r.Drive = 4294967295 then (1 : Int) else 0) = r.Bus := by
      simp only [right, Bool.and_eq_true, decide_eq_true_eq] at hr
      exact hr.2.symm
    rw [hb, inLp_nums R r.Drive _ hd fun x hx => h x (by simp [hx])]
    simp
theorem chk_all {l : List Run} (h : chk l = 0) : ∀ r ∈ l, right r = true := fun r hr => by
  unfold chk at h
  cases ha : l.all right with
  | false => rw [ha] at h; simp at h
  | true => exact List.all_eq_true.1 ha r hr
theorem ins_nums {f : Int} {R : List Run} (hc : chkB f R = 0) (hd : ∀ r ∈ R, 0 ≤ r.Drive ∧ r.Drive ≤ 4294967295) :
    ((insA (numsN f R)).1 : Int) = f ∧ (insR (numsN f R)).2 = R ∧ insOk (numsN f R) = true ∧ insL (numsN f R) = true := by
  obtain ⟨h1, h2, h3, h4, h5, h6⟩ := chkB_ok hc
  have hall := chk_all h4
  have c1 : ¬ 1073741824 < f.toNat := by omega
  have c2 : ¬ 4096 < R.length := by omega
  have eA : insA (numsN f R) = (f.toNat, (R.length :: runN 4294967295 R, true)) := by unfold insA numsN; rw [nextB, if_neg c1]
  have eC : insC (numsN f R) = (R.length, (runN 4294967295 R, true)) := by unfold insC; rw [eA, nextB, if_neg c2]
  have eR : insR (numsN f R) = (([], true), R) := by
    unfold insR; rw [eC]
    have := inLp_nums R 4294967295 [] (by omega) fun r hr => ⟨hall r hr, hd r hr⟩
    simpa using this
  have ef : ((f.toNat : Nat) : Int) = f := by omega
  refine ⟨by rw [eA]; exact ef, by rw [eR], ?_, ?_⟩
  · unfold insOk
    rw [eR, eA]
    simp [ef, hc]
  · unfold insL
    rw [eR]; rfl
theorem ofLp_nums : ∀ (R : List Run) (last : Int) (out : List Run), (0 ≤ last ∧ last ≤ 4294967295) → (∀ r ∈ R, right r = true ∧ 0 ≤ r.Drive ∧ r.Drive ≤ 4294967295) → ofLp (runN last R) last out = (true, out ++ R)
  | [], last, out, _, _ => by simp [ofLp, runN]
  | r :: R, last, out, hl, h => by
    obtain ⟨hr, hd⟩ := h r (by simp)
    have hN := right_N hr
    have hx := ixor_range r.Drive last
    rw [runN, ofLp, if_neg (by omega)]
    have e4 : (((ixor .u32 r.Drive last).toNat : Nat) : Int) = ixor .u32 r.Drive last := by omega
    have e5 : ((r.N.toNat : Nat) : Int) = r.N := by omega
    rw [e4, e5, ixor_comm hl hx, ixor_cancel hd hl]
    have hb : (if r.Drive = 4294967295 then (1 : Int) else 0) = r.Bus := by
      simp only [right, Bool.and_eq_true, decide_eq_true_eq] at hr
      exact hr.2.symm
    rw [hb, ofLp_nums R r.Drive _ hd fun x hx => h x (by simp [hx])]
    simp
theorem of_nums {f : Int} {R : List Run} (hc : chkB f R = 0) (hd : ∀ r ∈ R, 0 ≤ r.Drive ∧ r.Drive ≤ 4294967295) : ofR (numsN f R) = (f, R) := by
  obtain ⟨h1, h2, h3, h4, h5, h6⟩ := chkB_ok hc
  have hall := chk_all h4
  have hl := runN_length R 4294967295
  unfold numsN
  rw [ofR, if_neg (by simp [hl]; omega), ofLp_nums R 4294967295 [] (by omega) fun r hr => ⟨hall r hr, hd r hr⟩, if_pos rfl]
  simp; omega
theorem ofLp_drive : ∀ (d : Nat) (l : List Nat) (last : Int) (out : List Run), l.length ≤ d → (∀ r ∈ out, (0 ≤ r.Drive ∧ r.Drive ≤ 4294967295) ∧ 0 ≤ r.N ∧ r.N ≤ 1073741824) → ∀ r ∈ (ofLp l last out).2, (0 ≤ r.Drive ∧ r.Drive ≤ 4294967295) ∧ 0 ≤ r.N ∧ r.N ≤ 1073741824
  | _, [], _, _, _, h => h
  | _, [_], _, _, _, h => h
  | 0, _ :: _ :: _, _, _, hl, _ => by simp at hl
  | d + 1, n :: y :: l, last, out, hl, h => by
    rw [ofLp]
    split
    · exact h
    · refine ofLp_drive d l _ _ (by simp at hl; omega) fun r hr => ?_
      rcases List.mem_append.1 hr with hr | hr
      · exact h r hr
      · simp at hr; subst hr; exact ⟨ixor_range _ _, by simp, by simp; omega⟩
theorem of_drive (l : List Nat) : ∀ r ∈ (ofR l).2, (0 ≤ r.Drive ∧ r.Drive ≤ 4294967295) ∧ 0 ≤ r.N ∧ r.N ≤ 1073741824 := by
  match l with
  | [] => simp [ofR]
  | [_] => simp [ofR]
  | a :: c :: r =>
    rw [ofR]
    split
    · simp
    · split
      · exact ofLp_drive r.length r _ _ (by omega) (by simp)
      · exact ofLp_drive r.length r _ _ (by omega) (by simp)
theorem ofLp_length : ∀ (d : Nat) (l : List Nat) (last : Int) (out : List Run), l.length ≤ d → (ofLp l last out).2.length ≤ out.length + l.length
  | _, [], _, _, _ => by simp [ofLp]
  | _, [_], _, _, _ => by simp [ofLp]
  | 0, _ :: _ :: _, _, _, hl => by simp at hl
  | d + 1, n :: y :: l, last, out, hl => by
    rw [ofLp]
    split
    · simp
    · have := ofLp_length d l (ixor .u32 last (y : Nat)) (out ++ [⟨(n : Nat), if ixor .u32 last (y : Nat) = 4294967295 then 1 else 0, ixor .u32 last (y : Nat)⟩]) (by simp at hl; omega)
      simp at this ⊢; omega
theorem of_length (l : List Nat) : (ofR l).2.length ≤ l.length := by
  match l with
  | [] => simp [ofR]
  | [_] => simp [ofR]
  | a :: c :: r =>
    rw [ofR]
    have := ofLp_length r.length r 4294967295 [] (by omega)
    split
    · simp
    · split <;> simp at this ⊢ <;> omega
/-- The two ways to a block agree. -/
theorem of_ins (l : List Nat) : (chkB (ofR l).1 (ofR l).2 = 0 ∧ numsN (ofR l).1 (ofR l).2 = l) ↔ insOk l = true := by
  constructor
  · rintro ⟨h1, h2⟩
    have := ins_nums h1 fun r hr => (of_drive l r hr).1
    rw [h2] at this
    exact this.2.2.1
  · intro h
    obtain ⟨h1, h2, h3⟩ := ins_good h
    have := of_nums h1 h3
    rw [h2] at this
    rw [this]
    exact ⟨h1, h2⟩
theorem of_ins_eq {l : List Nat} (h : insOk l = true) : ofR l = (((insA l).1 : Int), (insR l).2) := by
  obtain ⟨h1, h2, h3⟩ := ins_good h
  have := of_nums h1 h3
  rwa [h2] at this
theorem ins_locked {l : List Nat} (h : insOk l = true) : insL l = true := by
  obtain ⟨h1, h2, h3⟩ := ins_good h
  have := (ins_nums h1 h3).2.2.2
  rwa [h2] at this
end Go.AM.R1
open Go Go.AM
namespace Go.AM.R1

/-! ### Get -/
theorem size_ok {b : List Nat} (hb : ∀ c ∈ b, c < 256) (h : (sizeB b).2 = 0) :
    (getN b).2.2 = 0 ∧ (getN b).1 ≤ 65536 ∧ sizeB b = ((((getN b).2.1 + (getN b).1 + 4 : Nat) : Int), 0) ∧ 1 ≤ (getN b).2.1 ∧ (getN b).2.1 ≤ 10 := by
  unfold sizeB at h ⊢
  split at h
  · rename_i h1; simp at h; exact absurd h h1
  · rename_i h1
    have h1' : (getN b).2.2 = 0 := by simpa using h1
    split at h
    · simp at h
    · rename_i h2
      have hk := get_k_le hb h1'
      exact ⟨h1', by omega, by rw [if_neg h1, if_neg h2], hk.1, hk.2.1⟩
/-- What the whole of a block, without its sum, begins with. -/
theorem get_whole {b : List Nat} (hb : ∀ c ∈ b, c < 256) (h : (getN b).2.2 = 0) (m : Nat) (hm : (getN b).2.1 ≤ m) : getN (b.take m) = ((getN b).1, (getN b).2.1, 0) := by
  obtain ⟨e1, e2, e3⟩ := get_ok hb h
  have : b.take m = putN (getN b).1 ++ (b.drop (getN b).2.1).take (m - (getN b).2.1) := by
    conv => lhs; rw [e1]
    rw [List.take_append, List.take_of_length_le (by omega), ← e2]
  rw [this, get_put e3, ← e2]
def getB (b : List Nat) : (Int × List Run) × Int × Int :=
  if (sizeB b).2 ≠ 0 then ((0, []), 0, (sizeB b).2)
  else if (b.length : Int) < (sizeB b).1 then ((0, []), 0, 13)
  else if openE (b.take (sizeB b).1.toNat) ≠ 0 then ((0, []), 0, openE (b.take (sizeB b).1.toNat))
  else if (allN ((b.take ((sizeB b).1.toNat - 4)).drop (getN b).2.1)).2.2 = 0 ∧ insOk (allN ((b.take ((sizeB b).1.toNat - 4)).drop (getN b).2.1)).1 = true then
    (((insA (allN ((b.take ((sizeB b).1.toNat - 4)).drop (getN b).2.1)).1).1, (insR (allN ((b.take ((sizeB b).1.toNat - 4)).drop (getN b).2.1)).1).2), (sizeB b).1, 0)
  else ((0, []), 0, 11)
theorem bget_spec (b : List Nat) (hb : ∀ c ∈ b, c < 256) (hl : b.length ≤ 1099511627) (nl fu : Bool) (hnl : nl = false ∨ b = []) :
    call E (.func (.func 38) [] []) [.imm nl fu true (b.map encB)] []
      = some (.tup [.agg [.lit (.int .i64 (getB b).1.1), resV 0 ((getB b).1.2.map encRun)], .lit (.int .i64 (getB b).2.1), .lit (.int .i64 (getB b).2.2)], resHl true ((getB b).1.2.map encRun)) := by
  rw [call_func E E38]
  have hS := size_spec b hb (by omega) nl fu
  by_cases h1 : (sizeB b).2 = 0
  · obtain ⟨g1, g2, g3, g4, g5⟩ := size_ok hb h1
    by_cases h2 : (b.length : Int) < (sizeB b).1
    · have e : getB b = ((0, []), 0, 13) := by unfold getB; rw [if_neg (by simp [h1]), if_pos h2]
      rw [h1] at hS
      simp [go_sem, ir38, hS, e, h2, resV, resHl, purse_eq]
    · have hnl' : nl = false := by
        rcases hnl with h | h
        · exact h
        · subst h; exfalso; simp [getN, getGo] at g1
      subst hnl'
      generalize hn : (getN b).2.1 + (getN b).1 + 4 = n at *
      rw [g3] at hS h2
      simp only [] at hS h2
      have hnle : n ≤ b.length := by omega
      have hr := rowsB b
      have hbt : ∀ c ∈ b.take n, c < 256 := fun c hc => hb c (List.mem_of_mem_take hc)
      have hO := open_spec (b.take n) hbt (by simp; omega) (fu && decide (n = b.length))
      have htl : (b.take n).length = n := by simp; omega
      have htt : (b.take n).take (n - 4) = b.take (n - 4) := by rw [List.take_take, Nat.min_eq_left (by omega)]
      rw [htl, htt] at hO
      by_cases h3 : openE (b.take n) = 0
      · rw [if_pos h3] at hO
        have hw := get_whole hb g1 (n - 4) (by omega)
        have hwb : ∀ c ∈ b.take (n - 4), c < 256 := fun c hc => hb c (List.mem_of_mem_take hc)
        have hG := vget_spec (b.take (n - 4)) hwb (by simp; omega) false false
        have hA := all_spec ((b.take (n - 4)).drop (getN b).2.1) (fun c hc => hwb c (List.mem_of_mem_drop hc)) (by simp; omega) false false
        have hI := fun nl fu => inside_spec (allN ((b.take (n - 4)).drop (getN b).2.1)).1 nl fu
        have e : getB b = if (allN ((b.take (n - 4)).drop (getN b).2.1)).2.2 = 0 ∧ insOk (allN ((b.take (n - 4)).drop (getN b).2.1)).1 = true then
            ((((insA (allN ((b.take (n - 4)).drop (getN b).2.1)).1).1 : Int), (insR (allN ((b.take (n - 4)).drop (getN b).2.1)).1).2), (n : Int), 0) else ((0, []), 0, 11) := by
          unfold getB
          rw [g3, if_neg (by simp), if_neg (by simpa using h2)]
          simp only [Int.toNat_natCast]
          rw [if_neg (by simp [h3])]
        have hwl : (b.take (n - 4)).length = n - 4 := by simp; omega
        have hwe : (b.take (n - 4)).isEmpty = false := by
          cases hq : b.take (n - 4) with
          | nil => rw [hq] at hwl; simp at hwl; omega
          | cons x xs => rfl
        rw [hw] at hG
        rw [hwe] at hO
        have hcut : cutE ((b.take (n - 4)).map encB) (getN b).2.1 (n - 4 - (getN b).2.1) = ((b.take (n - 4)).drop (getN b).2.1).map encB := by
          unfold cutE
          rw [List.take_of_length_le (by simp; omega), List.map_drop]
        have hil := fun h => ins_locked (l := (allN ((b.take (n - 4)).drop (getN b).2.1)).1) h
        generalize allN ((b.take (n - 4)).drop (getN b).2.1) = a at hA hI e hil
        have hkn : (getN b).2.1 ≤ n - 4 := by omega
        have hkn2 : (getN b).2.1 + (n - 4 - (getN b).2.1) = n - 4 := by omega
        have hrw := rowsB (b.take (n - 4))
        clear htt hw hwb hwe
        generalize b.take (n - 4) = w at *
        rw [List.map_take] at hO
        have hle : w.length + 4 = n := by omega
        by_cases ha : a.2.2 = 0
        · rw [if_pos ha] at hA
          by_cases ha1 : a.1 = []
          · rw [if_pos ha1] at hA
            have hI1 := hI true true
            rw [ha1] at hI1
            have hok : insOk a.1 = false := by rw [ha1]; rfl
            rw [ha1] at hok
            have e2 : getB b = ((0, []), 0, 11) := by rw [e, if_neg (by rw [ha1, hok]; simp)]
            rw [hok] at hI1
            rw [show (insA []).1 = 0 from rfl, show (insR []).2 = [] from rfl] at hI1
            simp [resV, resHl] at hI1
            simp [hle] at hO hA hG
            simp [go_sem, ir38, hS, e2, h2, hnle, hr, hO, h3, hG, hkn, hkn2, hwl, hrw, hcut, hA, hI1, resV, resHl, purse_eq]
          · rw [if_neg ha1] at hA
            have hI1 := hI false false
            cases hok : insOk a.1 with
            | true =>
              obtain ⟨g6, g7, g8⟩ := ins_good hok
              have hRne := (chkB_ok g6).2.1
              have e2 : getB b = ((((insA a.1).1 : Int), (insR a.1).2), (n : Int), 0) := by rw [e, if_pos ⟨ha, hok⟩]
              rw [hok, hil hok] at hI1
              simp [resV, resHl, hRne] at hI1
              simp [hle] at hO hA hG
              simp [go_sem, ir38, hS, e2, h2, hnle, hr, hO, h3, hG, hkn, hkn2, hwl, hrw, hcut, hA, hI1, resV, resHl, hRne, purse_eq]
            | false =>
              have e2 : getB b = ((0, []), 0, 11) := by rw [e, if_neg (by rw [hok]; simp)]
              rw [hok] at hI1
              by_cases hR : (insR a.1).2 = []
              · simp [resV, resHl, hR] at hI1
                simp [hle] at hO hA hG
                simp [go_sem, ir38, hS, e2, h2, hnle, hr, hO, h3, hG, hkn, hkn2, hwl, hrw, hcut, hA, hI1, resV, resHl, hR, purse_eq]
              · simp [resV, resHl, hR] at hI1
                simp [hle] at hO hA hG
                simp [go_sem, ir38, hS, e2, h2, hnle, hr, hO, h3, hG, hkn, hkn2, hwl, hrw, hcut, hA, hI1, resV, resHl, hR, purse_eq]
        · rw [if_neg ha] at hA
          have hI1 := inside_spec [] true true
          have hok : insOk [] = false := rfl
          have e2 : getB b = ((0, []), 0, 11) := by rw [e, if_neg (fun h => ha h.1)]
          rw [hok, show (insA []).1 = 0 from rfl, show (insR []).2 = [] from rfl] at hI1
          simp [resV, resHl] at hI1
          simp [hle] at hO hA hG
          simp [go_sem, ir38, hS, e2, h2, hnle, hr, hO, h3, hG, hkn, hkn2, hwl, hrw, hcut, hA, hI1, ha, resV, resHl, purse_eq]
      · rw [if_neg h3] at hO
        have e : getB b = ((0, []), 0, openE (b.take n)) := by
          unfold getB
          rw [g3, if_neg (by simp), if_neg (by simpa using h2)]
          simp only [Int.toNat_natCast]
          rw [if_pos h3]
        rw [List.map_take] at hO
        simp [go_sem, ir38, hS, e, h2, hnle, hr, hO, h3, resV, resHl, purse_eq]
  · have e : getB b = ((0, []), 0, (sizeB b).2) := by unfold getB; rw [if_pos h1]
    simp [go_sem, ir38, hS, e, h1, resV, resHl, purse_eq]
end Go.AM.R1
open Go Go.AM
namespace Go.AM.R1

theorem sealB_inj {x y : List Nat} (h : sealB x = sealB y) : x = y := by
  have hl := congrArg List.length h
  rw [sealB_length, sealB_length] at hl
  exact (List.append_inj h (by omega)).1
theorem wholeB_inj {l m : List Nat} (hl : ∀ n ∈ l, n < 18446744073709551616) (hm : ∀ n ∈ m, n < 18446744073709551616) (hll : (bytesN l).length < 18446744073709551616) (hml : (bytesN m).length < 18446744073709551616) (h : wholeB l = wholeB m) : l = m := by
  have h1 := sealB_inj h
  have g1 := get_put hll (bytesN l)
  have g2 := get_put hml (bytesN m)
  rw [h1, g2] at g1
  simp only [Prod.mk.injEq] at g1
  rw [g1.1] at h1
  exact bytesN_inj hl hm (List.append_cancel_left h1)
/-- Bytes that open are those of their numbers. -/
theorem whole_take {b : List Nat} (hb : ∀ c ∈ b, c < 256) (h1 : (getN b).2.2 = 0) {n : Nat} (hn : (getN b).2.1 + (getN b).1 + 4 = n) (hle : n ≤ b.length) (h3 : openE (b.take n) = 0)
    (ha : (allN ((b.take (n - 4)).drop (getN b).2.1)).2.2 = 0) : b.take n = wholeB (allN ((b.take (n - 4)).drop (getN b).2.1)).1 ∧ (∀ m ∈ (allN ((b.take (n - 4)).drop (getN b).2.1)).1, m < 18446744073709551616) ∧
      (bytesN (allN ((b.take (n - 4)).drop (getN b).2.1)).1).length = (getN b).1 := by
  have htl : (b.take n).length = n := by simp; omega
  have htt : (b.take n).take (n - 4) = b.take (n - 4) := by rw [List.take_take, Nat.min_eq_left (by omega)]
  have hk := get_k_le hb h1
  have hs := (seal_take (b.take n) (by omega)).1 h3
  rw [htl, htt] at hs
  have hw := get_whole hb h1 (n - 4) (by omega)
  have hwb : ∀ c ∈ b.take (n - 4), c < 256 := fun c hc => hb c (List.mem_of_mem_take hc)
  obtain ⟨e1, e2, e3⟩ := get_ok hwb (by rw [hw])
  rw [hw] at e1 e2 e3
  simp only [] at e1 e2 e3
  have hwl : (b.take (n - 4)).length = n - 4 := by simp; omega
  generalize hwg : b.take (n - 4) = w at *
  obtain ⟨l', f1, f2, f3, f4⟩ := all_ok (w.drop (getN b).2.1).length (w.drop (getN b).2.1) 0 [] (allN (w.drop (getN b).2.1)).1 (allN (w.drop (getN b).2.1)).2.1 (fun c hc => hwb c (List.mem_of_mem_drop hc)) (by omega) (by
    show allN (w.drop (getN b).2.1) = _
    rw [← ha])
  rw [List.nil_append] at f1
  rw [List.drop_zero] at f2
  rw [f1]
  have hbl : (bytesN l').length = (getN b).1 := by rw [← f2, List.length_drop]; omega
  refine ⟨?_, f3, hbl⟩
  rw [← hs, wholeB, hbl, ← f2, ← e1]
theorem nums_lt64 {f : Int} {R : List Run} (hc : chkB f R = 0) : ∀ n ∈ numsN f R, n < 18446744073709551616 := fun n hn => by
  obtain ⟨h1, h2, h3, h4, h5, h6⟩ := chkB_ok hc
  have := nums_lt h1 h3 (chk_right h4).1 n hn
  omega
theorem nums_bytes {f : Int} {R : List Run} (hc : chkB f R = 0) : (bytesN (numsN f R)).length ≤ 82000 := by
  obtain ⟨h1, h2, h3, h4, h5, h6⟩ := chkB_ok hc
  exact inside_len h1 h3 (chk_right h4).1
theorem wholeB_byte (l : List Nat) (hl : ∀ n ∈ l, n < 18446744073709551616) (hll : (bytesN l).length < 18446744073709551616) : ∀ c ∈ wholeB l, c < 256 := by
  intro c hc
  simp only [wholeB, sealB, List.mem_append] at hc
  rcases hc with (hc | hc) | hc
  · exact putN_byte 9 _ (by omega) c hc
  · exact bytes_byte l hl c hc
  · exact tail_byte _ c hc
theorem allN_length : ∀ (d : Nat) (b : List Nat) (p : Nat) (acc : List Nat), (∀ c ∈ b, c < 256) → acc.length ≤ p → p ≤ b.length → (allGo d b p acc).1.length ≤ b.length
  | 0, b, p, acc, _, h, hp => by simp [allGo]; omega
  | d + 1, b, p, acc, hb, h, hp => by
    rw [allGo]
    split
    · simp; omega
    · split
      · rename_i h1 h2
        have hk := get_k_le (fun c hc => hb c (List.mem_of_mem_drop hc)) h2
        simp at hk
        exact allN_length d b _ _ hb (by simp; omega) (by omega)
      · simp
theorem rget15_spec (b : List Nat) (hb : ∀ c ∈ b, c < 256) (hl : b.length ≤ 1000000) (nl fu : Bool) :
    call E (.func (.func 39) [] []) [.imm nl fu true (b.map encB)] []
      = some (.tup [.agg [.lit (.int .i64 (getB b).1.1), resV 0 ((getB b).1.2.map encRun)], .lit (.int .i64 (getB b).2.1), .lit (.int .i64 (getB b).2.2)], resHl true ((getB b).1.2.map encRun)) := by
  rw [call_func E E39]
  have hS := rsize_spec b hb (by omega) nl fu
  by_cases h1 : (sizeB b).2 = 0
  · obtain ⟨g1, g2, g3, g4, g5⟩ := size_ok hb h1
    by_cases h2 : (b.length : Int) < (sizeB b).1
    · have e : getB b = ((0, []), 0, 13) := by unfold getB; rw [if_neg (by simp [h1]), if_pos h2]
      rw [h1] at hS
      simp [go_sem, ir39, hS, e, h2, resV, resHl, purse_eq]
    · generalize hn : (getN b).2.1 + (getN b).1 + 4 = n at *
      rw [g3] at hS h2
      simp only [] at hS h2
      have hnle : n ≤ b.length := by omega
      have hr := rowsB b
      have hbt : ∀ c ∈ b.take n, c < 256 := fun c hc => hb c (List.mem_of_mem_take hc)
      have hO := ropen_spec (b.take n) hbt (by simp; omega) nl (fu && decide (n = b.length))
      have htl : (b.take n).length = n := by simp; omega
      have htt : (b.take n).take (n - 4) = b.take (n - 4) := by rw [List.take_take, Nat.min_eq_left (by omega)]
      have hdn : decide (n - 4 = n) = false := decide_eq_false (by omega)
      rw [htl, htt, hdn, Bool.and_false] at hO
      by_cases h3 : openE (b.take n) = 0
      · rw [if_pos h3] at hO
        have hw := get_whole hb g1 (n - 4) (by omega)
        have hwb : ∀ c ∈ b.take (n - 4), c < 256 := fun c hc => hb c (List.mem_of_mem_take hc)
        have hG := rget_spec (b.take (n - 4)) hwb (by simp; omega) nl false
        have hA := rall_spec ((b.take (n - 4)).drop (getN b).2.1) (fun c hc => hwb c (List.mem_of_mem_drop hc)) (by simp; omega) nl false
        have hWT := whole_take hb g1 hn hnle h3
        have hal := allN_length ((b.take (n - 4)).drop (getN b).2.1).length ((b.take (n - 4)).drop (getN b).2.1) 0 [] (fun c hc => hwb c (List.mem_of_mem_drop hc)) (by simp) (by omega)
        rw [show allGo ((b.take (n - 4)).drop (getN b).2.1).length ((b.take (n - 4)).drop (getN b).2.1) 0 [] = allN ((b.take (n - 4)).drop (getN b).2.1) from rfl] at hal
        have e : getB b = if (allN ((b.take (n - 4)).drop (getN b).2.1)).2.2 = 0 ∧ insOk (allN ((b.take (n - 4)).drop (getN b).2.1)).1 = true then
            ((((insA (allN ((b.take (n - 4)).drop (getN b).2.1)).1).1 : Int), (insR (allN ((b.take (n - 4)).drop (getN b).2.1)).1).2), (n : Int), 0) else ((0, []), 0, 11) := by
          unfold getB
          rw [g3, if_neg (by simp), if_neg (by simpa using h2)]
          simp only [Int.toNat_natCast]
          rw [if_neg (by simp [h3])]
        have hwl : (b.take (n - 4)).length = n - 4 := by simp; omega
        rw [hw] at hG
        rw [List.map_drop] at hA
        have hrw := rowsB (b.take (n - 4))
        have htw := take_allB (b.take (n - 4))
        have hkn : (getN b).2.1 ≤ n - 4 := by omega
        have hdl : ((b.take (n - 4)).drop (getN b).2.1).length ≤ b.length := by simp; omega
        clear htt hw hwb
        generalize b.take (n - 4) = w at *
        have hle : w.length + 4 = n := by omega
        rw [hwl] at htw
        rw [List.map_take] at hO
        generalize allN (w.drop (getN b).2.1) = a at *
        have hOf := of_spec a.1 (by omega) false (a.1.isEmpty)
        have hon := of_ins a.1
        have hof := of_ins_eq (l := a.1)
        have hod := of_drive a.1
        have hol := of_length a.1
        by_cases ha : a.2.2 = 0
        · rw [if_pos ha] at hA
          obtain ⟨w1, w2, w3⟩ := hWT ha
          have hCk := fun nl fu => rcheck_spec (ofR a.1).1 (by
            have : ∀ l : List Nat, -1 ≤ (ofR l).1 ∧ (ofR l).1 ≤ 1073741824 := by
              intro l
              match l with
              | [] => simp [ofR]
              | [_] => simp [ofR]
              | x :: y :: r =>
                rw [ofR]
                split
                · simp
                · split <;> simp; omega
            have := this a.1
            omega) (ofR a.1).2 (by omega) nl fu
          have hlt64 : ∀ m, m = ofR a.1 → chkB m.1 m.2 = 0 → (wholeB (numsN m.1 m.2) = b.take n ↔ numsN m.1 m.2 = a.1) := by
            intro m hm hc
            constructor
            · intro hW
              rw [w1] at hW
              exact wholeB_inj (nums_lt64 hc) w2 (by have := nums_bytes hc; omega) (by omega) hW
            · intro hN
              rw [hN, w1]
          generalize hx : ofR a.1 = x at *
          obtain ⟨f, R⟩ := x
          simp only [] at hOf hon hCk hol
          by_cases hc : chkB f R = 0
          · have hRne := (chkB_ok hc).2.1
            have hP := rput15_spec f R false false hc
            have hCk1 := hCk false false
            rw [hc] at hCk1
            have hw64 := hlt64 (f, R) rfl hc
            have hwby := wholeB_byte (numsN f R) (nums_lt64 hc) (by have := nums_bytes hc; omega)
            simp only [] at hw64
            generalize wholeB (numsN f R) = W at hP hw64 hwby
            have hb1 := bytesOf_map W
            have hb2 : bytesOf (List.take n (List.map encB b)) = some ((b.take n).map UInt8.ofNat) := by rw [← List.map_take, bytesOf_map]
            have hWm : (W.map UInt8.ofNat == (b.take n).map UInt8.ofNat) = decide (W = b.take n) := by
              by_cases hq : W = b.take n
              · rw [hq]; simp
              · rw [decide_eq_false hq, beq_eq_false_iff_ne]
                exact fun e => hq (map_ofNat_inj hwby hbt e)
            generalize W.map UInt8.ofNat = S1 at hb1 hWm
            generalize (b.take n).map UInt8.ofNat = S2 at hb2 hWm
            by_cases hW : W = b.take n
            · have hok : insOk a.1 = true := hon.1 ⟨hc, hw64.1 hW⟩
              have e3 := hof hok
              simp only [Prod.mk.injEq] at e3
              have e2 : getB b = ((f, R), (n : Int), 0) := by rw [e, if_pos ⟨ha, hok⟩, ← e3.1, ← e3.2]
              simp [hle] at hO hA hG
              simp [resV, resH, hRne] at hOf
              simp [encBlk] at hCk1 hP
              rw [decide_eq_true hW] at hWm
              simp at hWm
              subst hWm
              simp [go_sem, ir39, hS, e2, h2, hnle, hr, hO, h3, hG, hkn, hwl, hrw, htw, hA, hOf, hCk1, hP, hb1, hb2, resV, resHl, hRne, purse_eq]
            · have hok : insOk a.1 = false := by
                cases hq : insOk a.1 with
                | false => rfl
                | true => exact absurd (hw64.2 (hon.2 hq).2) hW
              have e2 : getB b = ((0, []), 0, 11) := by rw [e, if_neg (by rw [hok]; simp)]
              simp [hle] at hO hA hG
              simp [resV, resH, hRne] at hOf
              simp [encBlk] at hCk1 hP
              rw [decide_eq_false hW] at hWm
              simp at hWm
              simp [go_sem, ir39, hS, e2, h2, hnle, hr, hO, h3, hG, hkn, hwl, hrw, htw, hA, hOf, hCk1, hP, hb1, hb2, hWm, resV, resHl, hRne, purse_eq]
          · have hok : insOk a.1 = false := by
              cases hq : insOk a.1 with
              | false => rfl
              | true => exact absurd (hon.2 hq).1 hc
            have e2 : getB b = ((0, []), 0, 11) := by rw [e, if_neg (by rw [hok]; simp)]
            simp [hle] at hO hA hG
            by_cases hR : R = []
            · subst hR
              have hCk1 := hCk true true
              simp [resV, resH] at hOf
              simp [encBlk] at hCk1
              simp [go_sem, ir39, hS, e2, h2, hnle, hr, hO, h3, hG, hkn, hwl, hrw, htw, hA, hOf, hCk1, hc, resV, resHl, purse_eq]
            · have hCk1 := hCk false false
              simp [resV, resH, hR] at hOf
              simp [encBlk] at hCk1
              simp [go_sem, ir39, hS, e2, h2, hnle, hr, hO, h3, hG, hkn, hwl, hrw, htw, hA, hOf, hCk1, hc, hR, resV, resHl, purse_eq]
        · rw [if_neg ha] at hA
          have hOf0 := of_spec [] (by simp) true true
          have e2 : getB b = ((0, []), 0, 11) := by rw [e, if_neg (fun h => ha h.1)]
          rw [show ofR [] = (-1, []) from rfl] at hOf0
          simp [resV, resH] at hOf0
          simp [hle] at hO hA hG
          simp [go_sem, ir39, hS, e2, h2, hnle, hr, hO, h3, hG, hkn, hwl, hrw, htw, hA, hOf0, ha, resV, resHl, purse_eq]
      · rw [if_neg h3] at hO
        have e : getB b = ((0, []), 0, openE (b.take n)) := by
          unfold getB
          rw [g3, if_neg (by simp), if_neg (by simpa using h2)]
          simp only [Int.toNat_natCast]
          rw [if_pos h3]
        rw [List.map_take] at hO
        simp [go_sem, ir39, hS, e, h2, hnle, hr, hO, h3, resV, resHl, purse_eq]
  · have e : getB b = ((0, []), 0, (sizeB b).2) := by unfold getB; rw [if_pos h1]
    simp [go_sem, ir39, hS, e, h1, resV, resHl, purse_eq]
end Go.AM.R1
open Go Go.AM
namespace Go.AM.R1

/-! ### A block that is put is got, and what is got was put -/
theorem bytes_len5 (l : List Nat) (h : ∀ n ∈ l, n < 4294967296) : (bytesN l).length ≤ 5 * l.length := by
  induction l with
  | nil => simp [bytesN]
  | cons n l ih =>
    have h1 := putN_length 4 n (by have := h n (by simp); omega)
    have h2 := ih fun m hm => h m (by simp [hm])
    simp only [bytesN, List.flatMap_cons, List.length_append, List.length_cons] at h2 ⊢
    omega
theorem inside_65536 {f : Int} {R : List Run} (hc : chkB f R = 0) : (bytesN (numsN f R)).length ≤ 41000 := by
  obtain ⟨h1, h2, h3, h4, h5, h6⟩ := chkB_ok hc
  have := bytes_len5 (numsN f R) (nums_lt h1 h3 (chk_right h4).1)
  have e : (numsN f R).length = 2 * R.length + 2 := by simp only [numsN, List.length_cons, runN_length]
  omega
theorem whole_len (l : List Nat) : (wholeB l).length = (putN (bytesN l).length).length + (bytesN l).length + 4 := whole_length l
theorem size_put {l : List Nat} (hl : (bytesN l).length ≤ 65536) (r : List Nat) : getN (wholeB l ++ r) = ((bytesN l).length, (putN (bytesN l).length).length, 0) ∧ sizeB (wholeB l ++ r) = (((wholeB l).length : Int), 0) := by
  have e : wholeB l ++ r = putN (bytesN l).length ++ (bytesN l ++ (tailN (crc (putN (bytesN l).length ++ bytesN l)).toNat ++ r)) := by
    simp [wholeB, sealB]
  have hg : getN (wholeB l ++ r) = ((bytesN l).length, (putN (bytesN l).length).length, 0) := by rw [e]; exact get_put (by omega) _
  refine ⟨hg, ?_⟩
  unfold sizeB
  rw [hg, if_neg (by simp), if_neg (by simp; omega), whole_len]
theorem get_of_put {f : Int} {R : List Run} (hc : chkB f R = 0) (hd : ∀ r ∈ R, 0 ≤ r.Drive ∧ r.Drive ≤ 4294967295) (r : List Nat) :
    getB (wholeB (numsN f R) ++ r) = ((f, R), ((wholeB (numsN f R)).length : Int), 0) := by
  have hlen := inside_65536 hc
  obtain ⟨hg, hs⟩ := size_put (l := numsN f R) (by omega) r
  have hn64 := nums_lt64 hc
  have hwl := whole_len (numsN f R)
  have hW4 : (wholeB (numsN f R)).take ((wholeB (numsN f R)).length - 4) = putN (bytesN (numsN f R)).length ++ bytesN (numsN f R) := by
    rw [whole_len]
    unfold wholeB sealB
    rw [List.take_append_of_le_length (by simp <;> omega), List.take_of_length_le (by simp)]
  have hT : (wholeB (numsN f R) ++ r).take (wholeB (numsN f R)).length = wholeB (numsN f R) := by rw [List.take_append_of_le_length (by omega), List.take_length]
  have hO : openE (wholeB (numsN f R)) = 0 := by
    rw [seal_take _ (by omega), hW4]; rfl
  have hT4 : (wholeB (numsN f R) ++ r).take ((wholeB (numsN f R)).length - 4) = putN (bytesN (numsN f R)).length ++ bytesN (numsN f R) := by
    rw [List.take_append_of_le_length (by omega), hW4]
  have hA : allN (bytesN (numsN f R)) = (numsN f R, 0, 0) := by
    have := all_bytes (numsN f R) (bytesN (numsN f R)).length (bytesN (numsN f R)) 0 [] rfl hn64 (by omega)
    simpa [allN] using this
  obtain ⟨i1, i2, i3, i4⟩ := ins_nums hc hd
  unfold getB
  rw [hs, if_neg (by simp), if_neg (by simp; omega)]
  simp only [Int.toNat_natCast]
  rw [hT, if_neg (by simp [hO]), hT4, hg]
  simp only []
  rw [List.drop_left, hA]
  simp only []
  rw [if_pos ⟨trivial, i3⟩, i1, i2]
/-- What is got. -/
theorem put_of_get {b : List Nat} (hb : ∀ c ∈ b, c < 256) (h : (getB b).2.2 = 0) :
    ∃ (f : Int) (R : List Run) (n : Nat), getB b = ((f, R), (n : Int), 0) ∧ chkB f R = 0 ∧ (∀ r ∈ R, 0 ≤ r.Drive ∧ r.Drive ≤ 4294967295) ∧ b.take n = wholeB (numsN f R) ∧ 1 ≤ n ∧ n ≤ b.length := by
  unfold getB at h
  split at h
  · rename_i h1; simp at h; exact absurd h h1
  · rename_i h1
    have h1' : (sizeB b).2 = 0 := by simpa using h1
    obtain ⟨g1, g2, g3, g4, g5⟩ := size_ok hb h1'
    split at h
    · simp at h
    · rename_i h2
      split at h
      · rename_i h3; simp at h; exact absurd h h3
      · rename_i h3
        split at h
        · rename_i h4
          rw [g3] at h2 h3 h4
          simp only [Int.toNat_natCast] at h2 h3 h4
          have hle : (getN b).2.1 + (getN b).1 + 4 ≤ b.length := by omega
          have h3' : openE (b.take ((getN b).2.1 + (getN b).1 + 4)) = 0 := by simpa using h3
          obtain ⟨w1, w2, w3⟩ := whole_take hb g1 rfl hle h3' h4.1
          obtain ⟨i1, i2, i3⟩ := ins_good h4.2
          refine ⟨_, _, (getN b).2.1 + (getN b).1 + 4, ?_, i1, i3, ?_, by omega, hle⟩
          · unfold getB
            rw [g3, if_neg (by simp)]
            simp only [Int.toNat_natCast]
            rw [if_neg h2, if_neg h3, if_pos h4]
          · rw [w1, i2]
        · simp at h
theorem get_bad {b : List Nat} (h : (getB b).2.2 ≠ 0) : (getB b).1 = (0, []) ∧ (getB b).2.1 = 0 := by
  unfold getB at h ⊢
  split
  · exact ⟨rfl, rfl⟩
  · rename_i h1
    rw [if_neg h1] at h
    split
    · exact ⟨rfl, rfl⟩
    · rename_i h2
      rw [if_neg h2] at h
      split
      · exact ⟨rfl, rfl⟩
      · rename_i h3
        rw [if_neg h3] at h
        split
        · rename_i h4
          rw [if_pos h4] at h; simp at h
        · exact ⟨rfl, rfl⟩
theorem chkB_Ok {f : Int} {R : List Run} (hc : chkB f R = 0) : ∀ r ∈ R, r.Ok := fun r hr => by
  have := (chk_right (chkB_ok hc).2.2.2.1).1 r hr
  exact ⟨by omega, by omega⟩
end Go.AM.R1
open Go Go.AM
namespace Go.AM.R1

/-! ### What the sum sees -/
theorem xor_mod2 (x y : BitVec 32) : (x ^^^ y).toNat % 2 = (x.toNat % 2 + y.toNat % 2) % 2 := by
  rw [BitVec.toNat_xor]
  have h := Nat.xor_mod_two_pow (a := x.toNat) (b := y.toNat) (n := 1)
  simp only [Nat.pow_one] at h
  rw [h]
  rcases Nat.mod_two_eq_zero_or_one x.toNat with h1 | h1 <;> rcases Nat.mod_two_eq_zero_or_one y.toNat with h2 | h2 <;> rw [h1, h2] <;> rfl
theorem step_xor (x y : BitVec 32) : stepB (x ^^^ y) = stepB x ^^^ stepB y := by
  have h := xor_mod2 x y
  have hs : (x ^^^ y) >>> 1 = (x >>> 1) ^^^ (y >>> 1) := by
    apply BitVec.eq_of_getLsbD_eq
    intro i hi
    simp
  unfold stepB
  rw [hs]
  rcases Nat.mod_two_eq_zero_or_one x.toNat with h1 | h1 <;> rcases Nat.mod_two_eq_zero_or_one y.toNat with h2 | h2 <;> rw [h1, h2] at h
  · rw [if_neg (by omega), if_neg (by omega), if_neg (by omega)]; simp
  · rw [if_pos (by omega), if_neg (by omega), if_pos (by omega)]; simp [BitVec.xor_assoc]
  · rw [if_pos (by omega), if_pos (by omega), if_neg (by omega)]
    simp only [BitVec.xor_zero]
    rw [BitVec.xor_assoc, BitVec.xor_comm (y >>> 1), ← BitVec.xor_assoc]
  · rw [if_neg (by omega), if_pos (by omega), if_pos (by omega)]
    simp only [BitVec.xor_zero]
    rw [BitVec.xor_assoc, BitVec.xor_comm 3988292384#32 (_ ^^^ _), BitVec.xor_assoc, BitVec.xor_self, BitVec.xor_zero]
theorem step_zero {x : BitVec 32} (h : stepB x = 0#32) : x = 0#32 := by
  unfold stepB at h
  rcases Nat.mod_two_eq_zero_or_one x.toNat with h1 | h1
  · rw [if_neg (by omega), BitVec.xor_zero] at h
    have h2 := congrArg BitVec.toNat h
    rw [BitVec.toNat_ushiftRight, Nat.shiftRight_eq_div_pow] at h2
    apply BitVec.eq_of_toNat_eq
    simp at h2 ⊢
    omega
  · rw [if_pos h1] at h
    exfalso
    have h2 : x >>> 1 = 3988292384#32 := by
      have := congrArg (· ^^^ 3988292384#32) h
      simpa [BitVec.xor_assoc] using this
    have h3 := congrArg BitVec.toNat h2
    rw [BitVec.toNat_ushiftRight, Nat.shiftRight_eq_div_pow] at h3
    have := x.isLt
    simp at h3
    omega
theorem step_inj {x y : BitVec 32} (h : stepB x = stepB y) : x = y := by
  have h2 : stepB (x ^^^ y) = 0#32 := by rw [step_xor, h, BitVec.xor_self]
  have h3 := step_zero h2
  have := congrArg (· ^^^ y) h3
  simpa [BitVec.xor_assoc] using this
theorem steps_inj : ∀ (n : Nat) {x y : BitVec 32}, steps n x = steps n y → x = y
  | 0, _, _, h => h
  | n + 1, _, _, h => step_inj (steps_inj n h)
def bitV (b : Bool) : BitVec 32 := if b then 1#32 else 0#32
def crcBits (x : BitVec 32) (l : List Bool) : BitVec 32 := l.foldl (fun x b => stepB (x ^^^ bitV b)) x
def ofBits : List Bool → Nat
  | [] => 0
  | b :: l => b.toNat + 2 * ofBits l
theorem ofBits_lt : ∀ l : List Bool, ofBits l < 2 ^ l.length
  | [] => by simp [ofBits]
  | b :: l => by
    have := ofBits_lt l
    have hb : b.toNat ≤ 1 := Bool.toNat_le b
    rw [ofBits, List.length_cons, Nat.pow_succ]; omega
theorem ofBits_inj : ∀ {l m : List Bool}, l.length = m.length → ofBits l = ofBits m → l = m
  | [], [], _, _ => rfl
  | [], _ :: _, h, _ => by simp at h
  | _ :: _, [], h, _ => by simp at h
  | a :: l, b :: m, h, e => by
    rw [ofBits, ofBits] at e
    have ha : a.toNat ≤ 1 := Bool.toNat_le a
    have hb : b.toNat ≤ 1 := Bool.toNat_le b
    have hab : a.toNat = b.toNat := by omega
    have : a = b := by cases a <;> cases b <;> simp_all
    have h2 : ofBits l = ofBits m := by omega
    rw [this, ofBits_inj (l := l) (m := m) (by simpa using h) h2]
theorem step_shift (y : Nat) (hy : y < 2147483648) : stepB (BitVec.ofNat 32 (2 * y)) = BitVec.ofNat 32 y := by
  unfold stepB
  have h1 : (BitVec.ofNat 32 (2 * y)).toNat = 2 * y := by rw [BitVec.toNat_ofNat, Nat.mod_eq_of_lt (by omega)]
  rw [h1, if_neg (by omega), BitVec.xor_zero]
  apply BitVec.eq_of_toNat_eq
  rw [BitVec.toNat_ushiftRight, h1, Nat.shiftRight_eq_div_pow, BitVec.toNat_ofNat, Nat.mod_eq_of_lt (by omega)]
  omega
theorem ofNat_split (b : Bool) (y : Nat) (hy : y < 2147483648) : BitVec.ofNat 32 (b.toNat + 2 * y) = bitV b ^^^ BitVec.ofNat 32 (2 * y) := by
  cases b with
  | false => simp [bitV]
  | true =>
    apply BitVec.eq_of_getLsbD_eq
    intro i hi
    simp only [bitV, if_true, BitVec.getLsbD_xor, BitVec.getLsbD_ofNat, hi, decide_true, Bool.true_and]
    rw [show Bool.toNat true + 2 * y = 2 * y + 1 from by simp; omega]
    cases i with
    | zero => simp [Nat.testBit_zero]
    | succ i =>
      rw [Nat.testBit_succ, Nat.testBit_succ, Nat.testBit_succ]
      rw [show (2 * y + 1) / 2 = y from by omega, show 2 * y / 2 = y from by omega, show 1 / 2 = 0 from rfl]
      simp
theorem crcBits_steps : ∀ (l : List Bool) (x : BitVec 32), l.length ≤ 32 → crcBits x l = steps l.length (x ^^^ BitVec.ofNat 32 (ofBits l))
  | [], x, _ => by simp [crcBits, steps, ofBits]
  | b :: l, x, h => by
    simp at h
    have hlt := ofBits_lt l
    have hp : 2 ^ l.length ≤ 2 ^ 31 := Nat.pow_le_pow_right (by omega) (by omega)
    rw [show crcBits x (b :: l) = crcBits (stepB (x ^^^ bitV b)) l from rfl, crcBits_steps l _ (by omega), List.length_cons, ofBits, steps]
    congr 1
    rw [ofNat_split b _ (by omega), ← BitVec.xor_assoc, step_xor (x ^^^ bitV b), step_shift _ (by omega)]
theorem crcBits_append (x : BitVec 32) (l m : List Bool) : crcBits x (l ++ m) = crcBits (crcBits x l) m := by simp [crcBits]
theorem crcBits_inj : ∀ (l : List Bool) {x y : BitVec 32}, crcBits x l = crcBits y l → x = y
  | [], _, _, h => h
  | b :: l, x, y, h => by
    have h2 := step_inj (crcBits_inj l (x := stepB (x ^^^ bitV b)) (y := stepB (y ^^^ bitV b)) h)
    have := congrArg (· ^^^ bitV b) h2
    simpa [BitVec.xor_assoc] using this
/-- Up to 32 bits side by side, that are turned, are seen. -/
theorem crc_burst {A B B' C : List Bool} (hl : B.length = B'.length) (h32 : B.length ≤ 32) (hne : B ≠ B') (x : BitVec 32) : crcBits x (A ++ B ++ C) ≠ crcBits x (A ++ B' ++ C) := by
  intro h
  rw [crcBits_append, crcBits_append, crcBits_append, crcBits_append] at h
  have h2 := crcBits_inj C h
  rw [crcBits_steps B _ h32, crcBits_steps B' _ (by omega), hl] at h2
  have h3 := steps_inj _ h2
  have h4 : BitVec.ofNat 32 (ofBits B) = BitVec.ofNat 32 (ofBits B') := by
    have := congrArg (crcBits x A ^^^ ·) h3
    simpa [← BitVec.xor_assoc] using this
  have b1 := ofBits_lt B
  have b2 := ofBits_lt B'
  have hp : 2 ^ B.length ≤ 2 ^ 32 := Nat.pow_le_pow_right (by omega) h32
  have hp' : 2 ^ B'.length ≤ 2 ^ 32 := Nat.pow_le_pow_right (by omega) (by omega)
  have h5 := congrArg BitVec.toNat h4
  rw [BitVec.toNat_ofNat, BitVec.toNat_ofNat, Nat.mod_eq_of_lt (by omega), Nat.mod_eq_of_lt (by omega)] at h5
  exact hne (ofBits_inj hl h5)
/-- The bits of bytes, the lowest first. -/
def bits8 (c : Nat) : List Bool := (List.range 8).map c.testBit
def bitsL (l : List Nat) : List Bool := l.flatMap bits8
theorem ofBits_range : ∀ (n c : Nat), ofBits ((List.range n).map c.testBit) = c % 2 ^ n
  | 0, c => by simp [ofBits, Nat.mod_one]
  | n + 1, c => by
    rw [List.range_succ_eq_map, List.map_cons, List.map_map, ofBits]
    have h : (List.range n).map (c.testBit ∘ Nat.succ) = (List.range n).map (c / 2).testBit := by
      apply List.map_congr_left
      intro i _
      simp [Nat.testBit_succ]
    rw [h, ofBits_range n (c / 2), Nat.pow_succ, Nat.mul_comm (2 ^ n) 2, Nat.mod_mul, Nat.testBit_zero]
    have : (decide (c % 2 = 1)).toNat = c % 2 := by
      rcases Nat.mod_two_eq_zero_or_one c with h | h <;> rw [h] <;> rfl
    rw [this]
theorem on_bits (x : BitVec 32) (c : Nat) (hc : c < 256) : onB x c = crcBits x (bits8 c) := by
  rw [crcBits_steps _ _ (by simp [bits8]), bits8, ofBits_range, Nat.mod_eq_of_lt (by omega)]
  simp [onB]
theorem crcGo_bits : ∀ (l : List Nat) (x : BitVec 32), (∀ c ∈ l, c < 256) → crcGo x l = crcBits x (bitsL l)
  | [], _, _ => rfl
  | c :: l, x, h => by
    rw [show crcGo x (c :: l) = crcGo (onB x c) l from rfl, show bitsL (c :: l) = bits8 c ++ bitsL l from rfl, crcBits_append, on_bits x c (h c (by simp)), crcGo_bits l _ fun d hd => h d (by simp [hd])]

/-! ### Sealed bytes -/
theorem bits_tail (s : Nat) (hs : s < 4294967296) : ofBits (bitsL (tailN s)) = s := by
  have h : bitsL (tailN s) = (List.range 32).map s.testBit := by
    simp only [bitsL, tailN, List.flatMap_cons, List.flatMap_nil, List.append_nil, bits8]
    have e : List.range 32 = List.range 8 ++ ((List.range 8).map (· + 8) ++ ((List.range 8).map (· + 16) ++ (List.range 8).map (· + 24))) := by decide
    rw [e, List.map_append, List.map_append, List.map_append, List.map_map, List.map_map, List.map_map]
    congr 1
    · apply List.map_congr_left
      intro i hi
      simp only [List.mem_range] at hi
      rw [show (256 : Nat) = 2 ^ 8 from rfl, Nat.testBit_mod_two_pow]
      simp [hi]
    · congr 1
      · apply List.map_congr_left
        intro i hi
        simp only [List.mem_range] at hi
        rw [show (256 : Nat) = 2 ^ 8 from rfl, Nat.testBit_mod_two_pow, Nat.testBit_div_two_pow]
        simp [hi, Nat.add_comm]
      · congr 1
        · apply List.map_congr_left
          intro i hi
          simp only [List.mem_range] at hi
          rw [show (65536 : Nat) = 2 ^ 16 from rfl, show (256 : Nat) = 2 ^ 8 from rfl, Nat.testBit_mod_two_pow, Nat.testBit_div_two_pow]
          simp [hi, Nat.add_comm]
        · apply List.map_congr_left
          intro i hi
          simp only [List.mem_range] at hi
          rw [show (16777216 : Nat) = 2 ^ 24 from rfl, show (256 : Nat) = 2 ^ 8 from rfl, Nat.testBit_mod_two_pow, Nat.testBit_div_two_pow]
          simp [hi, Nat.add_comm]
  rw [h, ofBits_range, Nat.mod_eq_of_lt (by omega)]
theorem bitsL_append (l m : List Nat) : bitsL (l ++ m) = bitsL l ++ bitsL m := by simp [bitsL]
/-- What the register has behind bytes and their sum. -/
theorem crc_sealed (l : List Nat) (hl : ∀ c ∈ l, c < 256) : crcBits 4294967295#32 (bitsL (sealB l)) = steps 32 4294967295#32 := by
  rw [sealB, bitsL_append, crcBits_append, ← crcGo_bits l _ hl]
  have hlt := (crc l).isLt
  rw [crcBits_steps _ _ (by simp [bitsL, bits8, tailN]), bits_tail _ hlt, BitVec.ofNat_toNat, BitVec.setWidth_eq]
  rw [show (bitsL (tailN (crc l).toNat)).length = 32 from by simp [bitsL, bits8, tailN]]
  unfold crc
  rw [← BitVec.xor_assoc, BitVec.xor_self, BitVec.zero_xor]
/-- Two rows of bytes, both with right sums, that differ in up to 32 bits side by side, are one. -/
theorem sealed_burst {P w : List Nat} (hP : ∀ c ∈ P, c < 256) (hw : ∀ c ∈ w, c < 256) (hP4 : ¬ P.length < 4) (hw4 : ¬ w.length < 4) (hoP : openE P = 0) (how : openE w = 0)
    {A B B' C : List Bool} (eP : bitsL P = A ++ B ++ C) (ew : bitsL w = A ++ B' ++ C) (hl : B.length = B'.length) (h32 : B.length ≤ 32) : B = B' := by
  apply Classical.byContradiction
  intro hne
  have sP := (seal_take P hP4).1 hoP
  have sw := (seal_take w hw4).1 how
  have cP := crc_sealed (P.take (P.length - 4)) fun c hc => hP c (List.mem_of_mem_take hc)
  have cw := crc_sealed (w.take (w.length - 4)) fun c hc => hw c (List.mem_of_mem_take hc)
  rw [sP, eP] at cP
  rw [sw, ew] at cw
  exact crc_burst hl h32 hne 4294967295#32 (cP.trans cw.symm)
end Go.AM.R1
open Go Go.AM
namespace Go.AM.R1

/-! ### Bits, turned one by one -/
theorem bits8_length (c : Nat) : (bits8 c).length = 8 := by simp [bits8]
theorem bitsL_length : ∀ l : List Nat, (bitsL l).length = 8 * l.length
  | [] => rfl
  | c :: l => by rw [show bitsL (c :: l) = bits8 c ++ bitsL l from rfl, List.length_append, bits8_length, bitsL_length l, List.length_cons]; omega
theorem bits8_flip (c b : Nat) (hb : b < 8) : bits8 (c ^^^ 2 ^ b) = (bits8 c).set b (!c.testBit b) := by
  apply List.ext_getElem?
  intro i
  rw [List.getElem?_set]
  simp only [bits8, List.getElem?_map, List.length_map, List.length_range]
  by_cases h : b = i
  · subst h
    rw [if_pos rfl, if_pos hb, List.getElem?_range hb]
    simp [Nat.testBit_xor, Nat.testBit_two_pow_self]
  · rw [if_neg h]
    by_cases hi : i < 8
    · rw [List.getElem?_range hi]
      simp [Nat.testBit_xor, Nat.testBit_two_pow_of_ne h]
    · rw [List.getElem?_eq_none (by simp; omega)]; rfl
theorem split_at (w : List Nat) (q : Nat) (h : q < w.length) : w = w.take q ++ (w[q] :: w.drop (q + 1)) := by
  rw [← List.drop_eq_getElem_cons h, List.take_append_drop]
theorem bitsL_flip (w : List Nat) (q b : Nat) (h : q < w.length) (hb : b < 8) (v : Bool) (hv : v = !w[q].testBit b) : bitsL (w.set q (w[q] ^^^ 2 ^ b)) = (bitsL w).set (8 * q + b) v := by
  have e1 : w.set q (w[q] ^^^ 2 ^ b) = w.take q ++ ((w[q] ^^^ 2 ^ b) :: w.drop (q + 1)) := by rw [List.set_eq_take_append_cons_drop, if_pos h]
  have e2 : bitsL w = bitsL (w.take q) ++ (bits8 w[q] ++ bitsL (w.drop (q + 1))) := by
    conv => lhs; rw [split_at w q h]
    rw [bitsL_append]; rfl
  have hl : (bitsL (w.take q)).length = 8 * q := by rw [bitsL_length, List.length_take, Nat.min_eq_left (by omega)]
  rw [e1, bitsL_append, e2, List.set_append_right _ _ (by omega), hl, show 8 * q + b - 8 * q = b from by omega, List.set_append_left _ _ (by rw [bits8_length]; exact hb), hv, ← bits8_flip _ _ hb]
  rfl
theorem bitsL_get (w : List Nat) (q b : Nat) (h : q < w.length) (hb : b < 8) : (bitsL w)[8 * q + b]? = some (w[q].testBit b) := by
  have e2 : bitsL w = bitsL (w.take q) ++ (bits8 w[q] ++ bitsL (w.drop (q + 1))) := by
    conv => lhs; rw [split_at w q h]
    rw [bitsL_append]; rfl
  have hl : (bitsL (w.take q)).length = 8 * q := by rw [bitsL_length, List.length_take, Nat.min_eq_left (by omega)]
  rw [e2, List.getElem?_append_right (by omega), hl, show 8 * q + b - 8 * q = b from by omega, List.getElem?_append_left (by rw [bits8_length]; exact hb)]
  simp [bits8, List.getElem?_range hb]
/-- Bytes of which some bits were turned, of those from a place on. -/
structure Inv (P : List Nat) (head fr t i : Nat) (w : List Nat) (turned : Bool) : Prop where
  len : w.length = P.length
  byte : ∀ c ∈ w, c < 256
  front : w.take head = P.take head
  win : ∃ B, bitsL w = (bitsL P).take (8 * head + fr) ++ B ++ (bitsL P).drop (8 * head + fr + t) ∧ B.length = t ∧
    (turned = true → ∃ j, j < i ∧ B[j]? ≠ (((bitsL P).drop (8 * head + fr)).take t)[j]?) ∧ ∀ j, i ≤ j → B[j]? = (((bitsL P).drop (8 * head + fr)).take t)[j]?
  same : turned = false → w = P
theorem inv_start (P : List Nat) (hP : ∀ c ∈ P, c < 256) (head fr t : Nat) (h : 8 * head + fr + t ≤ 8 * P.length) : Inv P head fr t 0 P false := by
  refine ⟨rfl, hP, rfl, ⟨((bitsL P).drop (8 * head + fr)).take t, ?_, ?_, by simp, fun _ _ => rfl⟩, fun _ => rfl⟩
  · generalize 8 * head + fr = g
    rw [List.append_assoc, show (bitsL P).drop (g + t) = ((bitsL P).drop g).drop t from by rw [List.drop_drop], List.take_append_drop, List.take_append_drop]
  · rw [List.length_take, List.length_drop, bitsL_length]; omega
theorem inv_skip {P : List Nat} {head fr t i : Nat} {w : List Nat} {turned : Bool} (h : Inv P head fr t i w turned) : Inv P head fr t (i + 1) w turned := by
  obtain ⟨h1, h2, h3, ⟨B, e1, e2, e3, e4⟩, h5⟩ := h
  exact ⟨h1, h2, h3, ⟨B, e1, e2, fun ht => by obtain ⟨j, hj, hn⟩ := e3 ht; exact ⟨j, by omega, hn⟩, fun j hj => e4 j (by omega)⟩, h5⟩
theorem inv_flip {P : List Nat} {head fr t i : Nat} {w : List Nat} {turned : Bool} (h : Inv P head fr t i w turned) (hi : i < t) (hle : 8 * head + fr + t ≤ 8 * P.length) (hq : head + (fr + i) / 8 < w.length) :
    Inv P head fr t (i + 1) (w.set (head + (fr + i) / 8) (w[head + (fr + i) / 8] ^^^ 2 ^ ((fr + i) % 8))) true := by
  obtain ⟨h1, h2, h3, ⟨B, e1, e2, e3, e4⟩, h5⟩ := h
  have hb : (fr + i) % 8 < 8 := by omega
  have hg : 8 * (head + (fr + i) / 8) + (fr + i) % 8 = 8 * head + fr + i := by omega
  have hsl : ((bitsL P).take (8 * head + fr)).length = 8 * head + fr := by rw [List.length_take, bitsL_length]; omega
  have hget := bitsL_get w _ _ hq hb
  rw [hg, e1, List.append_assoc, List.getElem?_append_right (by omega), hsl, show 8 * head + fr + i - (8 * head + fr) = i from by omega, List.getElem?_append_left (by omega)] at hget
  have hset := bitsL_flip w _ _ hq hb _ rfl
  rw [hg, e1, List.append_assoc, List.set_append_right _ _ (by omega), hsl, show 8 * head + fr + i - (8 * head + fr) = i from by omega, List.set_append_left _ _ (by omega)] at hset
  generalize hv : w[head + (fr + i) / 8].testBit ((fr + i) % 8) = v at hget hset
  refine ⟨by simp [h1], ?_, ?_, ⟨B.set i (!v), ?_, by simp [e2], fun _ => ?_, fun j hj => ?_⟩, by simp⟩
  · intro c hc
    rcases List.mem_or_eq_of_mem_set hc with hc | rfl
    · exact h2 c hc
    · have := h2 _ (List.getElem_mem hq)
      have h8 : 2 ^ ((fr + i) % 8) < 2 ^ 8 := Nat.pow_lt_pow_right (by omega) hb
      exact Nat.xor_lt_two_pow (n := 8) (by omega) (by omega)
  · rw [List.take_set_of_le (by omega), h3]
  · rw [hset, List.append_assoc]
  · by_cases hj : ∃ j, j < i ∧ B[j]? ≠ (((bitsL P).drop (8 * head + fr)).take t)[j]?
    · obtain ⟨j, hj1, hj2⟩ := hj
      refine ⟨j, by omega, ?_⟩
      rw [List.getElem?_set_ne (by omega)]; exact hj2
    · refine ⟨i, by omega, ?_⟩
      rw [← e4 i (by omega), hget, List.getElem?_set_self (by omega)]
      cases v <;> simp
  · rw [List.getElem?_set_ne (by omega)]; exact e4 j (by omega)
end Go.AM.R1
open Go Go.AM
namespace Go.AM.R1

/-! ### The law BlockTurns -/
theorem iand_i64_one (y : Int) (h : -9223372036854775808 ≤ y ∧ y ≤ 9223372036854775807) : iand .i64 y 1 = y % 2 := by
  have e : ((BitVec.ofInt 64 y &&& BitVec.ofInt 64 1).toNat : Int) = y % 2 := by
    rw [BitVec.toNat_and, BitVec.toNat_ofInt, BitVec.toNat_ofInt, show ((1 : Int) % ((2 ^ 64 : Nat) : Int)).toNat = 1 from by decide, Nat.and_one_is_mod]
    simp; omega
  unfold iand
  show IntKind.wrap .i64 ((BitVec.ofInt 64 y &&& BitVec.ofInt 64 1).toNat : Int) = _
  rw [e, wrap64 (by omega) (by omega)]
theorem ixor_u8 {c d : Nat} (hc : c < 256) (hd : d < 256) : ixor .u8 (c : Int) (d : Int) = ((c ^^^ d : Nat) : Int) := by
  have e : (BitVec.ofInt 8 (c : Int) ^^^ BitVec.ofInt 8 (d : Int)).toNat = c ^^^ d := by
    rw [BitVec.toNat_xor, BitVec.ofInt_natCast, BitVec.ofInt_natCast, BitVec.toNat_ofNat, BitVec.toNat_ofNat, Nat.mod_eq_of_lt (by omega), Nat.mod_eq_of_lt (by omega)]
  have hx : c ^^^ d < 2 ^ 8 := Nat.xor_lt_two_pow (by omega) (by omega)
  unfold ixor
  show IntKind.wrap .u8 ((BitVec.ofInt 8 (c : Int) ^^^ BitVec.ofInt 8 (d : Int)).toNat : Int) = _
  rw [e, wrap8, Nat.mod_eq_of_lt (by omega)]
/-- Is a bit of a number set? -/
def tb (x : Int) (i : Nat) : Bool := decide (x / 2 ^ i % 2 = 1)
theorem turns_loop (P : List Nat) (hPb : ∀ c ∈ P, c < 256) (hPl : P.length ≤ 100000) (a b away f : Int) (hb : -9223372036854775808 ≤ b ∧ b ≤ 9223372036854775807) (head many fr t : Nat) (hm : 8 * head + many = 8 * P.length) (hfr : fr < many) (ht : t = min 32 (many - fr)) (hh : head ≤ 2) (k : List Item) (R : Option (AVal × Heap))
    (hk : ∀ w turned τ, Inv P head fr t t w turned → lk 2 τ = .lit (.int .i64 away) → lk 7 τ = .own 2 P.length 1 0 P.length → lk 12 τ = .own 3 w.length 1 0 w.length → lk 13 τ = .lit (.bool turned) →
      finK 0 [.tmp 6] (run E 0 k τ [.dead, .box [.lit (.int .i64 a), .lit (.int .i64 b)], .arr true false false 1 (P.map encB), .arr true false false 1 (w.map encB)]) = R) :
    ∀ (d i : Nat) (w : List Nat) (turned : Bool), i + d = t → Inv P head fr t i w turned →
   finK 0 [.tmp 6] (run E 0 (.code L12_0 :: .inLoop [2, 4, 7, 9, 10, 11, 12, 13, 14] L12_0 :: .inBlock 0 :: k)
     [(2, .lit (.int .i64 away)), (4, .ptr 1 0), (7, .own 2 P.length 1 0 P.length), (9, .lit (.int .i64 head)), (10, .lit (.int .i64 many)), (11, .lit (.int .i64 fr)), (12, .own 3 w.length 1 0 w.length), (13, .lit (.bool turned)), (14, .lit (.int .i64 i))]
     [.dead, .box [.lit (.int .i64 a), .lit (.int .i64 b)], .arr true false false 1 (P.map encB), .arr true false false 1 (w.map encB)]) = R := by
  intro d
  induction d with
  | zero =>
    intro i w turned hi hI
    have : i = t := by omega
    subst this
    have w1 : IntKind.wrap .i64 ((fr : Int) + (i : Int)) = (fr : Int) + (i : Int) := wrap64 (by omega) (by omega)
    by_cases h32 : (i : Int) < 32
    · have hend : ¬ ((fr : Int) + (i : Int) < (many : Int)) := by omega
      simp [go_sem, run_codeL E L12_0.eq_1, h32, w1, hend]
      exact hk w turned _ hI rfl rfl rfl rfl
    · simp [go_sem, run_codeL E L12_0.eq_1, h32]
      exact hk w turned _ hI rfl rfl rfl rfl
  | succ d ih =>
    intro i w turned hi hI
    have h32 : (i : Int) < 32 := by omega
    have hend : (fr : Int) + (i : Int) < (many : Int) := by omega
    have w1 : IntKind.wrap .i64 ((fr : Int) + (i : Int)) = (fr : Int) + (i : Int) := wrap64 (by omega) (by omega)
    have w2 := wrapIdx (i := i) (by omega)
    have hmin : min i 64 = i := by omega
    have hp : (0 : Int) < 2 ^ i := Int.pow_pos (by omega)
    have hfd : b.fdiv (2 ^ i) = b / 2 ^ i := Int.fdiv_eq_ediv_of_nonneg _ (by omega)
    have hrange : -9223372036854775808 ≤ b / 2 ^ i ∧ b / 2 ^ i ≤ 9223372036854775807 := by
      constructor
      · rcases Int.lt_or_le b 0 with h | h
        · have h1 : b ≤ b / 2 ^ i := by
            rw [Int.le_ediv_iff_mul_le hp]
            have : 1 ≤ (2 : Int) ^ i := hp
            have := Int.mul_le_mul_of_nonpos_left (show b ≤ 0 by omega) this
            simpa using this
          omega
        · have := Int.ediv_nonneg h (show (0 : Int) ≤ 2 ^ i by omega)
          omega
      · rcases Int.lt_or_le b 0 with h | h
        · have := Int.ediv_neg_of_neg_of_pos h hp
          omega
        · have := Int.ediv_le_self (2 ^ i) h
          omega
    have hand := iand_i64_one _ hrange
    have hlt0 : ¬ (i : Int) < 0 := by omega
    cases htb : tb b i with
    | false =>
      have hbit : ¬ b / 2 ^ i % 2 = 1 := by simpa [tb] using htb
      have ih2 := ih (i + 1) w turned (by omega) (inv_skip hI)
      simp at ih2 w2
      simp [go_sem, run_codeL E L12_0.eq_1, h32, hend, w1, w2, hmin, hfd, hand, hbit, hlt0]
      rw [run_inLoop']
      simp [go_sem, purse_eq]
      exact ih2
    | true =>
      have hbit : b / 2 ^ i % 2 = 1 := by simpa [tb] using htb
      have hwl := hI.len
      have hq : head + (fr + i) / 8 < w.length := by rw [hwl]; omega
      have ih2 := ih (i + 1) _ true (by omega) (inv_flip hI (by omega) (by omega) hq)
      have d1 : ((fr : Int) + (i : Int)).tdiv 8 = (((fr + i) / 8 : Nat) : Int) := by rw [Int.tdiv_eq_ediv_of_nonneg (by omega)]; omega
      have d2 : ((fr : Int) + (i : Int)).tmod 8 = (((fr + i) % 8 : Nat) : Int) := by rw [Int.tmod_eq_emod_of_nonneg (by omega)]; omega
      have w3 : IntKind.wrap .i64 (((fr + i) / 8 : Nat) : Int) = (((fr + i) / 8 : Nat) : Int) := wrap64 (by omega) (by omega)
      have w4 : IntKind.wrap .i64 ((head : Int) + (((fr + i) / 8 : Nat) : Int)) = ((head + (fr + i) / 8 : Nat) : Int) := by rw [wrap64 (by omega) (by omega)]; omega
      have hb8 : (fr + i) % 8 < 8 := by omega
      have h2p : 2 ^ ((fr + i) % 8) < 2 ^ 8 := Nat.pow_lt_pow_right (by omega) hb8
      have hcb := hI.byte _ (List.getElem_mem hq)
      have hx := ixor_u8 hcb (d := 2 ^ ((fr + i) % 8)) (by omega)
      have w5 := wrap8 (2 ^ ((fr + i) % 8))
      rw [Nat.mod_eq_of_lt (show 2 ^ ((fr + i) % 8) < 256 by omega)] at w5
      have hm8 : min ((fr + i) % 8) 8 = (fr + i) % 8 := by omega
      have hms := List.map_set (f := encB) (l := w) (i := head + (fr + i) / 8) (a := w[head + (fr + i) / 8] ^^^ 2 ^ ((fr + i) % 8))
      have hq0 : (0 : Int) ≤ ((head + (fr + i) / 8 : Nat) : Int) := by omega
      have hpn : (((2 ^ ((fr + i) % 8) : Nat)) : Int) = 2 ^ ((fr + i) % 8) := by simp
      rw [hpn] at hx w5
      have hne8 : ¬ ((((fr + i) % 8 : Nat)) : Int) < 0 := by omega
      rw [hms] at ih2
      simp only [List.length_set] at ih2
      generalize hqq : head + (fr + i) / 8 = q at *
      generalize hc2 : w[q] ^^^ 2 ^ ((fr + i) % 8) = c2 at *
      generalize hdd : (fr + i) / 8 = dd at *
      generalize hbb : (fr + i) % 8 = bb at *
      simp [encB] at ih2 w2
      simp [go_sem, run_codeL E L12_0.eq_1, h32, hend, w1, w2, hmin, hfd, hand, hbit, hlt0, d1, d2, w3, w4, hq, hm8, w5, hx, hne8, encB, List.getElem?_eq_getElem hq]
      rw [run_inLoop']
      simp [go_sem, purse_eq]
      simpa [encB] using ih2

def turnsK : ICode := (.seq (.reg [⟨none, some 105, .copy (.t 12)⟩, ⟨none, some 106, .call 38 [(.t 105)]⟩, ⟨none, some 104, .copy (.t 106)⟩, ⟨none, some 107, .extract (.t 104) 0⟩, ⟨none, some 108, .extract (.t 104) 1⟩, ⟨none, some 109, .extract (.t 104) 2⟩, ⟨none, some 16, .alloc [(.lit (.int .i64 0)), nilS]⟩, ⟨none, none, .store 2 (.t 16) (.t 107)⟩, ⟨none, some 17, .copy (.t 108)⟩, ⟨none, some 18, .copy (.t 109)⟩] [] []) (.seq (.seq (.reg [⟨none, some 110, .copy (.t 13)⟩, ⟨none, some 111, .copy (.t 18)⟩, ⟨none, some 112, .bin .eql (.t 111) (.c (.lit (.int .i64 18)))⟩, ⟨none, some 113, .eqB true (.t 110) (.t 112)⟩, ⟨none, some 114, .copy (.t 113)⟩, ⟨some (114, false), some 115, .copy (.t 13)⟩, ⟨some (114, false), some 116, .copy (.t 115)⟩, ⟨some (116, true), some 117, .copy (.t 17)⟩, ⟨some (116, true), some 118, .bin .neq (.t 117) (.c (.lit (.int .i64 0)))⟩, ⟨some (114, false), some 119, .pick (.t 116) (.t 118) (.c (.lit (.bool false)))⟩, ⟨none, some 120, .pick (.t 114) (.c (.lit (.bool true))) (.t 119)⟩, ⟨none, some 121, .copy (.t 120)⟩, ⟨some (121, false), some 122, .copy (.t 13)⟩, ⟨some (121, false), some 123, .un .not (.t 122)⟩, ⟨some (121, false), some 124, .copy (.t 123)⟩, ⟨some (124, true), some 125, .copy (.t 18)⟩, ⟨some (124, true), some 126, .bin .neq (.t 125) (.c (.lit (.int .i64 0)))⟩, ⟨some (121, false), some 127, .pick (.t 124) (.t 126) (.c (.lit (.bool false)))⟩, ⟨none, some 128, .pick (.t 121) (.c (.lit (.bool true))) (.t 127)⟩] [] []) (.cond (.t 128) (.seq (.reg [⟨none, some 6, .copy (.c (.lit (.bool false)))⟩] [] []) .ret) .skip)) (.seq (.seq (.reg [⟨none, some 129, .copy (.t 2)⟩, ⟨none, some 130, .bin .lss (.t 129) (.c (.lit (.int .i64 1)))⟩, ⟨none, some 131, .copy (.t 130)⟩, ⟨some (131, false), some 132, .copy (.t 2)⟩, ⟨some (131, false), some 133, .copy (.t 7)⟩, ⟨some (131, false), some 134, .len (.t 133)⟩, ⟨some (131, false), some 135, .bin .gtr (.t 132) (.t 134)⟩, ⟨none, some 136, .pick (.t 131) (.c (.lit (.bool true))) (.t 135)⟩] [] []) (.cond (.t 136) (.seq (.reg [⟨none, some 137, .call 15 []⟩, ⟨none, some 6, .copy (.t 137)⟩] [] []) .ret) .skip)) (.seq (.reg [⟨none, some 139, .copy (.t 7)⟩, ⟨none, some 140, .copy (.t 7)⟩, ⟨none, some 141, .len (.t 140)⟩, ⟨none, some 142, .copy (.t 2)⟩, ⟨none, some 143, .bin .sub (.t 141) (.t 142)⟩, ⟨none, some 144, .slice 1 (.t 139) none (some (.t 143)) none⟩, ⟨none, some 145, .call 38 [(.t 144)]⟩, ⟨none, some 138, .copy (.t 145)⟩, ⟨none, some 146, .extract (.t 138) 0⟩, ⟨none, some 147, .extract (.t 138) 1⟩, ⟨none, some 148, .extract (.t 138) 2⟩, ⟨none, some 19, .alloc [(.lit (.int .i64 0)), nilS]⟩, ⟨none, none, .store 2 (.t 19) (.t 146)⟩, ⟨none, some 20, .copy (.t 147)⟩, ⟨none, some 21, .copy (.t 148)⟩] [] []) (.seq (.reg [⟨none, some 149, .copy (.t 21)⟩, ⟨none, some 150, .bin .eql (.t 149) (.c (.lit (.int .i64 13)))⟩, ⟨none, some 151, .copy (.t 150)⟩, ⟨some (151, true), some 152, .copy (.t 20)⟩, ⟨some (151, true), some 153, .bin .eql (.t 152) (.c (.lit (.int .i64 0)))⟩, ⟨none, some 154, .pick (.t 151) (.t 153) (.c (.lit (.bool false)))⟩, ⟨none, some 155, .copy (.t 154)⟩, ⟨some (155, true), some 156, .fieldA 1 (.t 19)⟩, ⟨some (155, true), some 157, .load false 1 (.t 156)⟩, ⟨some (155, true), some 158, .len (.t 157)⟩, ⟨some (155, true), some 159, .bin .eql (.t 158) (.c (.lit (.int .i64 0)))⟩, ⟨none, some 160, .pick (.t 155) (.t 159) (.c (.lit (.bool false)))⟩, ⟨none, some 161, .copy (.t 160)⟩, ⟨some (161, true), some 162, .call 15 []⟩, ⟨none, some 163, .pick (.t 161) (.t 162) (.c (.lit (.bool false)))⟩, ⟨none, some 6, .copy (.t 163)⟩] [] []) .ret)))))
theorem turned_get {P w : List Nat} {f : Int} {R : List Run} (hP : P = wholeB (numsN f R)) (hc : chkB f R = 0) (hPb : ∀ c ∈ P, c < 256) {fr t : Nat} (ht : t ≤ 32)
    (hI : Inv P (putN (bytesN (numsN f R)).length).length fr t t w true) (hle : 8 * (putN (bytesN (numsN f R)).length).length + fr + t ≤ 8 * P.length) : getB w = ((0, []), 0, 18) := by
  have hPl := inside_65536 hc
  have hWl := whole_len (numsN f R)
  rw [← hP] at hWl
  obtain ⟨h1, h2, h3, ⟨B, e1, e2, e3, e4⟩, h5⟩ := hI
  have hPt : P.take (putN (bytesN (numsN f R)).length).length = putN (bytesN (numsN f R)).length := by
    rw [hP]; unfold wholeB sealB
    rw [List.append_assoc, List.take_append_of_le_length (Nat.le_refl _), List.take_length]
  have hw : w = putN (bytesN (numsN f R)).length ++ w.drop (putN (bytesN (numsN f R)).length).length := by
    conv => lhs; rw [← List.take_append_drop (putN (bytesN (numsN f R)).length).length w, h3, hPt]
  have hg : getN w = ((bytesN (numsN f R)).length, (putN (bytesN (numsN f R)).length).length, 0) := by
    rw [hw]; exact get_put (by omega) _
  have hs : sizeB w = ((w.length : Int), 0) := by
    unfold sizeB
    rw [hg, if_neg (by simp), if_neg (by simp; omega)]
    simp; omega
  have hoP : openE P = 0 := by
    rw [seal_take _ (by omega)]
    have : P.take (P.length - 4) = putN (bytesN (numsN f R)).length ++ bytesN (numsN f R) := by
      rw [hP, whole_len]
      unfold wholeB sealB
      rw [List.take_append_of_le_length (by simp <;> omega), List.take_of_length_le (by simp)]
    rw [this, hP]; rfl
  have how : openE w ≠ 0 := fun how => by
    have hdt : (((bitsL P).drop (8 * (putN (bytesN (numsN f R)).length).length + fr)).take t).length = t := by
      rw [List.length_take, List.length_drop, bitsL_length]; omega
    have hsplit : bitsL P = (bitsL P).take (8 * (putN (bytesN (numsN f R)).length).length + fr) ++ ((bitsL P).drop (8 * (putN (bytesN (numsN f R)).length).length + fr)).take t ++ (bitsL P).drop (8 * (putN (bytesN (numsN f R)).length).length + fr + t) := by
      generalize 8 * (putN (bytesN (numsN f R)).length).length + fr = g
      rw [List.append_assoc, show (bitsL P).drop (g + t) = ((bitsL P).drop g).drop t from by rw [List.drop_drop], List.take_append_drop, List.take_append_drop]
    have hBB := sealed_burst hPb h2 (by omega) (by omega) hoP how hsplit e1 (by omega) (by omega)
    obtain ⟨j, -, hj⟩ := e3 rfl
    rw [hBB] at hj
    exact hj rfl
  have ho18 : openE w = 18 := by
    unfold openE at how ⊢
    rw [if_neg (by omega)] at how ⊢
    split
    · rename_i hq; rw [if_pos hq] at how; exact absurd rfl how
    · rfl
  unfold getB
  rw [hs, if_neg (by simp), if_neg (by simp)]
  simp only [Int.toNat_natCast]
  rw [List.take_length, ho18, if_pos (by simp)]
theorem cut_get {f : Int} {R : List Run} (hc : chkB f R = 0) (hm : (bytesN (numsN f R)).length < 16384) {j : Nat} (hj : j < (wholeB (numsN f R)).length) : getB ((wholeB (numsN f R)).take j) = ((0, []), 0, 13) := by
  have hWl := whole_len (numsN f R)
  have hPt : wholeB (numsN f R) = putN (bytesN (numsN f R)).length ++ (bytesN (numsN f R) ++ tailN (crc (putN (bytesN (numsN f R)).length ++ bytesN (numsN f R))).toNat) := by
    unfold wholeB sealB; rw [List.append_assoc]
  by_cases h : (putN (bytesN (numsN f R)).length).length ≤ j
  · have hg : getN ((wholeB (numsN f R)).take j) = ((bytesN (numsN f R)).length, (putN (bytesN (numsN f R)).length).length, 0) := by
      rw [hPt, List.take_append, List.take_of_length_le h]
      exact get_put (by omega) _
    have hs : sizeB ((wholeB (numsN f R)).take j) = (((wholeB (numsN f R)).length : Int), 0) := by
      unfold sizeB
      rw [hg, if_neg (by simp), if_neg (by have := inside_65536 hc; simp; omega), hWl]
    unfold getB
    rw [hs, if_neg (by simp), if_pos (by simp; omega)]
  · have hg : (getN ((wholeB (numsN f R)).take j)) = (0, 0, 13) := by
      generalize (bytesN (numsN f R)).length = m at *
      rw [hPt, List.take_append_of_le_length (by omega)]
      have hl2 := putN_length 1 m (by omega)
      rcases Nat.lt_or_ge m 128 with h2 | h2
      · rw [putN_small h2] at h ⊢
        simp at h
        subst h
        rfl
      · rw [putN_big h2] at h hl2 ⊢
        rw [putN_small (by omega)] at h hl2 ⊢
        simp at h
        rcases Nat.lt_or_ge j 1 with h3 | h3
        · have : j = 0 := by omega
          subst this; rfl
        · have : j = 1 := by omega
          subst this
          simp only [List.take_succ_cons, List.take_zero, getN, getGo]
          rw [if_neg (by omega), if_neg (by omega), if_neg (by omega)]
    unfold getB sizeB
    rw [hg]
    simp
theorem blockTurns_spec (f : Int) (hf : -9223372036854775808 ≤ f ∧ f ≤ 9223372036854775807) (R : List Run) (hR : ∀ r ∈ R, (-9223372036854775808 ≤ r.N ∧ r.N ≤ 9223372036854775807) ∧ (0 ≤ r.Drive ∧ r.Drive ≤ 4294967295)) (nl fu : Bool)
    (a b away : Int) (ha : -9223372036854775808 ≤ a ∧ a ≤ 9223372036854775807) (hb : -9223372036854775808 ≤ b ∧ b ≤ 9223372036854775807) (haw : -9223372036854775808 ≤ away ∧ away ≤ 9223372036854775807) :
    call E (.func (.func 12) [] []) [.agg (encBlk f R nl fu), .agg [.lit (.int .i64 a), .lit (.int .i64 b)], .lit (.int .i64 away)] [] = some (.lit (.bool true), []) := by
  rw [call_func E E12]
  have hok : ∀ r ∈ R, r.Ok := fun r hr => ⟨(hR r hr).1.1, (hR r hr).1.2⟩
  have hdr : ∀ r ∈ R, 0 ≤ r.Drive ∧ r.Drive ≤ 4294967295 := fun r hr => (hR r hr).2
  by_cases h300 : 300 < R.length
  · have h300' : (300 : Int) < R.length := by omega
    simp [go_sem, ir12, encBlk, h300', awake15]
  · have h300' : ¬ (300 : Int) < R.length := by omega
    by_cases hc : chkB f R = 0
    · have hP := bput_spec f hf R (by omega) hok nl fu hc
      have hRne := (chkB_ok hc).2.1
      obtain ⟨g1, g2, g3, g4, g5, g6⟩ := chkB_ok hc
      have hW := get_of_put hc hdr []
      rw [List.append_nil] at hW
      have hn32 := nums_lt g1 g3 (chk_right g4).1
      have hm5 := bytes_len5 (numsN f R) hn32
      have hnl : (numsN f R).length = 2 * R.length + 2 := by simp only [numsN, List.length_cons, runN_length]
      have hWl := whole_len (numsN f R)
      have hPb := wholeB_byte (numsN f R) (nums_lt64 hc) (by omega)
      have hpl2 := putN_length 1 (bytesN (numsN f R)).length (by omega)
      have hpl1 := List.length_pos_iff.2 (putN_pos (bytesN (numsN f R)).length)
      have hcut := fun j => cut_get hc (by omega) (j := j)
      have hturn := fun w fr t ht hI hle => turned_get (P := wholeB (numsN f R)) (w := w) rfl hc hPb (fr := fr) (t := t) ht hI hle
      -- the first byte
      have hfirst : ∃ x rest, wholeB (numsN f R) = x :: rest ∧ (127 < x ↔ (putN (bytesN (numsN f R)).length).length = 2) := by
        unfold wholeB sealB
        generalize (bytesN (numsN f R)).length = m at *
        rcases Nat.lt_or_ge m 128 with h2 | h2
        · refine ⟨m, _, by rw [putN_small h2]; rfl, ?_⟩
          rw [putN_small h2]; simp; omega
        · refine ⟨m % 128 + 128, _, by rw [putN_big h2]; rfl, ?_⟩
          rw [putN_big h2] at hpl2 ⊢
          have := List.length_pos_iff.2 (putN_pos (m / 128))
          simp at hpl2 ⊢; omega
      generalize hhd : (putN (bytesN (numsN f R)).length).length = head at *
      generalize hml : (bytesN (numsN f R)).length = m at *
      obtain ⟨x, rest, hx, hx2⟩ := hfirst
      have hP0 : (wholeB (numsN f R))[0]? = some x := by rw [hx]; rfl
      have hPne : wholeB (numsN f R) ≠ [] := fun e => by rw [e] at hWl; simp at hWl
      have hr := rowsB (wholeB (numsN f R))
      generalize wholeB (numsN f R) = P at *
      have hb1 : ¬ (70368744177664 < P.length) := by omega
      have hlen0 : (0 : Int) < P.length := by omega
      have hlen0' : 0 < P.length := by omega
      have hP0g : P[0]'hlen0' = x := by
        have := hP0
        rw [List.getElem?_eq_getElem hlen0'] at this
        exact Option.some.inj this
      simp [encBlk] at hP
      have hmm : ((8 * (P.length - head) : Nat) : Int) = 8 * ((P.length : Int) - (head : Int)) := by omega
      have w1 : IntKind.wrap .i64 ((P.length : Int) - (head : Int)) = (P.length : Int) - (head : Int) := wrap64 (by omega) (by omega)
      have w2 : IntKind.wrap .i64 (8 * ((P.length : Int) - (head : Int))) = ((8 * (P.length - head) : Nat) : Int) := by rw [wrap64 (by omega) (by omega)]; omega
      have hmany : ¬ (((8 * (P.length - head) : Nat) : Int) < 8) := by omega
      have hm0 : ¬ (((8 * (P.length - head) : Nat) : Int) = 0) := by omega
      generalize hMM : 8 * (P.length - head) = MM at *
      have hm0' : ¬ MM = 0 := by omega
      have hM8 : 8 * head + MM = 8 * P.length := by omega
      have t1 : -(MM : Int) < a.tmod MM ∧ a.tmod MM < MM := ⟨by have := Int.lt_tmod_of_pos a (show (0 : Int) < MM by omega); omega, Int.tmod_lt_of_pos a (by omega)⟩
      have w3 : IntKind.wrap .i64 (a.tmod MM + MM) = a.tmod MM + MM := wrap64 (by omega) (by omega)
      have t2 : 0 ≤ (a.tmod MM + MM).tmod MM ∧ (a.tmod MM + MM).tmod MM < MM := ⟨Int.tmod_nonneg _ (by omega), Int.tmod_lt_of_pos _ (by omega)⟩
      obtain ⟨fr, hfr⟩ := Int.eq_ofNat_of_zero_le t2.1
      rw [hfr] at t2
      have hfrlt : fr < MM := by omega
      have hgoal : ∀ w turned τ, Inv P head fr (min 32 (MM - fr)) (min 32 (MM - fr)) w turned → lk 2 τ = .lit (.int .i64 away) → lk 7 τ = .own 2 P.length 1 0 P.length → lk 12 τ = .own 3 w.length 1 0 w.length → lk 13 τ = .lit (.bool turned) →
          finK 0 [.tmp 6] (run E 0 [.code turnsK] τ [.dead, .box [.lit (.int .i64 a), .lit (.int .i64 b)], .arr true false false 1 (P.map encB), .arr true false false 1 (w.map encB)]) = some (.lit (.bool true), []) := by
        intro w turned τ hI e2 e7 e12 e13
        have hGw := bget_spec w hI.byte (by rw [hI.len]; omega) false false (.inl rfl)
        have hwl := hI.len
        unfold turnsK
        cases turned with
        | true =>
          rw [hturn w fr _ (by omega) hI (by omega)] at hGw
          simp [resV, resHl] at hGw
          by_cases h1 : away < 1
          · simp [go_sem, e2, e7, e12, e13, hGw, h1, purse_eq, awake15]
          · by_cases h2 : (P.length : Int) < away
            · simp [go_sem, e2, e7, e12, e13, hGw, h1, h2, purse_eq, awake15]
            · have w4 : IntKind.wrap .i64 ((P.length : Int) - away) = (P.length : Int) - away := wrap64 (by omega) (by omega)
              have hj0 : 0 ≤ (P.length : Int) - away := by omega
              have hjl : ((P.length : Int) - away).toNat ≤ P.length := by omega
              have hGc := bget_spec (P.take ((P.length : Int) - away).toNat) (fun c hc => hPb c (List.mem_of_mem_take hc)) (by simp; omega) false false (.inl rfl)
              rw [hcut _ (by omega)] at hGc
              have hce : cutE (P.map encB) 0 ((P.length : Int) - away).toNat = (P.take ((P.length : Int) - away).toNat).map encB := by
                unfold cutE; rw [List.drop_zero, Nat.zero_add, List.map_take]
              have h2' : away ≤ (P.length : Int) := by omega
              generalize hj : ((P.length : Int) - away).toNat = j at *
              simp [resV, resHl] at hGc
              simp [go_sem, e2, e7, e12, e13, hGw, h1, h2, h2', w4, hj, hj0, hjl, hce, hGc, purse_eq, awake15]
        | false =>
          have hwP := hI.same rfl
          subst hwP
          rw [hW] at hGw
          simp [resV, resHl, hRne] at hGw
          by_cases h1 : away < 1
          · simp [go_sem, e2, e7, e12, e13, hGw, h1, purse_eq, awake15]
          · by_cases h2 : (w.length : Int) < away
            · simp [go_sem, e2, e7, e12, e13, hGw, h1, h2, purse_eq, awake15]
            · have w4 : IntKind.wrap .i64 ((w.length : Int) - away) = (w.length : Int) - away := wrap64 (by omega) (by omega)
              have hj0 : 0 ≤ (w.length : Int) - away := by omega
              have hjl : ((w.length : Int) - away).toNat ≤ w.length := by omega
              have hGc := bget_spec (w.take ((w.length : Int) - away).toNat) (fun c hc => hPb c (List.mem_of_mem_take hc)) (by simp; omega) false false (.inl rfl)
              rw [hcut _ (by omega)] at hGc
              have hce : cutE (w.map encB) 0 ((w.length : Int) - away).toNat = (w.take ((w.length : Int) - away).toNat).map encB := by
                unfold cutE; rw [List.drop_zero, Nat.zero_add, List.map_take]
              have h2' : away ≤ (w.length : Int) := by omega
              generalize hj : ((w.length : Int) - away).toNat = j at *
              simp [resV, resHl] at hGc
              simp [go_sem, e2, e7, e12, e13, hGw, h1, h2, h2', w4, hj, hj0, hjl, hce, hGc, purse_eq, awake15]
      have hstart := inv_start P hPb head fr (min 32 (MM - fr)) (by omega)
      have hlp := turns_loop P hPb (by omega) a b away f hb head MM fr (min 32 (MM - fr)) hM8 hfrlt rfl (by omega) [.code turnsK] (some (.lit (.bool true), [])) hgoal (min 32 (MM - fr)) 0 P false (by omega) hstart
      rw [turnsK] at hlp
      by_cases h127 : 127 < x
      · have h127' : (127 : Int) < (x : Int) := by omega
        have hh2 : head = 2 := hx2.1 h127
        subst hh2
        simp at hlp w1 w2
        simp [go_sem, ir12, encBlk, h300', hP, hP0, hP0g, hr, hb1, hPne, hlen0, hlen0', h127', encB, w1, w2, hmany, hm0, hm0', w3, hfr, purse_eq]
        rw [run_inLoop']
        simp [go_sem, purse_eq]
        simpa [encB, nilS] using hlp
      · have h127' : ¬ (127 : Int) < (x : Int) := by omega
        have hh1 : head = 1 := by
          have : ¬ head = 2 := fun e => h127 (hx2.2 e)
          omega
        subst hh1
        simp at hlp w1 w2
        simp [go_sem, ir12, encBlk, h300', hP, hP0, hP0g, hr, hb1, hPne, hlen0, hlen0', h127', encB, w1, w2, hmany, hm0, hm0', w3, hfr, purse_eq]
        rw [run_inLoop']
        simp [go_sem, purse_eq]
        simpa [encB, nilS] using hlp
    · have hP := bput_bad f hf R (by omega) hok nl fu hc
      simp [encBlk] at hP
      simp [go_sem, ir12, encBlk, h300', hP, hc, purse_eq, awake15]
end Go.AM.R1
open Go Go.AM Go.Proofs
namespace Go.AM.R1

section
variable {H : Type} {P : Program}
theorem decV_int {n : Nat} {t : TypeId} {ik : IntKind} (hu : P.underlying t = some (.int ik)) {d : DataW H} {a : AVal} (h : DecV P (n + 1) t d a) :
    ∃ v, d = .lit (.int ik v) ∧ (Lit.int ik v).wf = true ∧ a = .lit (.int ik v) := by
  unfold DecV at h
  rw [if_neg (by simp [isAggT, hu])] at h
  simp only [Dec, hu] at h
  obtain ⟨v, h1, h2, h3⟩ := h
  exact ⟨v, h1, h2, by simpa using h3⟩
theorem all2_forall {α β : Type} {R : α → β → Prop} {Q : β → Prop} (h : ∀ a b, R a b → Q b) : ∀ {l : List α} {m : List β}, All2 R l m → ∀ b ∈ m, Q b
  | [], [], _, b, hb => by cases hb
  | [], _ :: _, h', _, _ => h'.elim
  | _ :: _, [], h', _, _ => h'.elim
  | a :: r, c :: s, h', b, hb => by
    rcases List.mem_cons.1 hb with rfl | hb
    · exact h _ _ h'.1
    · exact all2_forall h h'.2 b hb
theorem all2_length {α β : Type} {R : α → β → Prop} : ∀ {l : List α} {m : List β}, All2 R l m → l.length = m.length
  | [], [], _ => rfl
  | [], _ :: _, h' => h'.elim
  | _ :: _, [], h' => h'.elim
  | a :: r, c :: s, h' => by simp [all2_length h'.2]
/-- Rows that are all of a form. -/
theorem rows_map {α : Type} (f : α → List AVal) (Q : α → Prop) : ∀ {rows : List (List AVal)}, (∀ r ∈ rows, ∃ x, r = f x ∧ Q x) → ∃ l : List α, rows = l.map f ∧ ∀ x ∈ l, Q x
  | [], _ => ⟨[], rfl, by simp⟩
  | r :: s, h => by
    obtain ⟨x, hx, hq⟩ := h r (by simp)
    obtain ⟨l, hl, hl2⟩ := rows_map f Q (rows := s) fun y hy => h y (by simp [hy])
    exact ⟨x :: l, by rw [hx, hl]; rfl, fun y hy => by rcases List.mem_cons.1 hy with rfl | hy <;> simp_all⟩

theorem wf64 {v : Int} (h : (Lit.int .i64 v).wf = true) : -9223372036854775808 ≤ v ∧ v ≤ 9223372036854775807 := by
  simpa [Lit.wf, IntKind.min, IntKind.max, IntKind.signed, IntKind.bits] using h
theorem wfu32 {v : Int} (h : (Lit.int .u32 v).wf = true) : 0 ≤ v ∧ v ≤ 4294967295 := by
  simpa [Lit.wf, IntKind.min, IntKind.max, IntKind.signed, IntKind.bits] using h

theorem fieldsR_cons {α β : Type} {R : TypeId → α → β → Prop} {f : Field} {fs : List Field} : ∀ {l : List α} {m : List β}, FieldsR R (f :: fs) l m → ∃ a r b s, l = a :: r ∧ m = b :: s ∧ R f.type a b ∧ FieldsR R fs r s
  | [], _, h => h.elim
  | _ :: _, [], h => h.elim
  | a :: r, b :: s, h => ⟨a, r, b, s, rfl, rfl, h.1, h.2⟩
theorem fieldsR_nil {α β : Type} {R : TypeId → α → β → Prop} : ∀ {l : List α} {m : List β}, FieldsR R [] l m → l = [] ∧ m = []
  | [], [], _ => ⟨rfl, rfl⟩
  | [], _ :: _, h => h.elim
  | _ :: _, _, h => h.elim
theorem decArgs_cons {k : Nat} {t : TypeId} {ts : List TypeId} : ∀ {ds : List (DataW H)} {cs : List AVal}, DecArgs P k (t :: ts) ds cs → ∃ d r b s, ds = d :: r ∧ cs = b :: s ∧ DecV P k t d b ∧ DecArgs P k ts r s
  | [], _, h => h.elim
  | _ :: _, [], h => h.elim
  | d :: r, b :: s, h => ⟨d, r, b, s, rfl, rfl, h.1, h.2⟩
theorem decArgs_nil {k : Nat} : ∀ {ds : List (DataW H)} {cs : List AVal}, DecArgs P k [] ds cs → ds = [] ∧ cs = []
  | [], [], _ => ⟨rfl, rfl⟩
  | [], _ :: _, h => h.elim
  | _ :: _, _, h => h.elim
structure IsRun (P : Program) (t : TypeId) where
  f1 : Field
  f2 : Field
  f3 : Field
  hu : P.underlying t = some (.struct #[f1, f2, f3])
  h1 : P.underlying f1.type = some (.int .i64)
  h2 : P.underlying f2.type = some (.int .i64)
  h3 : P.underlying f3.type = some (.int .u32)
def Run.Fit (r : Run) : Prop := (-9223372036854775808 ≤ r.N ∧ r.N ≤ 9223372036854775807) ∧ (-9223372036854775808 ≤ r.Bus ∧ r.Bus ≤ 9223372036854775807) ∧ (0 ≤ r.Drive ∧ r.Drive ≤ 4294967295)
theorem dec_run {n : Nat} {t : TypeId} (i : IsRun P t) {d : DataW H} {cs : List AVal} (h : Dec P (n + 2) t d cs) : ∃ r : Run, cs = encRun r ∧ r.Fit := by
  simp only [Dec, i.hu] at h
  obtain ⟨parts, ass, -, rfl, hf⟩ := h
  obtain ⟨p1, ps1, a1, as1, rfl, rfl, r1, hf⟩ := fieldsR_cons hf
  obtain ⟨p2, ps2, a2, as2, rfl, rfl, r2, hf⟩ := fieldsR_cons hf
  obtain ⟨p3, ps3, a3, as3, rfl, rfl, r3, hf⟩ := fieldsR_cons hf
  obtain ⟨rfl, rfl⟩ := fieldsR_nil hf
  simp only [Dec, i.h1, i.h2, i.h3] at r1 r2 r3
  obtain ⟨v1, -, w1, rfl⟩ := r1
  obtain ⟨v2, -, w2, rfl⟩ := r2
  obtain ⟨v3, -, w3, rfl⟩ := r3
  exact ⟨⟨v1, v2, v3⟩, rfl, wf64 w1, wf64 w2, wfu32 w3⟩
theorem dec_runs {n : Nat} {t e : TypeId} (hu : P.underlying t = some (.slice e)) (i : IsRun P e) {d : DataW H} {a : AVal} (h : DecV P (n + 3) t d a) :
    ∃ (nl fu : Bool) (l : List Run), a = .imm nl fu true (l.map encRun) ∧ ∀ r ∈ l, r.Fit := by
  unfold DecV at h
  rw [if_neg (by simp [isAggT, hu])] at h
  rw [Dec, hu] at h
  rcases h with ⟨-, h⟩ | ⟨elems, spare, rows, -, h, h2⟩
  · exact ⟨true, true, [], by simpa [nilS] using h, by simp⟩
  · obtain ⟨l, rfl, hl⟩ := rows_map encRun Run.Fit (all2_forall (Q := fun b => ∃ r : Run, b = encRun r ∧ r.Fit) (fun a b hab => dec_run i hab) h2)
    exact ⟨false, false, l, by simpa using h, hl⟩
theorem all2_flat {α : Type} (f : α → List AVal) (Q : α → Prop) {R : DataW H → List AVal → Prop} (h : ∀ d a, R d a → ∃ x, a = f x ∧ Q x) :
    ∀ {ds : List (DataW H)} {ass : List (List AVal)}, All2 R ds ass → ∃ l : List α, l.length = ds.length ∧ ass = l.map f ∧ ∀ x ∈ l, Q x
  | [], [], _ => ⟨[], rfl, rfl, by simp⟩
  | [], _ :: _, h' => h'.elim
  | _ :: _, [], h' => h'.elim
  | d :: ds, a :: ass, h' => by
    obtain ⟨x, hx, hq⟩ := h _ _ h'.1
    obtain ⟨l, h1, h2, h3⟩ := all2_flat f Q h h'.2
    exact ⟨x :: l, by simp [h1], by rw [hx, h2]; rfl, fun y hy => by rcases List.mem_cons.1 hy with rfl | hy <;> simp_all⟩
theorem decV_ints {n m : Nat} {t e : TypeId} {ik : IntKind} (hu : P.underlying t = some (.array m e)) (he : P.underlying e = some (.int ik)) {d : DataW H} {a : AVal} (h : DecV P (n + 2) t d a) :
    ∃ l : List Int, l.length = m ∧ a = .agg (l.map fun v => .lit (.int ik v)) ∧ ∀ v ∈ l, (Lit.int ik v).wf = true := by
  unfold DecV at h
  rw [if_pos (by simp [isAggT, hu])] at h
  obtain ⟨cs, rfl, h⟩ := h
  rw [Dec, hu] at h
  obtain ⟨parts, ass, -, rfl, hm, h2⟩ := h
  obtain ⟨l, h3, rfl, h5⟩ := all2_flat (fun v => [AVal.lit (.int ik v)]) (fun v => (Lit.int ik v).wf = true) (fun d a hda => by
    simp only [Dec, he] at hda
    obtain ⟨v, -, hw, rfl⟩ := hda
    exact ⟨v, rfl, hw⟩) h2
  refine ⟨l, by omega, ?_, h5⟩
  congr 1
  clear h5 h3 h2
  induction l with
  | nil => rfl
  | cons x r ih => simp [ih]
end
end Go.AM.R1
open Go Go.AM Go.Proofs
namespace Go.AM.R1
section
variable {H : Type} {P : Program}
theorem dec_runs' {n : Nat} {t e : TypeId} (hu : P.underlying t = some (.slice e)) (i : IsRun P e) {d : DataW H} {cs : List AVal} (h : Dec P (n + 3) t d cs) :
    ∃ (nl fu : Bool) (l : List Run), cs = [.imm nl fu true (l.map encRun)] ∧ ∀ r ∈ l, r.Fit := by
  rw [Dec, hu] at h
  rcases h with ⟨-, h⟩ | ⟨elems, spare, rows, -, h, h2⟩
  · exact ⟨true, true, [], by simpa [nilS] using h, by simp⟩
  · obtain ⟨l, rfl, hl⟩ := rows_map encRun Run.Fit (all2_forall (Q := fun b => ∃ r : Run, b = encRun r ∧ r.Fit) (fun a b hab => dec_run i hab) h2)
    exact ⟨false, false, l, h, hl⟩
theorem decV_block {n : Nat} {t e : TypeId} {f1 f2 : Field} (hu : P.underlying t = some (.struct #[f1, f2])) (h1 : P.underlying f1.type = some (.int .i64)) (h2 : P.underlying f2.type = some (.slice e)) (i : IsRun P e)
    {d : DataW H} {a : AVal} (h : DecV P (n + 4) t d a) : ∃ (first : Int) (nl fu : Bool) (l : List Run), a = .agg (encBlk first l nl fu) ∧ (Lit.int .i64 first).wf = true ∧ ∀ r ∈ l, r.Fit := by
  unfold DecV at h
  rw [if_pos (by simp [isAggT, hu])] at h
  obtain ⟨cs, rfl, h⟩ := h
  rw [Dec, hu] at h
  obtain ⟨parts, ass, -, rfl, hf⟩ := h
  obtain ⟨p1, ps1, a1, as1, rfl, rfl, r1, hf⟩ := fieldsR_cons hf
  obtain ⟨p2, ps2, a2, as2, rfl, rfl, r2, hf⟩ := fieldsR_cons hf
  obtain ⟨rfl, rfl⟩ := fieldsR_nil hf
  simp only [Dec, h1] at r1
  obtain ⟨v1, -, w1, rfl⟩ := r1
  obtain ⟨nl, fu, l, rfl, hl⟩ := dec_runs' h2 i r2
  exact ⟨v1, nl, fu, l, rfl, w1, hl⟩
/-- Bytes. -/
theorem decV_bytes {n : Nat} {t e : TypeId} (hu : P.underlying t = some (.slice e)) (he : P.underlying e = some (.int .u8)) {d : DataW H} {a : AVal} (h : DecV P (n + 2) t d a) :
    ∃ (nl fu : Bool) (l : List Nat), a = .imm nl fu true (l.map encB) ∧ (nl = false ∨ l = []) ∧ ∀ c ∈ l, c < 256 := by
  unfold DecV at h
  rw [if_neg (by simp [isAggT, hu])] at h
  rw [Dec, hu] at h
  rcases h with ⟨-, h⟩ | ⟨elems, spare, rows, -, h, h2⟩
  · exact ⟨true, true, [], by simpa [nilS] using h, .inr rfl, by simp⟩
  · obtain ⟨l, rfl, hl⟩ := rows_map encB (fun c => c < 256) (all2_forall (Q := fun b => ∃ c : Nat, b = encB c ∧ c < 256) (fun a b hab => by
      simp only [Dec, he] at hab
      obtain ⟨v, -, hw, rfl⟩ := hab
      have hv : 0 ≤ v ∧ v ≤ 255 := by simpa [Lit.wf, IntKind.min, IntKind.max, IntKind.signed, IntKind.bits] using hw
      refine ⟨v.toNat, ?_, by omega⟩
      unfold encB
      rw [show ((v.toNat : Nat) : Int) = v from by omega]) h2)
    exact ⟨false, false, l, by simpa using h, .inl rfl, hl⟩
end
end Go.AM.R1
open Go Go.AM Go.AM.R1 Go.Proofs
namespace Go.Proofs.Ytdopdmacdjnpdaa
open Go.ChangeShapes Go.WideShapes Go.ChangeAt Go.RowKit
namespace blockTurns
theorem own : ownKnob Try.prog.godebug = none := by kernel_rfl
theorem laidOut : laidOutB Try.prog = true := by kernel_rfl
theorem mixed : Try.prog.follows .mixedOrders = true := by kernel_rfl
set_option maxRecDepth 100000 in
theorem contract (H : Type) (enc : TypeId × Value → H) (W : World) (base : Nat) (args : Array Value) (ds gs : List (DataW H)) (before : List MemPlace)
    (hval : ∀ (j : Nat) t v, Try.f12.params[j]? = some t → args[j]? = some v → Value.okWide Try.prog W .any base t v)
    (hW : DataW.Whole enc Try.prog Try.f12.params.toList Rows.blockTurnsSpec.vars false W args.toList ds gs before) :
    Calls Try.prog 12 args W fun e W' => ∃ v, e = .returned v ∧ Rows.blockTurnsSpec.post enc Try.prog Try.f12 false true false false W args v W' := by
  refine law_contract (id := 12) (f := Try.f12) (s := Rows.blockTurnsSpec) (k := 6) (nargs := 3) (base := base) (ds := ds) (gs := gs) (before := before) mixed R1.hE laidOut ?e1 ?e2 (tb := 4) ?e3 Try.underlying4 ?e4 ?e5 ?e7 ?e8 ?e6
  case e7 => exact hval
  case e8 => exact hW
  case e1 => rfl
  case e3 => kernel_rfl
  case e4 => rw [Try.params12]; rfl
  · rw [Try.params12]; decide +kernel
  · intro ds h
    match ds, h with
    | [d1, d2, d3], _ => rfl
  · intro cs hA
    rw [Try.params12] at hA
    obtain ⟨d1, r1, a1, s1, rfl, rfl, h1, hA⟩ := decArgs_cons hA
    obtain ⟨d2, r2, a2, s2, rfl, rfl, h2, hA⟩ := decArgs_cons hA
    obtain ⟨d3, r3, a3, s3, rfl, rfl, h3, hA⟩ := decArgs_cons hA
    obtain ⟨rfl, rfl⟩ := decArgs_nil hA
    obtain ⟨first, nl, fu, l, rfl, hw, hl⟩ := decV_block (n := 2) Try.underlying24 Try.underlying3 Try.underlying22 ⟨_, _, _, Try.underlying41, Try.underlying3, Try.underlying3, Try.underlying39⟩ h1
    obtain ⟨ab, hab, rfl, hws⟩ := decV_ints (n := 4) Try.underlying46 Try.underlying3 h2
    obtain ⟨away, -, hw3, rfl⟩ := decV_int (n := 5) Try.underlying3 h3
    match ab, hab, hws with
    | [a, b], _, hws =>
      obtain ⟨n, hn⟩ := (call_iff R1.E).1 (blockTurns_spec first (wf64 hw) l (fun r hr => ⟨(hl r hr).1, (hl r hr).2.2⟩) nl fu a b away (wf64 (hws a (by simp))) (wf64 (hws b (by simp))) (wf64 hw3))
      exact ⟨n, _, hn⟩

set_option maxRecDepth 100000 in
theorem lifted (os : Os) (started : os.Started) (H : Type) (enc : TypeId × Value → H) :
    ReturnsInHanded {} Try.checked os 12 .any (Rows.blockTurnsSpec.pre6 enc Try.prog Try.f12 Rows.blockTurnsRow.domain false) (Rows.blockTurnsSpec.post enc Try.prog Try.f12 false true false false) := by
  refine returnsInHanded_of_change (C := Try.checked) own started (by kernel_rfl) Try.func12
    (ChangeSpec.witness6 (enc := enc) (C := Try.checked) false ⟨#[], #[.agg #[.int .i64 0, .slice none 0 0], .agg #[.int .i64 0, .int .i64 0], .int .i64 0], []⟩ 8 (by kernel_rfl) (by kernel_rfl) (by kernel_rfl) (by kernel_rfl)) ?_
  intro W base args ds gs before hval hW _ _
  exact contract H enc W base args ds gs before hval hW

theorem proved : Rows.BlockTurnsSaid :=
  OpenClaim.holds_of_wide 12 Try.f12 rfl rfl rfl rfl rfl rfl rfl ⟨rfl, rfl, rfl, rfl, rfl⟩ rfl rfl rfl rfl rfl (by kernel_rfl) Try.func12 (by kernel_rfl)
    (of_decide_eq_true (by kernel_rfl)) (by unfold Func.isWrapper; first | (rw [if_pos (by decide +kernel)]; kernel_rfl) | (rw [if_neg (by decide +kernel)]; exact ⟨rfl, rfl⟩))
    (fun os started H enc _ => lifted os started H enc)
end blockTurns
theorem blockTurnsProved : Rows.BlockTurnsSaid := blockTurns.proved
end Go.Proofs.Ytdopdmacdjnpdaa
