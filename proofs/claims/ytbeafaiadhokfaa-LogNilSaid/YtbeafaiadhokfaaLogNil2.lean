/- The law LogNil of package magnetolaw17 returns true for every input, and its arguments read as before. -/
import Derived.Test.YtbeafaiadhokfaaLogNil1
import Derived.ProofKit
set_option linter.unusedVariables false
set_option linter.unusedSimpArgs false
open Go Go.AM
namespace Go.AM.R1

/-! ### The blocks of bytes -/
def putBk (x : Bk) : List Nat := wholeB (numsN x.1 x.2)
def blksB (l : List Bk) : List Nat := l.flatMap putBk
def totB (l : List Bk) : Int := match l with | [] => 0 | x :: r => sumN x.2 + totB r
def Good : Int → List Bk → Prop
  | _, [] => True
  | t, x :: r => x.1 = t ∧ chkB x.1 x.2 = 0 ∧ (∀ r ∈ x.2, 0 ≤ r.Drive ∧ r.Drive ≤ 4294967295) ∧ Good (t + sumN x.2) r
theorem blksB_cons (x : Bk) (l : List Bk) : blksB (x :: l) = putBk x ++ blksB l := rfl
theorem blksB_append (l m : List Bk) : blksB (l ++ m) = blksB l ++ blksB m := by simp [blksB]
theorem totB_append : ∀ (l m : List Bk), totB (l ++ m) = totB l + totB m
  | [], m => by simp [totB]
  | x :: l, m => by simp only [List.cons_append, totB]; rw [totB_append l m]; omega
theorem good_append : ∀ (l m : List Bk) (t : Int), Good t (l ++ m) ↔ Good t l ∧ Good (t + totB l) m
  | [], m, t => by simp [Good, totB]
  | x :: l, m, t => by
    simp only [List.cons_append, Good, totB]
    rw [good_append l m (t + sumN x.2), Int.add_assoc]
    simp only [and_assoc]
theorem good_tot : ∀ (l : List Bk) (t : Int), 0 ≤ t → t ≤ 1073741824 → Good t l → 0 ≤ totB l ∧ t + totB l ≤ 1073741824
  | [], t, h0, h, _ => by simp [totB]; omega
  | x :: l, t, h0, h, g => by
    obtain ⟨g1, g2, g3, g4⟩ := g
    have gk := chkB_ok g2
    have hs := (chk_right gk.2.2.2.1).2
    have := good_tot l (t + sumN x.2) (by omega) (by omega) g4
    simp only [totB]
    omega
theorem putBk_len {x : Bk} (h : chkB x.1 x.2 = 0) : 6 ≤ (putBk x).length ∧ (putBk x).length ≤ 42000 := by
  have h1 := inside_65536 h
  have h2 := whole_len (numsN x.1 x.2)
  have h3 := putN_len64 (n := (bytesN (numsN x.1 x.2)).length) (by omega)
  have h4 := List.length_pos_iff.2 (putN_pos (bytesN (numsN x.1 x.2)).length)
  have h5 : 1 ≤ (bytesN (numsN x.1 x.2)).length := by
    simp only [numsN, bytesN, List.flatMap_cons, List.length_append]
    have := List.length_pos_iff.2 (putN_pos x.1.toNat)
    omega
  unfold putBk
  omega
theorem good_len : ∀ (l : List Bk) (t : Int), Good t l → 6 * l.length ≤ (blksB l).length
  | [], _, _ => by simp
  | x :: l, t, g => by
    have := putBk_len g.2.1
    have := good_len l _ g.2.2.2
    rw [blksB_cons, List.length_append, List.length_cons]
    omega
theorem scan_facts (b : List Nat) (hb : ∀ c ∈ b, c < 256) : ∀ (d p : Nat) (t : Int) (acc : List Bk), p ≤ b.length →
    ∃ l, (scanGo d b p t acc).1 = acc ++ l ∧ Good t l ∧ (scanGo d b p t acc).2.1 = p + (blksB l).length ∧ p + (blksB l).length ≤ b.length ∧ (b.drop p).take (blksB l).length = blksB l ∧ (scanGo d b p t acc).2.2 = t + totB l := by
  intro d
  induction d with
  | zero => intro p t acc hp; exact ⟨[], by simp [scanGo, Good, blksB, totB, hp]⟩
  | succ d ih =>
    intro p t acc hp
    rw [scanGo]
    split
    · rename_i h
      obtain ⟨g1, g2, g3, g4, g5⟩ := get_good (fun c hc => hb c (List.mem_of_mem_drop hc)) h.1
      simp at g4
      generalize hg : getB (b.drop p) = g at *
      obtain ⟨⟨f, R⟩, m, e⟩ := g
      simp only [] at *
      obtain ⟨l, e1, e2, e3, e4, e5, e6⟩ := ih (p + m.toNat) (t + sumN R) (acc ++ [(f, R)]) (by omega)
      have hlen : (wholeB (numsN f R)).length = m.toNat := by rw [← g5]; simp; omega
      refine ⟨(f, R) :: l, by rw [e1]; simp, ⟨h.2, g1, g2, e2⟩, ?_, ?_, ?_, ?_⟩
      · rw [e3, blksB_cons, List.length_append]; show _ = p + ((wholeB (numsN f R)).length + _); omega
      · rw [blksB_cons, List.length_append]; show p + ((wholeB (numsN f R)).length + _) ≤ _; omega
      · rw [blksB_cons, List.length_append, List.take_add]
        show List.take (wholeB (numsN f R)).length _ ++ List.take _ (List.drop (wholeB (numsN f R)).length _) = wholeB (numsN f R) ++ _
        rw [hlen, g5, List.drop_drop, e5]
      · rw [e6]; simp only [totB]; omega
    · exact ⟨[], by simp [Good, blksB, totB, hp]⟩
theorem scanB_facts {b : List Nat} (hb : ∀ c ∈ b, c < 256) : Good 0 (scanB b).1 ∧ (scanB b).2.1 = (blksB (scanB b).1).length ∧ (scanB b).2.1 ≤ b.length ∧ b.take (scanB b).2.1 = blksB (scanB b).1 ∧ (scanB b).2.2 = totB (scanB b).1 := by
  obtain ⟨l, e1, e2, e3, e4, e5, e6⟩ := scan_facts b hb (b.length + 1) 0 0 [] (by omega)
  rw [show scanGo (b.length + 1) b 0 0 [] = scanB b from rfl] at *
  simp at e1 e3 e4 e5 e6
  rw [e1, e3]
  exact ⟨e2, rfl, e4, e5, e6⟩
/-- Blocks that are put one behind the other are found. -/
theorem scan_put (b : List Nat) : ∀ (l : List Bk) (d p : Nat) (t : Int) (acc : List Bk), l.length + 1 ≤ d → Good t l → (b.drop p) = blksB l → scanGo d b p t acc = (acc ++ l, p + (blksB l).length, t + totB l) := by
  intro l
  induction l with
  | nil =>
    intro d p t acc hd hg hp
    obtain ⟨d, rfl⟩ : ∃ e, d = e + 1 := ⟨d - 1, by simp at hd; omega⟩
    rw [scanGo, hp, if_neg (by intro q; exact get_nil q.1)]
    simp [blksB, totB]
  | cons x l ih =>
    intro d p t acc hd hg hp
    obtain ⟨d, rfl⟩ : ∃ e, d = e + 1 := ⟨d - 1, by simp at hd; omega⟩
    obtain ⟨g1, g2, g3, g4⟩ := hg
    have hG := get_of_put g2 g3 (blksB l)
    rw [scanGo, hp, blksB_cons]
    show (if (getB (wholeB (numsN x.1 x.2) ++ blksB l)).2.2 = 0 ∧ (getB (wholeB (numsN x.1 x.2) ++ blksB l)).1.1 = t then _ else _) = _
    rw [show putBk x = wholeB (numsN x.1 x.2) from rfl, hG]
    simp only []
    rw [if_pos ⟨trivial, g1⟩]
    rw [ih d (p + ((wholeB (numsN x.1 x.2)).length : Int).toNat) (t + sumN x.2) _ (by simp at hd; omega) g4 (by
      rw [Int.toNat_natCast, ← List.drop_drop, hp, blksB_cons]; show List.drop (wholeB (numsN x.1 x.2)).length (wholeB (numsN x.1 x.2) ++ _) = _; rw [List.drop_left])]
    simp [totB, List.length_append]
    omega
theorem scanB_put {l : List Bk} (h : Good 0 l) : scanB (blksB l) = (l, (blksB l).length, totB l) := by
  have := good_len l 0 h
  have := scan_put (blksB l) l ((blksB l).length + 1) 0 0 [] (by omega) h rfl
  simpa [scanB] using this
end Go.AM.R1
open Go Go.AM
namespace Go.AM.R1

/-! ### The bytes of a log that is made of rows -/
def madeGo : Int → List (List Run) → List Bk
  | _, [] => []
  | t, r :: s => if r.length ≤ 20 ∧ chk r = 0 ∧ chkB t (joined [] r) = 0 then (t, joined [] r) :: madeGo (t + sumN r) s else madeGo t s
def madeL (rows : List RowV) : List Bk := madeGo 0 ((rows.take 20).map RowV.l)
theorem Run.Fit.ok {r : Run} (h : r.Fit) : r.Ok := ⟨h.1.1, h.1.2⟩
theorem joined_drive {l : List Run} (h : ∀ r ∈ l, 0 ≤ r.Drive ∧ r.Drive ≤ 4294967295) : ∀ r ∈ joined [] l, 0 ≤ r.Drive ∧ r.Drive ≤ 4294967295 :=
  joined_mem l [] (fun r => 0 ≤ r.Drive ∧ r.Drive ≤ 4294967295) (fun r hr _ => h r hr) (fun x r hx _ _ => hx) (by simp)
theorem madeGo_good : ∀ (l : List (List Run)) (t : Int), (∀ r ∈ l, ∀ x ∈ r, x.Fit) → Good t (madeGo t l)
  | [], t, _ => trivial
  | r :: s, t, h => by
    rw [madeGo]
    split
    · rename_i h1
      have hs := joined_chk h1.2.1
      refine ⟨rfl, h1.2.2, joined_drive fun x hx => (h r (by simp) x hx).2.2, ?_⟩
      rw [hs.2.1]
      exact madeGo_good s _ fun r hr => h r (by simp [hr])
    · exact madeGo_good s _ fun r hr => h r (by simp [hr])
theorem madeL_good {rows : List RowV} (h : ∀ r ∈ rows, r.Fit) : Good 0 (madeL rows) := madeGo_good _ 0 (by
  intro r hr
  obtain ⟨v, hv, rfl⟩ := List.mem_map.1 hr
  exact (h v (List.mem_of_mem_take hv)).1)
theorem madeGo_length : ∀ (l : List (List Run)) (t : Int), (madeGo t l).length ≤ l.length
  | [], t => by simp [madeGo]
  | r :: s, t => by
    rw [madeGo]
    split
    · have := madeGo_length s (t + sumN r); simp; omega
    · have := madeGo_length s t; simp; omega
theorem putBk_len20 {x : Bk} (h : chkB x.1 x.2 = 0) (hl : x.2.length ≤ 20) : (putBk x).length ≤ 230 := by
  obtain ⟨h1, h2, h3, h4, h5, h6⟩ := chkB_ok h
  have := bytes_len5 (numsN x.1 x.2) (nums_lt h1 h3 (chk_right h4).1)
  have e : (numsN x.1 x.2).length = 2 * x.2.length + 2 := by simp only [numsN, List.length_cons, runN_length]
  have h7 := whole_len (numsN x.1 x.2)
  have h8 := putN_len64 (n := (bytesN (numsN x.1 x.2)).length) (by omega)
  unfold putBk; omega
theorem madeGo_bytes : ∀ (l : List (List Run)) (t : Int), (blksB (madeGo t l)).length ≤ 230 * l.length
  | [], t => by simp [madeGo, blksB]
  | r :: s, t => by
    rw [madeGo]
    split
    · rename_i h1
      have := madeGo_bytes s (t + sumN r)
      have := putBk_len20 (x := (t, joined [] r)) h1.2.2 (by have := joined_length r []; simp at this; show (joined [] r).length ≤ 20; omega)
      rw [blksB_cons, List.length_append, List.length_cons]; omega
    · have := madeGo_bytes s t; simp; omega
theorem blksB_byte : ∀ (l : List Bk) (t : Int), Good t l → ∀ c ∈ blksB l, c < 256
  | [], _, _ => by simp [blksB]
  | x :: l, t, g => by
    intro c hc
    rw [blksB_cons] at hc
    rcases List.mem_append.1 hc with h | h
    · exact wholeB_byte _ (nums_lt64 g.2.1) (by have := nums_bytes g.2.1; omega) c h
    · exact blksB_byte l _ g.2.2.2 c h

def madeB (rows : List RowV) : List Nat := blksB (madeL rows)
end Go.AM.R1
open Go Go.AM
namespace Go.AM.R1

/-! ### What the machine does that was not needed before -/
def appZK (fl : Bool) (sz bytes : Nat) (zero : List AVal) (H : Heap) (s : AVal) : AVal → Option (AVal × Heap)
  | .lit (.int .i64 l) => if 0 ≤ l ∧ l ≤ 2 ^ 46 ∧ l * bytes ≤ 2 ^ 46 then aadd fl sz bytes H s (flatL zero) (List.replicate l.toNat zero) else none
  | _ => none
theorem aop_appendZ {c : Callee} {ρ : Opd → AVal} {H : Heap} (fl sz b z s n) : aop c ρ H (.appendZ fl sz b z s n) = appZK fl sz b z H (ρ s) (ρ n) := by
  unfold aop appZK; rfl
theorem appZK_int (fl : Bool) (sz bytes : Nat) (zero : List AVal) (H : Heap) (s : AVal) (l : Int) : appZK fl sz bytes zero H s (.lit (.int .i64 l)) = if 0 ≤ l ∧ l ≤ 2 ^ 46 ∧ l * bytes ≤ 2 ^ 46 then aadd fl sz bytes H s (flatL zero) (List.replicate l.toNat zero) else none := rfl
def capK (H : Heap) : AVal → Option (AVal × Heap)
  | .imm _ true _ es => some (vint .i64 es.length, H)
  | _ => none
theorem aop_cap {c : Callee} {ρ : Opd → AVal} {H : Heap} (x) : aop c ρ H (.cap x) = capK H (ρ x) := by
  unfold aop capK; rfl
theorem capK_imm (H : Heap) (n fl es) : capK H (.imm n true fl es) = some (vint .i64 es.length, H) := rfl
def cutK (sz : Nat) (H : Heap) (i len off n lo h m : Nat) : Option Entry → Option (AVal × Heap)
  | some (.arr fl lk _ se es) => if es.length = len ∧ se = sz ∧ off = 0 ∧ n = len ∧ lo = 0 ∧ h = m ∧ m ≤ n then
      some (.own H.length h sz 0 h, H.set i .dead ++ [.arr fl lk true sz (es.take h)]) else none
  | _ => none
theorem aslice_own_mx (sz : Nat) (H : Heap) (i len so off n lo h m : Nat) : aslice sz H (.own i len so off n) lo (some h) (some m) = if so ≠ sz then none else cutK sz H i len off n lo h m H[i]? := by
  simp only [aslice]
  split
  · rfl
  · cases H[i]? with
    | none => rfl
    | some e => cases e <;> rfl
theorem cutK_arr (sz : Nat) (H : Heap) (i len off n lo h m : Nat) (fl lk fu se es) : cutK sz H i len off n lo h m (some (.arr fl lk fu se es)) = if es.length = len ∧ se = sz ∧ off = 0 ∧ n = len ∧ lo = 0 ∧ h = m ∧ m ≤ n then
      some (.own H.length h sz 0 h, H.set i .dead ++ [.arr fl lk true sz (es.take h)]) else none := rfl
attribute [go_sem] aop_appendZ appZK_int aop_cap capK_imm aslice_own_mx cutK_arr

theorem rowsR (l : List Run) : rowsOk 3 (l.map encRun) = true := rowsOk_map (f := encRun) (fun _ => rfl) l
theorem noImm_encRun (l : List Run) : noImmLL (l.map encRun) = true := noImmLL_map (fun _ => rfl) l

/-! ### slices.Grow, Concat and Clone of runs -/
theorem grow_nil (n : Nat) (hn : n ≤ 1000000) : call E (.func (.func 74) [] []) [nilS, .lit (.int .i64 n)] []
    = some (if n = 0 then (nilS, []) else (.own 0 n 3 0 0, [.arr true false false 3 (List.replicate n [.lit (.int .i64 0), .lit (.int .i64 0), .lit (.int .u32 0)])])) := by
  rw [call_func E E74]
  have h0 : ¬ (n : Int) < 0 := by omega
  have w0 : IntKind.wrap .i64 0 = 0 := rfl
  have w1 : IntKind.wrap .i64 (n : Int) = n := wrap64 (by omega) (by omega)
  by_cases h : n = 0
  · subst h
    simp [go_sem, ir74, w0, purse_eq]
  · have h1 : 0 < (n : Int) := by omega
    have h1' : 0 < n := by omega
    have h2 : (n : Int) ≤ 70368744177664 := by omega
    have h3 : (n : Int) * 24 ≤ 70368744177664 := by omega
    have h4 : ¬ (70368744177664 < n * 24) := by omega
    have hr : rowsOk 3 (List.replicate n [AVal.lit (.int .i64 0), .lit (.int .i64 0), .lit (.int .u32 0)]) = true := by
      simp [rowsOk]
    simp [go_sem, ir74, h, h0, h1, h1', h2, h3, h4, hr, w0, w1, purse_eq, flatL, flatV]
theorem concat2_spec (X Y : List Run) (hl : X.length + Y.length ≤ 1000000) (fu xn xf yn yf : Bool) :
    call E (.func (.func 56) [] []) [.imm false fu true [[.imm xn xf true (X.map encRun)], [.imm yn yf true (Y.map encRun)]]] []
      = some (if X ++ Y = [] then (nilS, []) else (.own 0 (X ++ Y).length 3 0 (X ++ Y).length, [.arr true false false 3 ((X ++ Y).map encRun)])) := by
  rw [call_func E E56]
  have hG := grow_nil (X.length + Y.length) hl
  have wx : IntKind.wrap .i64 (X.length : Int) = X.length := wrap64 (by omega) (by omega)
  have wxy : IntKind.wrap .i64 ((X.length : Int) + (Y.length : Int)) = ((X.length + Y.length : Nat) : Int) := by rw [wrap64 (by omega) (by omega)]; omega
  have w1 : IntKind.wrap .i64 1 = 1 := rfl
  have w2 : IntKind.wrap .i64 2 = 2 := rfl
  have h0 : ¬ (X.length : Int) < 0 := by omega
  have h1 : ¬ ((X.length + Y.length : Nat) : Int) < 0 := by omega
  have h1' : ¬ (X.length : Int) + (Y.length : Int) < 0 := by omega
  have rX := rowsR X
  have rY := rowsR Y
  simp only [Int.natCast_add] at wxy hG h1
  simp [go_sem, ir56, purse_eq]
  rw [run_inLoop']
  simp [go_sem, purse_eq, run_codeL E L56_0.eq_1, wx, w1, h0]
  rw [run_inLoop']
  simp [go_sem, purse_eq, run_codeL E L56_0.eq_1, wxy, w2, h1']
  rw [run_inLoop']
  simp [go_sem, purse_eq, run_codeL E L56_0.eq_1]
  by_cases hX : X = []
  · subst hX
    by_cases hY : Y = []
    · subst hY
      simp [nilS] at hG
      simp [go_sem, hG, nilS, purse_eq]
      rw [run_inLoop']
      simp [go_sem, purse_eq, run_codeL E L56_1.eq_1, w1]
      rw [run_inLoop']
      simp [go_sem, purse_eq, run_codeL E L56_1.eq_1, w2]
      rw [run_inLoop']
      simp [go_sem, purse_eq, run_codeL E L56_1.eq_1]
    · have hp := List.length_pos_iff.2 hY
      have hne : ¬ 0 = Y.length := by omega
      have hb : ¬ (70368744177664 < Y.length * 24) := by omega
      simp [nilS, hY] at hG
      simp [go_sem, hG, nilS, purse_eq]
      rw [run_inLoop']
      simp [go_sem, purse_eq, run_codeL E L56_1.eq_1, w1, hY]
      rw [run_inLoop']
      simp [go_sem, purse_eq, run_codeL E L56_1.eq_1, w2, hY, rY, hne, hb]
      rw [run_inLoop']
      simp [go_sem, purse_eq, run_codeL E L56_1.eq_1, hY]
  · have hp := List.length_pos_iff.2 hX
    have hne : ¬ 0 = X.length + Y.length := by omega
    have hb : ¬ (70368744177664 < X.length * 24) := by omega
    have hb2 : ¬ (70368744177664 < (X.length + Y.length) * 24) := by omega
    simp [nilS, hX] at hG
    simp [go_sem, hG, nilS, purse_eq]
    rw [run_inLoop']
    simp [go_sem, purse_eq, run_codeL E L56_1.eq_1, w1, hX, rX, hne, hb]
    rw [run_inLoop']
    by_cases hY : Y = []
    · subst hY
      simp [go_sem, purse_eq, run_codeL E L56_1.eq_1, w2, hX]
      rw [run_inLoop']
      simp [go_sem, purse_eq, run_codeL E L56_1.eq_1, hX]
    · simp [go_sem, purse_eq, run_codeL E L56_1.eq_1, w2, hX, hY, rY, hb2]
      rw [run_inLoop']
      simp [go_sem, purse_eq, run_codeL E L56_1.eq_1, hX]
theorem rclone_spec (X : List Run) (hl : X.length ≤ 1000000) (xf : Bool) :
    call E (.func (.func 54) [] []) [.imm false xf true (X.map encRun)] [] = some (.own 0 X.length 3 0 X.length, [.arr true false X.isEmpty 3 (X.map encRun)]) := by
  rw [call_func E E54]
  have rX := rowsR X
  have hb : ¬ (70368744177664 < X.length * 24) := by omega
  cases X with
  | nil => simp [go_sem, ir54, purse_eq]
  | cons x r =>
    simp at rX
    have hb' : ¬ (70368744177664 < (r.length + 1) * 24) := by simp at hl; omega
    simp [go_sem, ir54, rX, hb', purse_eq]
theorem rclone_nil : call E (.func (.func 54) [] []) [nilS] [] = some (nilS, []) := by
  rw [call_func E E54]
  simp [go_sem, ir54, purse_eq, nilS]
end Go.AM.R1
open Go Go.AM
namespace Go.AM.R1

/-! ### A file, and the log in a new one -/
def fileB (bV : AVal) (sure : Nat) (most : Int) (cr : Bool) : Entry := .box [bV, .lit (.int .i64 sure), .lit (.int .i64 most), .lit (.bool cr)]
theorem fnew_spec (most : Int) (h : 1 ≤ most ∧ most ≤ 67108864) : call E (.func (.func 42) [] []) [.lit (.int .i64 most)] [] = some (.tup [.ptr 0 0, .lit (.int .i64 0)], [fileB nilS 0 most false]) := by
  rw [call_func E E42]
  have h1 : ¬ most < 1 := by omega
  have h2 : ¬ 67108864 < most := by omega
  simp [go_sem, ir42, h1, h2, fileB, nilS, purse_eq, List.range_succ]
theorem fcheck_spec (bV : AVal) (sure : Nat) (most : Int) (cr : Bool) (H : Heap) (hr : reach (fileB bV sure most cr :: H) purse (refsV bV ++ []) [0] = some (List.range (H.length + 1))) : True := trivial

/-! #### New -/
def fN (most : Int) (cr : Bool) : Heap := [fileB nilS 0 most cr]
theorem ncheck (most : Int) (cr : Bool) : call E (.func (.func 57) [] []) [.ptr 0 0] (fN most cr) = some (.lit (.int .i64 (if cr = true then 25 else 0)), fN most cr) := by
  rw [call_func E E57]
  cases cr <;> simp [go_sem, ir57, fN, fileB, nilS, purse_eq, List.range_succ]
theorem nsize (most : Int) (cr : Bool) : call E (.func (.func 51) [] []) [.ptr 0 0] (fN most cr) = some (.lit (.int .i64 0), fN most cr) := by
  rw [call_func E E51]
  simp [go_sem, ir51, fN, fileB, nilS, purse_eq, List.range_succ]
theorem nflush (most : Int) (cr : Bool) : call E (.func (.func 47) [] []) [.ptr 0 0] (fN most cr) = some (.lit (.int .i64 (if cr = true then 25 else 0)), fN most cr) := by
  rw [call_func E E47]
  have h1 := ncheck most cr
  have h2 := nsize most cr
  cases cr
  · simp [fN, fileB, nilS] at h1 h2
    simp [go_sem, ir47, fN, fileB, nilS, h1, h2, purse_eq, List.range_succ]
  · simp [fN, fileB, nilS] at h1 h2
    simp [go_sem, ir47, fN, fileB, nilS, h1, h2, purse_eq, List.range_succ]
theorem nlen (most : Int) (cr : Bool) : call E (.func (.func 21) [] []) [.ptr 0 0] (fN most cr) = some (.lit (.int .i64 0), fN most cr) := by
  rw [call_func E E21]
  have h2 := nsize most cr
  simp [fN, fileB, nilS] at h2
  simp [go_sem, ir21, fN, fileB, nilS, h2, purse_eq, List.range_succ]
theorem nsure (most : Int) (cr : Bool) : call E (.func (.func 46) [] []) [.ptr 0 0] (fN most cr) = some (.lit (.int .i64 0), fN most cr) := by
  rw [call_func E E46]
  simp [go_sem, ir46, fN, fileB, nilS, purse_eq, List.range_succ]
theorem bclone_nil (fu : Bool) : call E (.func (.func 43) [] []) [.imm true fu true []] [] = some (nilS, []) := by
  rw [call_func E E43]
  simp [go_sem, ir43, purse_eq]
theorem nbytes (most : Int) (cr : Bool) : call E (.func (.func 13) [] []) [.ptr 0 0] (fN most cr) = some (nilS, fN most cr) := by
  rw [call_func E E13]
  have h2 := bclone_nil true
  simp [nilS] at h2
  simp [go_sem, ir13, fN, fileB, nilS, h2, purse_eq, List.range_succ]
theorem nkeep (most : Int) (cr : Bool) : call E (.func (.func 58) [] []) [.ptr 0 0, .lit (.int .i64 0)] (fN most cr) = some (.tup [], fN most cr) := by
  rw [call_func E E58]
  simp [go_sem, ir58, fN, fileB, nilS, purse_eq, List.range_succ]
theorem ncut (most : Int) : call E (.func (.func 53) [] []) [.ptr 0 0, .lit (.int .i64 0)] (fN most false) = some (.lit (.int .i64 0), fN most false) := by
  rw [call_func E E53]
  have h1 := ncheck most false
  have h2 := nsize most false
  have h3 := nkeep most false
  simp [fN, fileB, nilS] at h1 h2 h3
  simp [go_sem, ir53, fN, fileB, nilS, h1, h2, h3, purse_eq, List.range_succ]
/-! #### Log: empty -/
def lN (most : Int) (cr : Bool) : Heap := [.box [.ptr 1 0, nilS, nilS, nilS], fileB nilS 0 most cr]
theorem nlast (most : Int) (cr : Bool) : call E (.func (.func 44) [] []) [.ptr 0 0] (lN most cr) = some (.agg [.lit (.int .i64 0), .lit (.int .i64 0)], lN most cr) := by
  rw [call_func E E44]
  simp [go_sem, ir44, lN, fileB, nilS, purse_eq, List.range_succ]
theorem ticks_nil : call E (.func (.func 50) [] []) [nilS] [] = some (.tup [.lit (.int .i64 0), .lit (.int .i64 0)], []) := by
  have := ticks_spec [] (by simp) (by simp) true true
  simpa [nilS, ticks, ticksGo] using this
theorem nwaiting (most : Int) (cr : Bool) : call E (.func (.func 45) [] []) [.ptr 0 0] (lN most cr) = some (.lit (.int .i64 0), lN most cr) := by
  rw [call_func E E45]
  have h := ticks_nil
  simp [nilS] at h
  simp [go_sem, ir45, lN, fileB, nilS, h, purse_eq, List.range_succ]
theorem nticks (most : Int) (cr : Bool) : call E (.func (.func 14) [] []) [.ptr 0 0] (lN most cr) = some (.lit (.int .i64 0), lN most cr) := by
  rw [call_func E E14]
  have h1 := nlast most cr
  have h2 := nwaiting most cr
  have w : IntKind.wrap .i64 0 = 0 := rfl
  simp [lN, fileB, nilS] at h1 h2
  simp [go_sem, ir14, lN, fileB, nilS, h1, h2, w, purse_eq, List.range_succ]
theorem nlflush (most : Int) (cr : Bool) : call E (.func (.func 19) [] []) [.ptr 0 0] (lN most cr) = some (.lit (.int .i64 (if cr = true then 25 else 0)), lN most cr) := by
  rw [call_func E E19]
  have h1 := nflush most cr
  cases cr
  · simp [fN, fileB, nilS] at h1
    simp [go_sem, ir19, lN, fileB, nilS, h1, purse_eq, List.range_succ]
  · simp [fN, fileB, nilS] at h1
    simp [go_sem, ir19, lN, fileB, nilS, h1, purse_eq, List.range_succ]
theorem nruns (most : Int) (cr : Bool) : call E (.func (.func 24) [] []) [.ptr 0 0] (lN most cr) = some (.tup [nilS, .lit (.int .i64 0)], lN most cr) := by
  rw [call_func E E24]
  have h := rclone_nil
  simp [nilS] at h
  simp [go_sem, ir24, lN, fileB, nilS, h, purse_eq, List.range_succ]
theorem nlsure (most : Int) (cr : Bool) : call E (.func (.func 15) [] []) [.ptr 0 0] (lN most cr) = some (.lit (.int .i64 0), lN most cr) := by
  rw [call_func E E15]
  simp [go_sem, ir15, lN, fileB, nilS, purse_eq, List.range_succ]
  rw [run_inLoop']
  simp [go_sem, purse_eq, List.range_succ, run_codeL E L15_0.eq_1]
/-- What goes through no bytes at all. -/
theorem nblocks1 (most : Int) : call E (.func (.func 71) [] [.ptr 0 0]) [.yld 1]
      [.box [nilS], .loop 0 none [(5, .ptr 2 0)] [16, 17] A23_0 B23_0, .box [.ptr 3 0], .box [.ptr 4 0, nilS, nilS, nilS], fileB nilS 0 most false]
    = some (.tup [], [.box [nilS], .loop 0 none [(5, .ptr 2 0)] [16, 17] A23_0 B23_0, .box [.ptr 3 0], .box [.ptr 4 0, nilS, nilS, nilS], fileB nilS 0 most false]) := by
  rw [call_func E E71]
  have hG := bget_spec [] (by simp) (by simp) true true (.inr rfl)
  have hg : getB [] = ((0, []), 0, 13) := by decide
  rw [hg] at hG
  simp [resV, resHl, nilS] at hG
  simp [go_sem, ir71, fileB, purse_eq, nilS]
  rw [run_inLoop']
  simp [go_sem, purse_eq, List.range_succ]
  simp [go_sem, run_codeL E L71_0.eq_1, hG, purse_eq, List.range_succ]
theorem nopen (most : Int) : call E (.func (.func 23) [] []) [.ptr 0 0] (fN most false) = some (.tup [.ptr 1 0, .lit (.int .i64 0), .lit (.int .i64 0)], [fileB nilS 0 most false, .box [.ptr 0 0, nilS, nilS, nilS]]) := by
  rw [call_func E E23]
  have h1 := nbytes most false
  have h2 := blocks_spec true true []
  have h3 := nblocks1 most
  have h4 := nlen most false
  have h5 := nlast most false
  have h6 := ncut most
  have w : IntKind.wrap .i64 0 = 0 := rfl
  simp [fN, lN, fileB, nilS] at h1 h2 h3 h4 h5 h6
  simp [go_sem, ir23, fN, fileB, nilS, h1, h2, h3, h4, h5, h6, w, purse_eq, List.range_succ]
theorem lmade_spec (most : Int) (h : 1 ≤ most ∧ most ≤ 67108864) : call E (.func (.func 12) [] []) [.lit (.int .i64 most)] [] = some (.tup [.ptr 0 0, .ptr 1 0], lN most false) := by
  rw [call_func E E12]
  have h1 := fnew_spec most h
  have h2 := nopen most
  simp [fN, fileB, nilS] at h1 h2
  simp [go_sem, ir12, h1, h2, lN, fileB, nilS, purse_eq, List.range_succ]
end Go.AM.R1
open Go Go.AM
namespace Go.AM.R1

/-! ### A log with one block; and with runs that wait -/
def endE (n : Nat) (T : Int) : List AVal := [.lit (.int .i64 n), .lit (.int .i64 T)]
def fB (ff : Bool) (fb : List Nat) (sure : Nat) (most : Int) (cr : Bool) : Heap := [fileB (.own 1 fb.length 1 0 fb.length) sure most cr, .arr true false ff 1 (fb.map encB)]
theorem bcheck1 (ff : Bool) (fb : List Nat) (sure : Nat) (most : Int) (cr : Bool) : call E (.func (.func 57) [] []) [.ptr 0 0] (fB ff fb sure most cr) = some (.lit (.int .i64 (if cr = true then 25 else 0)), fB ff fb sure most cr) := by
  rw [call_func E E57]
  cases cr <;> simp [go_sem, ir57, fB, fileB, purse_eq, List.range_succ]
theorem bsize1 (ff : Bool) (fb : List Nat) (sure : Nat) (most : Int) (cr : Bool) : call E (.func (.func 51) [] []) [.ptr 0 0] (fB ff fb sure most cr) = some (.lit (.int .i64 fb.length), fB ff fb sure most cr) := by
  rw [call_func E E51]
  simp [go_sem, ir51, fB, fileB, purse_eq, List.range_succ]
theorem bflush1 (ff : Bool) (fb : List Nat) (sure : Nat) (most : Int) (cr : Bool) : call E (.func (.func 47) [] []) [.ptr 0 0] (fB ff fb sure most cr) = some (.lit (.int .i64 (if cr = true then 25 else 0)), fB ff fb (if cr = true then sure else fb.length) most cr) := by
  rw [call_func E E47]
  have h1 := bcheck1 ff fb sure most cr
  have h2 := bsize1 ff fb sure most cr
  cases cr
  · simp [fB, fileB] at h1 h2
    simp [go_sem, ir47, fB, fileB, h1, h2, purse_eq, List.range_succ]
  · simp [fB, fileB] at h1 h2
    simp [go_sem, ir47, fB, fileB, h1, h2, purse_eq, List.range_succ]
theorem bsure1 (ff : Bool) (fb : List Nat) (sure : Nat) (most : Int) (cr : Bool) : call E (.func (.func 46) [] []) [.ptr 0 0] (fB ff fb sure most cr) = some (.lit (.int .i64 sure), fB ff fb sure most cr) := by
  rw [call_func E E46]
  simp [go_sem, ir46, fB, fileB, purse_eq, List.range_succ]
/-- Bytes that are put into a new file. -/
theorem nadd (most : Int) (b : List Nat) (hb : b ≠ []) (hl : b.length ≤ 1000000) (fu : Bool) : call E (.func (.func 59) [] []) [.ptr 0 0, .imm false fu true (b.map encB)] (fN most false)
    = some (.tup [], fB false b 0 most false) := by
  rw [call_func E E59]
  have hr := rowsB b
  have hp := List.length_pos_iff.2 hb
  have hbb : ¬ (70368744177664 < b.length) := by omega
  simp [go_sem, ir59, fN, fB, fileB, nilS, hr, hb, hbb, purse_eq, List.range_succ]
theorem nfappend (most : Int) (b : List Nat) (hb : b ≠ []) (hl : b.length ≤ 1000000) (hm : (b.length : Int) ≤ most) (hm2 : most ≤ 67108864) (fu : Bool) : call E (.func (.func 28) [] []) [.ptr 0 0, .imm false fu true (b.map encB)] (fN most false)
    = some (.lit (.int .i64 0), fB false b 0 most false) := by
  rw [call_func E E28]
  have h1 := ncheck most false
  have h2 := nsize most false
  have h3 := nadd most b hb hl fu
  have w : IntKind.wrap .i64 (most - 0) = most := by rw [Int.sub_zero, wrap64 (by omega) (by omega)]
  have w' : IntKind.wrap .i64 most = most := by rw [wrap64 (by omega) (by omega)]
  have h4 : ¬ most < (b.length : Int) := by omega
  simp [fN, fB, fileB, nilS] at h1 h2 h3
  simp [go_sem, ir28, fN, fB, fileB, nilS, h1, h2, h3, w, w', h4, purse_eq, List.range_succ]
/-! #### Runs that wait -/
def lW (lk : Bool) (W : List Run) (most : Int) : Heap := [.box [.ptr 1 0, nilS, nilS, .own 2 W.length 3 0 W.length], fileB nilS 0 most false, .arr true lk false 3 (W.map encRun)]
theorem wlast (lk : Bool) (W : List Run) (most : Int) : call E (.func (.func 44) [] []) [.ptr 0 0] (lW lk W most) = some (.agg [.lit (.int .i64 0), .lit (.int .i64 0)], lW lk W most) := by
  rw [call_func E E44]
  simp [go_sem, ir44, lW, fileB, nilS, purse_eq, List.range_succ]
/-- Runs that wait in a log with its file's bytes. -/
def lV (ff lk : Bool) (fb : List Nat) (W : List Run) (most : Int) : Heap := [.box [.ptr 1 0, nilS, nilS, .own 3 W.length 3 0 W.length], fileB (.own 2 fb.length 1 0 fb.length) 0 most false, .arr true false ff 1 (fb.map encB), .arr true lk false 3 (W.map encRun)]
theorem vwaiting (ff lk : Bool) (fb : List Nat) (W : List Run) (hl : W.length ≤ 4096) (hc : chk W = 0) (most : Int) : call E (.func (.func 45) [] []) [.ptr 0 0] (lV ff lk fb W most) = some (.lit (.int .i64 (sumN W)), lV ff true fb W most) := by
  rw [call_func E E45]
  have hT := ticks_spec W (by omega) (fun r hr => by have := (chk_right hc).1 r hr; exact ⟨by omega, by omega⟩) false false
  rw [ticks_eq, if_pos hc, hc] at hT
  simp [go_sem, ir45, lV, fileB, nilS, hT, purse_eq, List.range_succ]
theorem vwrite (ff lk : Bool) (fb : List Nat) (W : List Run) (hW : W ≠ []) (hl : W.length ≤ 4096) (hc : chk W = 0) (hj : joined [] W = W) (most : Int) (n : Nat) (T : Int) (fu : Bool) :
    call E (.func (.func 49) [] []) [.ptr 0 0, .imm false fu true (W.map encRun), .agg (endE n T)] (lV ff lk fb W most)
      = some (.tup [], [.box [.ptr 1 0, .own 4 W.length 3 0 W.length, .own 5 1 2 0 1, .own 3 W.length 3 0 W.length], fileB (.own 2 fb.length 1 0 fb.length) 0 most false, .arr true false ff 1 (fb.map encB), .arr true lk false 3 (W.map encRun), .arr true false false 3 (W.map encRun), .arr true false false 2 [endE n T]]) := by
  rw [call_func E E49]
  have hN := (chk_right hc).1
  have hok : ∀ r ∈ W, r.Ok := fun r hr => by have := hN r hr; exact ⟨by omega, by omega⟩
  have hsu := (chk_right hc).2
  have hJ := join_spec W (by omega) hok false false
  rw [joinGo_eq W 0 [] (by rw [posSum_of_right _ (fun r hr => by have := hN r hr; omega)]; omega), hj] at hJ
  have hr := rowsR W
  have hbb : ¬ (70368744177664 < W.length * 24) := by omega
  simp [resV, resH, hW] at hJ
  simp [go_sem, ir49, lV, fileB, endE, nilS, hr, hW, hbb, hJ, purse_eq, List.range_succ]
/-- What the file's bytes are, when all is written. -/
theorem wflush (lk : Bool) (W : List Run) (hc : chkB 0 W = 0) (hj : joined [] W = W) (hd : ∀ r ∈ W, 0 ≤ r.Drive ∧ r.Drive ≤ 4294967295) (most : Int) (hm : ((putBk (0, W)).length : Int) ≤ most) (hm2 : most ≤ 67108864) :
    call E (.func (.func 19) [] []) [.ptr 0 0] (lW lk W most)
      = some (.lit (.int .i64 0), [.box [.ptr 1 0, .own 3 W.length 3 0 W.length, .own 4 1 2 0 1, nilS], fileB (.own 5 (putBk (0, W)).length 1 0 (putBk (0, W)).length) (putBk (0, W)).length most false, .arr true true false 3 (W.map encRun),
          .arr true false false 3 (W.map encRun), .arr true false false 2 [endE (putBk (0, W)).length (sumN W)], .arr true false false 1 ((putBk (0, W)).map encB)]) := by
  rw [call_func E E19]
  obtain ⟨c1, c2, c3, c4, c5, c6⟩ := chkB_ok hc
  have hN := (chk_right c4).1
  have hok : ∀ r ∈ W, r.Ok := fun r hr => by have := hN r hr; exact ⟨by omega, by omega⟩
  have hsu := (chk_right c4).2
  have h1 := fun lk => wlast lk W most
  have hP := bput_spec 0 (by omega) W (by omega) hok false false hc
  rw [show wholeB (numsN 0 W) = putBk (0, W) from rfl] at hP
  have hlen := putBk_len (x := (0, W)) hc
  have hne : putBk (0, W) ≠ [] := by intro q; rw [q] at hlen; simp at hlen
  have hA := nfappend most (putBk (0, W)) hne (by omega) hm hm2 false
  have hWt := vwaiting false true (putBk (0, W)) W (by omega) c4 most
  have w1 : IntKind.wrap .i64 ((putBk (0, W)).length : Int) = (putBk (0, W)).length := wrap64 (by omega) (by omega)
  have w2 : IntKind.wrap .i64 (sumN W) = sumN W := wrap64 (by omega) (by omega)
  have hWr := vwrite false true (putBk (0, W)) W c2 (by omega) c4 hj most (putBk (0, W)).length (sumN W) false
  have hF := bflush1 false (putBk (0, W)) 0 most false
  generalize putBk (0, W) = B at *
  have h1t := h1 true
  have h1f := h1 lk
  simp [lW, fileB, nilS] at h1t h1f
  simp [encBlk] at hP
  simp [fN, fB, fileB, nilS] at hA hF
  simp [lV, fileB, nilS, endE] at hWt hWr
  simp [go_sem, ir19, lW, fileB, nilS, c2, h1f, h1t, hP, hA, hWt, hWr, hF, w1, w2, endE, purse_eq, List.range_succ]
end Go.AM.R1
open Go Go.AM
namespace Go.AM.R1

/-! ### A log with one block -/
def lB (ff lw : Bool) (fb : List Nat) (W : List Run) (T : Int) (sure : Nat) (most : Int) (cr : Bool) : Heap :=
  [.box [.ptr 1 0, .own 3 W.length 3 0 W.length, .own 4 1 2 0 1, nilS], fileB (.own 2 fb.length 1 0 fb.length) sure most cr, .arr true false ff 1 (fb.map encB), .arr true lw false 3 (W.map encRun), .arr true false false 2 [endE fb.length T]]
theorem blast1 (ff lw : Bool) (fb W T sure most cr) : call E (.func (.func 44) [] []) [.ptr 0 0] (lB ff lw fb W T sure most cr) = some (.agg (endE fb.length T), lB ff lw fb W T sure most cr) := by
  rw [call_func E E44]
  have w : IntKind.wrap .i64 (1 - 1) = 0 := rfl
  have w' : IntKind.wrap .i64 0 = 0 := rfl
  simp [go_sem, ir44, lB, fileB, endE, nilS, w, w', purse_eq, List.range_succ]
theorem bwaiting1 (ff lw : Bool) (fb W T sure most cr) : call E (.func (.func 45) [] []) [.ptr 0 0] (lB ff lw fb W T sure most cr) = some (.lit (.int .i64 0), lB ff lw fb W T sure most cr) := by
  rw [call_func E E45]
  have h := ticks_nil
  simp [nilS] at h
  simp [go_sem, ir45, lB, fileB, endE, nilS, h, purse_eq, List.range_succ]
theorem bticks1 (ff lw : Bool) (fb W) (T : Int) (hT : 0 ≤ T ∧ T ≤ 1073741824) (sure most cr) : call E (.func (.func 14) [] []) [.ptr 0 0] (lB ff lw fb W T sure most cr) = some (.lit (.int .i64 T), lB ff lw fb W T sure most cr) := by
  rw [call_func E E14]
  have h1 := blast1 ff lw fb W T sure most cr
  have h2 := bwaiting1 ff lw fb W T sure most cr
  have w : IntKind.wrap .i64 (T + 0) = T := by rw [Int.add_zero, wrap64 (by omega) (by omega)]
  have w' : IntKind.wrap .i64 T = T := wrap64 (by omega) (by omega)
  simp [lB, fileB, endE, nilS] at h1 h2
  simp [go_sem, ir14, lB, fileB, endE, nilS, h1, h2, w, w', purse_eq, List.range_succ]
theorem blflush1 (ff lw : Bool) (fb W T sure most cr) : call E (.func (.func 19) [] []) [.ptr 0 0] (lB ff lw fb W T sure most cr) = some (.lit (.int .i64 (if cr = true then 25 else 0)), lB ff lw fb W T (if cr = true then sure else fb.length) most cr) := by
  rw [call_func E E19]
  have h1 := bflush1 ff fb sure most cr
  cases cr
  · simp [fB, fileB] at h1
    simp [go_sem, ir19, lB, fileB, endE, nilS, h1, purse_eq, List.range_succ]
  · simp [fB, fileB] at h1
    simp [go_sem, ir19, lB, fileB, endE, nilS, h1, purse_eq, List.range_succ]
theorem bruns1 (ff lw : Bool) (fb W) (hW : W ≠ []) (hl : W.length ≤ 4096) (T sure most cr) : call E (.func (.func 24) [] []) [.ptr 0 0] (lB ff lw fb W T sure most cr)
    = some (.tup [.own 5 W.length 3 0 W.length, .lit (.int .i64 0)], lB ff true fb W T sure most cr ++ [.arr true false false 3 (W.map encRun)]) := by
  rw [call_func E E24]
  have h := rclone_spec W (by omega) false
  have hWe : W.isEmpty = false := by cases W with | nil => exact absurd rfl hW | cons x r => rfl
  rw [hWe] at h
  simp [go_sem, ir24, lB, fileB, endE, nilS, h, purse_eq, List.range_succ]
theorem blsure1 (ff lw : Bool) (fb W) (T sure most cr) (hs : fb.length ≤ sure) : call E (.func (.func 15) [] []) [.ptr 0 0] (lB ff lw fb W T sure most cr) = some (.lit (.int .i64 T), lB ff lw fb W T sure most cr) := by
  rw [call_func E E15]
  have h1 := bsure1 ff fb sure most cr
  have w1 : IntKind.wrap .i64 1 = 1 := rfl
  simp [fB, fileB] at h1
  simp [go_sem, ir15, lB, fileB, endE, nilS, purse_eq, List.range_succ]
  rw [run_inLoop']
  simp [go_sem, purse_eq, List.range_succ]
  simp [go_sem, run_codeL E L15_0.eq_1, h1, hs, w1, purse_eq, List.range_succ]
  rw [run_inLoop']
  simp [go_sem, purse_eq, List.range_succ]
  simp [go_sem, run_codeL E L15_0.eq_1, purse_eq, List.range_succ]
/-! ### Runs that are put in -/
theorem nlappend (W : List Run) (r : List Run) (hl : r.length ≤ 12) (hok : ∀ x ∈ r, x.Ok) (hn : ∀ x ∈ r, x.N ≤ 1000000) (most : Int) (nl fu : Bool) (hW : joined [] r = W) :
    call E (.func (.func 26) [] []) [.ptr 0 0, .imm nl fu true (r.map encRun)] (lN most false)
      = some (if chk r = 0 then (.lit (.int .i64 0), if r = [] then lN most false else lW false W most) else (.lit (.int .i64 (chk r)), lN most false)) := by
  rw [call_func E E26]
  have hT := ticks_spec r (by omega) hok nl fu
  rw [ticks_eq] at hT
  by_cases hc : chk r = 0
  · rw [if_pos hc] at hT ⊢
    rw [hc] at hT
    have hN := (chk_right hc).1
    have hsu := (chk_right hc).2
    have hps := posSum_le r 1000000 (by omega) hn
    have hpr := posSum_of_right r (fun x hx => by have := hN x hx; omega)
    have hC := concat2_spec [] r (by simp; omega) false true true nl fu
    have hC2 := concat2_spec [] r (by simp; omega) true true true nl fu
    have hK := nticks most false
    have wT : IntKind.wrap .i64 (0 + sumN r) = sumN r := by rw [Int.zero_add, wrap64 (by omega) (by omega)]
    have wT' : IntKind.wrap .i64 (sumN r) = sumN r := wrap64 (by omega) (by omega)
    have hnb : ¬ 1073741824 < sumN r := by omega
    simp [lN, fileB, nilS] at hK
    by_cases hr : r = []
    · subst hr
      have hJ := join_spec [] (by simp) (by simp) true true
      simp [joinGo, resV, resH, nilS, sumN] at hJ hC hC2 hT wT wT'
      have w0 : IntKind.wrap .i64 0 = 0 := rfl
      simp [go_sem, ir26, lN, fileB, nilS, hT, hC, hC2, hJ, hK, w0, purse_eq, List.range_succ]
    · have hJ := join_spec r (by omega) hok false false
      rw [joinGo_eq r 0 [] (by omega), hW] at hJ
      have hjc := joined_chk hc
      have hWne : W ≠ [] := by
        intro q
        have h1 := hjc.2.1
        rw [hW, q] at h1
        cases r with
        | nil => exact hr rfl
        | cons x xs =>
          have h2 := hN x (by simp)
          have h3 : 0 ≤ sumN xs := by
            have := expand_length xs (fun y hy => by have := hN y (by simp [hy]); omega)
            omega
          rw [show sumN (x :: xs) = x.N + sumN xs from rfl] at h1
          simp [sumN] at h1
          omega
      have hWl := joined_length r []
      rw [hW] at hWl
      simp at hWl
      have hl4 : ¬ (4096 : Int) < (W.length : Int) := by omega
      simp [resV, resH, hWne] at hJ
      simp [hr] at hC hC2
      simp [go_sem, ir26, lN, lW, fileB, nilS, hr, hT, hC, hC2, hJ, hK, wT, wT', hnb, hl4, purse_eq, List.range_succ]
  · rw [if_neg hc] at hT ⊢
    simp [go_sem, ir26, lN, fileB, nilS, hT, hc, purse_eq, List.range_succ]
/-! ### Without a log -/
theorem zruns : call E (.func (.func 24) [] []) [.lit (.pointer none)] [] = some (.tup [nilS, .lit (.int .i64 2)], []) := by
  rw [call_func E E24]; simp [go_sem, ir24, purse_eq, nilS]
theorem zappend (nl fu : Bool) (rows : List (List AVal)) : call E (.func (.func 26) [] []) [.lit (.pointer none), .imm nl fu true rows] [] = some (.lit (.int .i64 2), []) := by
  rw [call_func E E26]; simp [go_sem, ir26, purse_eq, nilS]
theorem zflush : call E (.func (.func 19) [] []) [.lit (.pointer none)] [] = some (.lit (.int .i64 2), []) := by
  rw [call_func E E19]; simp [go_sem, ir19, purse_eq, nilS]
theorem zticks : call E (.func (.func 14) [] []) [.lit (.pointer none)] [] = some (.lit (.int .i64 0), []) := by
  rw [call_func E E14]; simp [go_sem, ir14, purse_eq, nilS]
theorem zsure : call E (.func (.func 15) [] []) [.lit (.pointer none)] [] = some (.lit (.int .i64 0), []) := by
  rw [call_func E E15]; simp [go_sem, ir15, purse_eq, nilS]
theorem zblocks : call E (.func (.func 16) [] []) [.lit (.pointer none)] [] = some (.lit (.int .i64 0), []) := by
  rw [call_func E E16]; simp [go_sem, ir16, purse_eq, nilS]
theorem zblocks1 : call E (.func (.func 71) [] [.ptr 0 0]) [.yld 1]
      [.box [nilS], .loop 0 none [(5, .ptr 2 0)] [16, 17] A23_0 B23_0, .box [.ptr 3 0], .box [.lit (.pointer none), nilS, nilS, nilS]]
    = some (.tup [], [.box [nilS], .loop 0 none [(5, .ptr 2 0)] [16, 17] A23_0 B23_0, .box [.ptr 3 0], .box [.lit (.pointer none), nilS, nilS, nilS]]) := by
  rw [call_func E E71]
  have hG := bget_spec [] (by simp) (by simp) true true (.inr rfl)
  have hg : getB [] = ((0, []), 0, 13) := by decide
  rw [hg] at hG
  simp [resV, resHl, nilS] at hG
  simp [go_sem, ir71, purse_eq, nilS]
  rw [run_inLoop']
  simp [go_sem, purse_eq, List.range_succ]
  simp [go_sem, run_codeL E L71_0.eq_1, hG, purse_eq, List.range_succ]
theorem zopen : call E (.func (.func 23) [] []) [.lit (.pointer none)] [] = some (.tup [.lit (.pointer none), .lit (.int .i64 0), .lit (.int .i64 2)], []) := by
  have h1 : call E (.func (.func 13) [] []) [.lit (.pointer none)] [] = some (nilS, []) := by
    rw [call_func E E13]; simp [go_sem, ir13, purse_eq, nilS]
  have h2 := blocks_spec true true []
  have h3 := zblocks1
  have h4 : call E (.func (.func 21) [] []) [.lit (.pointer none)] [] = some (.lit (.int .i64 0), []) := by
    rw [call_func E E21]; simp [go_sem, ir21, purse_eq, nilS]
  have h5 : call E (.func (.func 44) [] []) [.ptr 0 0] [.box [.lit (.pointer none), nilS, nilS, nilS]] = some (.agg [.lit (.int .i64 0), .lit (.int .i64 0)], [.box [.lit (.pointer none), nilS, nilS, nilS]]) := by
    rw [call_func E E44]
    simp [go_sem, ir44, nilS, purse_eq, List.range_succ]
  have h7 : call E (.func (.func 57) [] []) [.lit (.pointer none)] [] = some (.lit (.int .i64 2), []) := by
    rw [call_func E E57]; simp [go_sem, ir57, purse_eq, nilS]
  have h6 : call E (.func (.func 53) [] []) [.lit (.pointer none), .lit (.int .i64 0)] [] = some (.lit (.int .i64 2), []) := by
    rw [call_func E E53]; simp [go_sem, ir53, h7, purse_eq, nilS]
  rw [call_func E E23]
  have w : IntKind.wrap .i64 0 = 0 := rfl
  simp [nilS] at h1 h2 h3 h5
  simp [go_sem, ir23, nilS, h1, h2, h3, h4, h5, h6, w, purse_eq, List.range_succ]
end Go.AM.R1
open Go Go.AM
namespace Go.AM.R1

theorem tidy_dup17 : ∀ {l : List Run}, (∀ r ∈ l, right r = true) → Tidy l → dup l = false
  | [], _, _ => rfl
  | [_], _, _ => rfl
  | a :: b :: l, hr, ht => by
    have h0 := ht.2 0 (by simp)
    simp only [List.getElem_cons_zero, List.getElem_cons_succ] at h0
    have ha := hr a (by simp)
    have hb := hr b (by simp)
    simp only [right, Bool.and_eq_true, decide_eq_true_eq] at ha hb
    rw [dup, tidy_dup17 (l := b :: l) (fun r h => hr r (by simp [h])) ⟨fun x hx => ht.1 x (by simp [hx]), fun i hi => by have := ht.2 (i + 1) (by simpa using hi); simpa using this⟩, Bool.or_false, decide_eq_false_iff_not]
    intro e
    have hbus : a.Bus = b.Bus := by rw [ha.2, hb.2, e]
    simp [alike, e, hbus] at h0

/-! ### A crash that leaves what is sure -/
theorem ncrash (most : Int) : call E (.func (.func 27) [] []) [.ptr 0 0, .lit (.int .i64 0), nilS] (fN most false) = some (.lit (.int .i64 0), fN most true) := by
  rw [call_func E E27]
  have h1 := ncheck most false
  have h2 := nsize most false
  have h3 := nkeep most false
  have w : IntKind.wrap .i64 0 = 0 := rfl
  simp [fN, fileB, nilS] at h1 h2 h3
  simp [go_sem, ir27, fN, fileB, nilS, h1, h2, h3, w, purse_eq, List.range_succ]
  rw [run_inLoop']
  simp [go_sem, purse_eq, List.range_succ, run_codeL E L27_0.eq_1]
theorem bkeep1 (ff : Bool) (fb : List Nat) (most : Int) (cr : Bool) : call E (.func (.func 58) [] []) [.ptr 0 0, .lit (.int .i64 fb.length)] (fB ff fb fb.length most cr)
    = some (.tup [], [fileB (.own 2 fb.length 1 0 fb.length) fb.length most cr, .dead, .arr true false true 1 (fb.map encB)]) := by
  rw [call_func E E58]
  have ht : List.take fb.length (fb.map encB) = fb.map encB := take_allB fb
  simp [go_sem, ir58, fB, fileB, ht, purse_eq, List.range_succ]
theorem bcrash1 (ff : Bool) (fb : List Nat) (hl : fb.length ≤ 1000000) (most : Int) : call E (.func (.func 27) [] []) [.ptr 0 0, .lit (.int .i64 0), nilS] (fB ff fb fb.length most false)
    = some (.lit (.int .i64 0), [fileB (.own 2 fb.length 1 0 fb.length) fb.length most true, .dead, .arr true false true 1 (fb.map encB)]) := by
  rw [call_func E E27]
  have h1 := bcheck1 ff fb fb.length most false
  have h2 := bsize1 ff fb fb.length most false
  have h3 := bkeep1 ff fb most false
  have w : IntKind.wrap .i64 ((fb.length : Int) - (fb.length : Int)) = 0 := by rw [Int.sub_self]; rfl
  have w0 : IntKind.wrap .i64 0 = 0 := rfl
  have w1 : IntKind.wrap .i64 (fb.length : Int) = fb.length := wrap64 (by omega) (by omega)
  simp [fB, fileB, nilS] at h1 h2 h3
  simp [go_sem, ir27, fB, fileB, nilS, h1, h2, h3, w, w0, w1, purse_eq, List.range_succ]
  rw [run_inLoop']
  simp [go_sem, purse_eq, List.range_succ, run_codeL E L27_0.eq_1]
/-! ### Few -/
def fewR (r : List Run) : Bool := decide (r.length ≤ 12) && r.all fun x => decide (x.N ≤ 1000000)
theorem few17_loop (r : List Run) (hl : r.length ≤ 12) (nl fu : Bool) (rest : List Item) (R : Bool → Option (AVal × Heap))
    (hk : ∀ τ, lk 0 τ = .imm false true true [[.imm nl fu true (r.map encRun)]] → lk 3 τ = .lit (.int .i64 0) → finK 0 [.tmp 2] (run E 0 rest τ []) = R true) (hf : R false = some (.lit (.bool false), [])) :
    ∀ (d i : Nat), i + d = r.length →
    finK 0 [.tmp 2] (run E 0 (.code L10_1 :: .inLoop [1000000, 0, 3, 4] L10_1 :: .inBlock 2 :: rest) [(0, .imm false true true [[.imm nl fu true (r.map encRun)]]), (3, .lit (.int .i64 0)), (4, .lit (.int .i64 i))] []) = R ((r.drop i).all fun x => decide (x.N ≤ 1000000)) := by
  intro d
  induction d with
  | zero =>
    intro i hi
    have : i = r.length := by omega
    subst this
    simp [go_sem, run_codeL E L10_1.eq_1]
    exact hk _ rfl rfl
  | succ d ih =>
    intro i hi
    have hlt : i < r.length := by omega
    have wi := wrapIdx (i := i) (by omega)
    rw [List.drop_eq_getElem_cons hlt, List.all_cons]
    by_cases h : r[i].N ≤ 1000000
    · have h' : ¬ 1000000 < r[i].N := by omega
      have ih2 := ih (i + 1) (by omega)
      rw [decide_eq_true h, Bool.true_and]
      simp [go_sem, run_codeL E L10_1.eq_1, hlt, List.getElem?_eq_getElem hlt, encRun, h', wi, purse_eq]
      rw [run_inLoop']
      simp [go_sem, purse_eq]
      simpa using ih2
    · have h' : 1000000 < r[i].N := by omega
      rw [decide_eq_false h, Bool.false_and, hf]
      simp [go_sem, run_codeL E L10_1.eq_1, hlt, List.getElem?_eq_getElem hlt, encRun, h', purse_eq]
theorem few17_spec (r : List Run) (nl fu : Bool) : call E (.func (.func 10) [] []) [.imm false true true [[.imm nl fu true (r.map encRun)]]] [] = some (.lit (.bool (fewR r)), []) := by
  rw [call_func E E10]
  simp [go_sem, ir10, purse_eq]
  rw [run_inLoop']
  simp [go_sem, purse_eq]
  by_cases hl : r.length ≤ 12
  · have hl' : ¬ (12 : Int) < (r.length : Int) := by omega
    have hf : fewR r = (r.drop 0).all fun x => decide (x.N ≤ 1000000) := by simp [fewR, hl]
    have w1 : IntKind.wrap .i64 1 = 1 := rfl
    rw [hf]
    simp [go_sem, run_codeL E L10_0.eq_1, hl', purse_eq]
    rw [run_inLoop']
    simp [go_sem, purse_eq]
    have h := fun rest hk => few17_loop r hl nl fu rest (fun b => some (.lit (.bool b), [])) hk rfl r.length 0 (by omega)
    simp at h
    refine h _ ?_
    intro τ t0 t3
    simp [go_sem, t0, t3, w1, purse_eq]
    rw [run_inLoop']
    simp [go_sem, purse_eq, t0, run_codeL E L10_0.eq_1]
  · have hl' : (12 : Int) < (r.length : Int) := by omega
    have hf : fewR r = false := by simp [fewR, hl]
    rw [hf]
    simp [go_sem, run_codeL E L10_0.eq_1, hl', purse_eq]
end Go.AM.R1
open Go Go.AM Go.Proofs
namespace Go.AM.R1
theorem awake17 : call E (.func (.func 11) [] []) [] [] = some (.lit (.bool true), []) :=
  (call_iff E).2 ⟨3000, by kernel_rfl⟩
end Go.AM.R1
open Go Go.AM Go.Proofs
namespace Go.AM.R1
theorem told17_loop (n : Nat) (hn : n ≤ 1000000) (fb : List Nat) (W : List Run) (T most : Int) (k : List Item) (R : Option (AVal × Heap))
    (hk : ∀ τ (Z : List Run), lk 9 τ = .ptr 0 0 → lk 10 τ = .ptr 1 0 → lk 13 τ = .own 5 W.length 3 0 W.length →
      finK 0 [.tmp 2] (run E 0 k τ [.box [.ptr 1 0, .own 3 W.length 3 0 W.length, .own 4 1 2 0 1, nilS], fileB (.own 2 fb.length 1 0 fb.length) fb.length most false, .arr true false false 1 (fb.map encB), .arr true true false 3 (W.map encRun), .arr true false false 2 [endE fb.length T], .arr true false false 3 (W.map encRun), .arr true false false 3 (Z.map encRun)]) = R) :
    ∀ (d i : Nat) (Z : List Run), i + d = n → Z.length = n →
   finK 0 [.tmp 2] (run E 0 (.code L4_0 :: .inLoop [1000000, 9, 10, 13, 15, 17] L4_0 :: .inBlock 0 :: k)
     [(9, .ptr 0 0), (10, .ptr 1 0), (13, .own 5 W.length 3 0 W.length), (15, .own 6 n 3 0 n), (17, .lit (.int .i64 i))]
     [.box [.ptr 1 0, .own 3 W.length 3 0 W.length, .own 4 1 2 0 1, nilS], fileB (.own 2 fb.length 1 0 fb.length) fb.length most false, .arr true false false 1 (fb.map encB), .arr true true false 3 (W.map encRun), .arr true false false 2 [endE fb.length T], .arr true false false 3 (W.map encRun), .arr true false false 3 (Z.map encRun)])
   = R := by
  intro d
  induction d with
  | zero =>
    intro i Z hi hZ
    have : i = n := by omega
    subst this
    simp [go_sem, run_codeL E L4_0.eq_1]
    exact hk _ Z rfl rfl rfl
  | succ d ih =>
    intro i Z hi hZ
    have hlt : i < n := by omega
    have wi := wrapIdx (i := i) (by omega)
    have ih2 := ih (i + 1) (Z.set i ⟨0, (Z[i]'(by omega)).Bus, (Z[i]'(by omega)).Drive⟩) (by omega) (by simpa using hZ)
    rw [List.map_set] at ih2
    simp [encRun, fileB, endE, nilS] at ih2
    simp [go_sem, run_codeL E L4_0.eq_1, hlt, hZ, wi, purse_eq, encRun, fileB, endE, nilS, List.getElem?_eq_getElem (show i < Z.length by omega)]
    rw [run_inLoop']
    simp [go_sem, purse_eq, List.range_succ]
    exact ih2
set_option maxHeartbeats 2000000 in
theorem logNil_spec (r : List Run) (hr : ∀ x ∈ r, x.Fit) (nl fu : Bool) :
    call E (.func (.func 4) [] []) [.imm nl fu true (r.map encRun)] [] = some (.lit (.bool true), []) := by
  rw [call_func E E4]
  have z1 := zruns
  have z2 := zopen
  have z3 := zappend nl fu (r.map encRun)
  have z4 := zflush
  have z5 := zticks
  have z6 := zsure
  have z7 := zblocks
  have hF := few17_spec r nl fu
  simp [nilS] at z1 z2
  by_cases hf : fewR r = true
  · rw [hf] at hF
    have hl : r.length ≤ 12 := by simp [fewR] at hf; exact hf.1
    have hn : ∀ x ∈ r, x.N ≤ 1000000 := by simp [fewR] at hf; exact hf.2
    have hok : ∀ x ∈ r, x.Ok := fun x hx => (hr x hx).ok
    have hM := lmade_spec 10000 (by omega)
    have hA := nlappend (joined [] r) r hl hok hn 10000 nl fu rfl
    have hC := check_spec r (by omega) hok nl fu
    rw [ticks_eq] at hC
    simp only [] at hC
    by_cases hgood : chk r = 0 ∧ r ≠ []
    · -- a block
      obtain ⟨hc, hrne⟩ := hgood
      rw [if_pos hc, if_neg hrne] at hA
      have hj := joined_chk hc
      have hN := (chk_right hc).1
      have hps := posSum_le r 1000000 (by omega) hn
      have hpr := posSum_of_right r (fun x hx => by have := hN x hx; omega)
      have hJl := joined_length r []
      simp at hJl
      have hWne : joined [] r ≠ [] := by
        intro q
        have h1 := hj.2.1
        rw [q] at h1
        cases r with
        | nil => exact hrne rfl
        | cons x xs =>
          have h2 := hN x (by simp)
          have h3 : 0 ≤ sumN xs := by
            have := expand_length xs (fun y hy => by have := hN y (by simp [hy]); omega)
            omega
          rw [show sumN (x :: xs) = x.N + sumN xs from rfl] at h1
          simp [sumN] at h1
          omega
      have hjj : joined [] (joined [] r) = joined [] r := joined_self r
      have hd := joined_drive (l := r) (fun x hx => (hr x hx).2.2)
      have hsu := (chk_right hj.1).2
      have hdup : dup (joined [] r) = false := tidy_dup17 (chk_all hj.1) (tidy_joined r [] ⟨by simp, by simp⟩)
      have hcb : chkB 0 (joined [] r) = 0 := by
        unfold chkB
        rw [if_neg (by omega), if_neg hWne, if_neg (by omega), if_neg (by simp [hj.1]), if_neg (by simp [hdup]), if_neg (by omega)]
      have hpl := putBk_len20 (x := (0, joined [] r)) hcb (by show (joined [] r).length ≤ 20; omega)
      have hFl := wflush false (joined [] r) hcb hjj hd 10000 (by omega) (by omega)
      have hT : 0 ≤ sumN (joined [] r) ∧ sumN (joined [] r) ≤ 1073741824 := hsu
      have R1 := fun lw cr ff => bruns1 ff lw (putBk (0, joined [] r)) (joined [] r) hWne (by omega) (sumN (joined [] r)) (putBk (0, joined [] r)).length 10000 cr
      have Tk := fun ff lw cr => bticks1 ff lw (putBk (0, joined [] r)) (joined [] r) (sumN (joined [] r)) hT (putBk (0, joined [] r)).length 10000 cr
      have Sr := fun ff lw cr => blsure1 ff lw (putBk (0, joined [] r)) (joined [] r) (sumN (joined [] r)) (putBk (0, joined [] r)).length 10000 cr (by omega)
      have Fl := fun ff lw => blflush1 ff lw (putBk (0, joined [] r)) (joined [] r) (sumN (joined [] r)) (putBk (0, joined [] r)).length 10000 true
      have Cr := bcrash1 false (putBk (0, joined [] r)) (by omega) 10000
      have Sm := same_spec (joined [] r) (joined [] r) (by omega) false false false false
      rw [decide_eq_true rfl] at Sm
      have hW := fun k hk => told17_loop (joined [] r).length (by omega) (putBk (0, joined [] r)) (joined [] r) (sumN (joined [] r)) 10000 k (some (.lit (.bool true), [])) hk (joined [] r).length 0 (joined [] r) (by omega) rfl
      rw [hc] at hC
      generalize putBk (0, joined [] r) = B at *
      generalize sumN (joined [] r) = T at *
      generalize joined [] r = W at *
      have R1a := R1 false false false
      have R1b := R1 true false false
      have R1c := R1 true true true
      have Tka := Tk false true false
      have Tkc := Tk true true true
      have Src := Sr true true true
      have Flc := Fl true true
      simp [lN, lW, lB, fB, fileB, endE, nilS] at hM hA hFl R1a R1b R1c Tka Tkc Src Flc Cr
      simp [go_sem, ir4, z1, z2, z3, z4, z5, z6, z7, hF, hM, hA, hFl, hC, R1a, R1b, purse_eq, List.range_succ, nilS]
      rw [run_inLoop']
      simp [go_sem, purse_eq, List.range_succ]
      simp [fileB, endE, nilS] at hW
      refine hW _ ?_
      clear hW
      intro τ Z t9 t10 t13
      simp [go_sem, t9, t10, t13, Tka, Cr, Flc, R1c, Tkc, Src, Sm, awake17, purse_eq, List.range_succ, nilS]
    · have hA' : call E (.func (.func 26) [] []) [.ptr 0 0, .imm nl fu true (r.map encRun)] (lN 10000 false) = some (.lit (.int .i64 (chk r)), lN 10000 false) := by
        rw [hA]
        by_cases hc : chk r = 0
        · rw [if_pos hc, if_pos (by apply Classical.byContradiction; intro q; exact hgood ⟨hc, q⟩), hc]
        · rw [if_neg hc]
      have f1 := nlflush 10000 false
      have f2 := nlflush 10000 true
      have r1 := nruns 10000 false
      have r2 := nruns 10000 true
      have k1 := nticks 10000 false
      have k2 := nticks 10000 true
      have s2 := nlsure 10000 true
      have c1 := ncrash 10000
      have sm := same_spec [] [] (by simp) true true true true
      simp [lN, fN, fileB, nilS] at hM hA' f1 f2 r1 r2 k1 k2 s2 c1 sm
      simp [go_sem, ir4, z1, z2, z3, z4, z5, z6, z7, hF, hM, hA', hC, f1, r1, purse_eq, List.range_succ, nilS]
      rw [run_inLoop']
      simp [go_sem, purse_eq, List.range_succ, run_codeL E L4_0.eq_1, f1, f2, r1, r2, k1, k2, s2, c1, sm, awake17]
  · have hf' : fewR r = false := by simpa using hf
    rw [hf'] at hF
    simp [go_sem, ir4, z1, z2, z3, z4, z5, z6, z7, hF, awake17, purse_eq, List.range_succ, nilS]
end Go.AM.R1
open Go Go.AM Go.AM.R1 Go.Proofs
namespace Go.Proofs.Ytbeafaiadhokfaa
open Go.ChangeShapes Go.WideShapes Go.ChangeAt Go.RowKit
namespace logNil
theorem own : ownKnob Try.prog.godebug = none := by kernel_rfl
theorem laidOut : laidOutB Try.prog = true := by kernel_rfl
theorem mixed : Try.prog.follows .mixedOrders = true := by kernel_rfl
set_option maxRecDepth 100000 in
theorem contract (H : Type) (enc : TypeId × Value → H) (W : World) (base : Nat) (args : Array Value) (ds gs : List (DataW H)) (before : List MemPlace)
    (hval : ∀ (j : Nat) t v, Try.f4.params[j]? = some t → args[j]? = some v → Value.okWide Try.prog W .any base t v)
    (hW : DataW.Whole enc Try.prog Try.f4.params.toList Rows.logNilSpec.vars false W args.toList ds gs before) :
    Calls Try.prog 4 args W fun e W' => ∃ v, e = .returned v ∧ Rows.logNilSpec.post enc Try.prog Try.f4 false true false false W args v W' := by
  refine law_contract (id := 4) (f := Try.f4) (s := Rows.logNilSpec) (k := 7) (nargs := 1) (base := base) (ds := ds) (gs := gs) (before := before) mixed R1.hE laidOut ?e1 ?e2 (tb := 4) ?e3 Try.underlying4 ?e4 ?e5 ?e7 ?e8 ?e6
  case e7 => exact hval
  case e8 => exact hW
  case e1 => rfl
  case e3 => kernel_rfl
  case e4 => rw [Try.params4]; rfl
  · rw [Try.params4]; decide +kernel
  · intro ds h
    match ds, h with
    | [d1], _ => rfl
  · intro cs hA
    rw [Try.params4] at hA
    obtain ⟨d1, r1, a1, s1, rfl, rfl, h1, hA⟩ := decArgs_cons hA
    obtain ⟨rfl, rfl⟩ := decArgs_nil hA
    obtain ⟨nl, fu, l, rfl, hl⟩ := dec_runs (n := 4) Try.underlying34 ⟨_, _, _, Try.underlying51, Try.underlying3, Try.underlying3, Try.underlying49⟩ h1
    obtain ⟨n, hn⟩ := (call_iff R1.E).1 (logNil_spec l hl nl fu)
    exact ⟨n, _, hn⟩

set_option maxRecDepth 100000 in
theorem lifted (os : Os) (started : os.Started) (H : Type) (enc : TypeId × Value → H) :
    ReturnsInHanded {} Try.checked os 4 .any (Rows.logNilSpec.pre6 enc Try.prog Try.f4 Rows.logNilRow.domain false) (Rows.logNilSpec.post enc Try.prog Try.f4 false true false false) := by
  refine returnsInHanded_of_change (C := Try.checked) own started (by kernel_rfl) Try.func4
    (ChangeSpec.witness6 (enc := enc) (C := Try.checked) false ⟨#[], #[.slice none 0 0], []⟩ 8 (by kernel_rfl) (by kernel_rfl) (by kernel_rfl) (by kernel_rfl)) ?_
  intro W base args ds gs before hval hW _ _
  exact contract H enc W base args ds gs before hval hW

theorem proved : Rows.LogNilSaid :=
  OpenClaim.holds_of_wide 4 Try.f4 rfl rfl rfl rfl rfl rfl rfl ⟨rfl, rfl, rfl, rfl, rfl⟩ rfl rfl rfl rfl rfl (by kernel_rfl) Try.func4 (by kernel_rfl)
    (of_decide_eq_true (by kernel_rfl)) (by unfold Func.isWrapper; first | (rw [if_pos (by decide +kernel)]; kernel_rfl) | (rw [if_neg (by decide +kernel)]; exact ⟨rfl, rfl⟩))
    (fun os started H enc _ => lifted os started H enc)
end logNil
theorem logNilProved : Rows.LogNilSaid := logNil.proved
end Go.Proofs.Ytbeafaiadhokfaa
