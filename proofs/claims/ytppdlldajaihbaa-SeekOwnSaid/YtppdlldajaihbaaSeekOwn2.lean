/- The law SeekOwn of package magnetolaw18 returns true for every input, and its arguments read as before. -/
import Derived.Test.YtppdlldajaihbaaSeekOwn1
import Derived.ProofKit
set_option linter.unusedVariables false
set_option linter.unusedSimpArgs false
open Go Go.AM Go.Proofs
namespace Go.AM.R1
section
variable {H : Type} {P : Program}
theorem dec_runs' {n : Nat} {t e : TypeId} (hu : P.underlying t = some (.slice e)) (i : IsRun P e) {d : DataW H} {cs : List AVal} (h : Dec P (n + 3) t d cs) :
    ∃ (nl fu : Bool) (l : List Run), cs = [.imm nl fu true (l.map encRun)] ∧ ∀ r ∈ l, r.Fit := by
  rw [Dec, hu] at h
  rcases h with ⟨-, h⟩ | ⟨elems, spare, rows, -, h, h2, h3⟩
  · exact ⟨true, true, [], by simpa [nilS] using h, by simp⟩
  · obtain ⟨l, rfl, hl⟩ := rows_map encRun Run.Fit (all2_forall (Q := fun b => ∃ r : Run, b = encRun r ∧ r.Fit) (fun a b hab => dec_run i hab) h2)
    exact ⟨false, false, l, h, hl⟩
theorem decV_block {n : Nat} {t e : TypeId} {f1 f2 : Field} (hu : P.underlying t = some (.struct #[f1, f2])) (h1 : P.underlying f1.type = some (.int .i64)) (h2 : P.underlying f2.type = some (.slice e)) (i : IsRun P e)
    {d : DataW H} {a : AVal} (h : DecV P (n + 4) t d a) : ∃ (first : Int) (nl fu : Bool) (l : List Run), a = .agg (encBlk first l nl fu) ∧ (Lit.int .i64 first).wf = true ∧ ∀ r ∈ l, r.Fit := by
  unfold DecV at h
  rw [if_pos (by simp [isAggT, hu])] at h
  obtain ⟨cs, rfl, h⟩ := h
  rw [Dec, hu] at h
  obtain ⟨parts, ass, -, rfl, hf⟩ := h
  obtain ⟨p1, ps1, a1, as1, rfl, rfl, r1, hf⟩ := fieldsR_cons hf
  obtain ⟨p2, ps2, a2, as2, rfl, rfl, r2, hf⟩ := fieldsR_cons hf
  obtain ⟨rfl, rfl⟩ := fieldsR_nil hf
  simp only [Dec, h1] at r1
  obtain ⟨v1, -, w1, rfl⟩ := r1
  obtain ⟨nl, fu, l, rfl, hl⟩ := dec_runs' h2 i r2
  exact ⟨v1, nl, fu, l, rfl, w1, hl⟩
/-- Bytes. -/
theorem decV_bytes {n : Nat} {t e : TypeId} (hu : P.underlying t = some (.slice e)) (he : P.underlying e = some (.int .u8)) {d : DataW H} {a : AVal} (h : DecV P (n + 2) t d a) :
    ∃ (nl fu : Bool) (l : List Nat), a = .imm nl fu true (l.map encB) ∧ (nl = false ∨ l = []) ∧ ∀ c ∈ l, c < 256 := by
  unfold DecV at h
  rw [if_neg (by simp [isAggT, hu])] at h
  rw [Dec, hu] at h
  rcases h with ⟨-, h⟩ | ⟨elems, spare, rows, -, h, h2, h3⟩
  · exact ⟨true, true, [], by simpa [nilS] using h, .inr rfl, by simp⟩
  · obtain ⟨l, rfl, hl⟩ := rows_map encB (fun c => c < 256) (all2_forall (Q := fun b => ∃ c : Nat, b = encB c ∧ c < 256) (fun a b hab => by
      simp only [Dec, he] at hab
      obtain ⟨v, -, hw, rfl⟩ := hab
      have hv : 0 ≤ v ∧ v ≤ 255 := by simpa [Lit.wf, IntKind.min, IntKind.max, IntKind.signed, IntKind.bits] using hw
      refine ⟨v.toNat, ?_, by omega⟩
      unfold encB
      rw [show ((v.toNat : Nat) : Int) = v from by omega]) h2)
    exact ⟨false, false, l, by simpa using h, .inl rfl, hl⟩
end
end Go.AM.R1
open Go Go.AM
namespace Go.AM.R1

/-! ### Scripts -/
def encScr (node first : Int) (l : List Run) (nl fu : Bool) : List AVal := [.lit (.int .i64 node), .lit (.int .i64 first), .imm nl fu true (l.map encRun)]
def okR (r : Run) : Bool := decide (1 ≤ r.N) && decide (r.N ≤ 1073741824) && (decide (0 ≤ r.Bus) && decide (r.Bus ≤ 1))
def okP (node first : Int) : Bool := decide (0 ≤ node) && decide (node ≤ 31) && (decide (0 ≤ first) && decide (first ≤ 1073741824))
/-- How a script is wrong. -/
def chkS (node first : Int) (l : List Run) : Int := if okP node first = true ∧ l.all okR = true then (if 1073741824 < sumN l then 12 else 0) else 10
theorem okR_N {r : Run} (h : okR r = true) : (1 ≤ r.N ∧ r.N ≤ 1073741824) ∧ (0 ≤ r.Bus ∧ r.Bus ≤ 1) := by
  simp [okR] at h; omega
/-- The place of the first one that is so. -/
def findI {α : Type} (p : α → Bool) : Nat → List α → Int
  | _, [] => -1
  | i, r :: l => if p r = true then (i : Int) else findI p (i + 1) l
theorem findI_ge {α : Type} (p : α → Bool) : ∀ (l : List α) (i : Nat), (decide ((0 : Int) ≤ findI p i l)) = l.any p
  | [], i => by simp [findI]
  | r :: l, i => by
    rw [findI, List.any_cons]
    cases hp : p r with
    | true => simp
    | false => simp [findI_ge p l]
theorem any_not {α : Type} (p : α → Bool) (l : List α) : (l.any fun x => !p x) = !(l.all p) := by
  induction l with
  | nil => rfl
  | cons x r ih => simp [List.any_cons, List.all_cons, ih, Bool.not_and]
end Go.AM.R1
open Go Go.AM Go.Proofs
namespace Go.AM.R1
section
variable {H : Type} {P : Program}
structure IsScr (P : Program) (t : TypeId) where
  f1 : Field
  f2 : Field
  f3 : Field
  e : TypeId
  hu : P.underlying t = some (.struct #[f1, f2, f3])
  h1 : P.underlying f1.type = some (.int .i64)
  h2 : P.underlying f2.type = some (.int .i64)
  h3 : P.underlying f3.type = some (.slice e)
  i : IsRun P e
structure Scr where
  node : Int
  first : Int
  runs : List Run
  nl : Bool
  fu : Bool
def encS (s : Scr) : List AVal := encScr s.node s.first s.runs s.nl s.fu
def Scr.Fit (s : Scr) : Prop := (-9223372036854775808 ≤ s.node ∧ s.node ≤ 9223372036854775807) ∧ (-9223372036854775808 ≤ s.first ∧ s.first ≤ 9223372036854775807) ∧ ∀ r ∈ s.runs, r.Fit
theorem dec_scr {n : Nat} {t : TypeId} (i : IsScr P t) {d : DataW H} {cs : List AVal} (h : Dec P (n + 4) t d cs) : ∃ s : Scr, cs = encS s ∧ s.Fit := by
  rw [Dec, i.hu] at h
  obtain ⟨parts, ass, -, rfl, hf⟩ := h
  obtain ⟨p1, ps1, a1, as1, rfl, rfl, r1, hf⟩ := fieldsR_cons hf
  obtain ⟨p2, ps2, a2, as2, rfl, rfl, r2, hf⟩ := fieldsR_cons hf
  obtain ⟨p3, ps3, a3, as3, rfl, rfl, r3, hf⟩ := fieldsR_cons hf
  obtain ⟨rfl, rfl⟩ := fieldsR_nil hf
  simp only [Dec, i.h1, i.h2] at r1 r2
  obtain ⟨v1, -, w1, rfl⟩ := r1
  obtain ⟨v2, -, w2, rfl⟩ := r2
  obtain ⟨nl, fu, l, rfl, hl⟩ := dec_runs' i.h3 i.i r3
  exact ⟨⟨v1, v2, l, nl, fu⟩, rfl, wf64 w1, wf64 w2, hl⟩
theorem decV_scr {n : Nat} {t : TypeId} (i : IsScr P t) {d : DataW H} {a : AVal} (h : DecV P (n + 4) t d a) : ∃ s : Scr, a = .agg (encS s) ∧ s.Fit := by
  unfold DecV at h
  rw [if_pos (by simp [isAggT, i.hu])] at h
  obtain ⟨cs, rfl, h⟩ := h
  obtain ⟨s, rfl, hs⟩ := dec_scr i h
  exact ⟨s, rfl, hs⟩
/-- Rows of scripts. -/
theorem decV_scrs {n : Nat} {t e : TypeId} (hu : P.underlying t = some (.slice e)) (i : IsScr P e) {d : DataW H} {a : AVal} (h : DecV P (n + 5) t d a) :
    ∃ (nl fu : Bool) (l : List Scr), a = .imm nl fu true (l.map encS) ∧ ∀ r ∈ l, r.Fit := by
  unfold DecV at h
  rw [if_neg (by simp [isAggT, hu])] at h
  rw [Dec, hu] at h
  rcases h with ⟨-, h⟩ | ⟨elems, spare, rows, -, h, h2, h3⟩
  · exact ⟨true, true, [], by simpa [nilS] using h, by simp⟩
  · obtain ⟨l, rfl, hl⟩ := rows_map encS Scr.Fit (all2_forall (Q := fun b => ∃ r : Scr, b = encS r ∧ r.Fit) (fun a b hab => dec_scr i hab) h2)
    exact ⟨false, false, l, by simpa using h, hl⟩
end
end Go.AM.R1
open Go Go.AM Go.Proofs
namespace Go.AM.R1
section
variable {H : Type} {P : Program}
/-- A row of runs, as it is handed over. -/
structure RowV where
  nl : Bool
  fu : Bool
  l : List Run
def encRow (r : RowV) : List AVal := [.imm r.nl r.fu true (r.l.map encRun)]
def RowV.Fit (r : RowV) : Prop := (∀ x ∈ r.l, x.Fit) ∧ r.l.length ≤ 9223372036854775807
theorem dec_row {n : Nat} {t e : TypeId} (hu : P.underlying t = some (.slice e)) (i : IsRun P e) {d : DataW H} {cs : List AVal} (h : Dec P (n + 3) t d cs) :
    ∃ r : RowV, cs = encRow r ∧ r.Fit := by
  rw [Dec, hu] at h
  rcases h with ⟨-, h⟩ | ⟨elems, spare, rows, -, h, h2, h3⟩
  · exact ⟨⟨true, true, []⟩, by simpa [nilS, encRow] using h, by simp, by simp⟩
  · obtain ⟨l, rfl, hl⟩ := rows_map encRun Run.Fit (all2_forall (Q := fun b => ∃ r : Run, b = encRun r ∧ r.Fit) (fun a b hab => dec_run i hab) h2)
    exact ⟨⟨false, false, l⟩, h, hl, by simpa [maxLen] using h3⟩
theorem dec_rows {n : Nat} {t s e : TypeId} (ht : P.underlying t = some (.slice s)) (hu : P.underlying s = some (.slice e)) (i : IsRun P e) {d : DataW H} {cs : List AVal} (h : Dec P (n + 4) t d cs) :
    ∃ (nl fu : Bool) (l : List RowV), cs = [.imm nl fu true (l.map encRow)] ∧ (∀ r ∈ l, r.Fit) ∧ l.length ≤ 9223372036854775807 := by
  rw [Dec, ht] at h
  rcases h with ⟨-, h⟩ | ⟨elems, spare, rows, -, h, h2, h3⟩
  · exact ⟨true, true, [], by simpa [nilS] using h, by simp, by simp⟩
  · obtain ⟨l, rfl, hl⟩ := rows_map encRow RowV.Fit (all2_forall (Q := fun b => ∃ r : RowV, b = encRow r ∧ r.Fit) (fun a b hab => dec_row hu i hab) h2)
    exact ⟨false, false, l, h, hl, by simpa [maxLen] using h3⟩
theorem decV_rows {n : Nat} {t s e : TypeId} (ht : P.underlying t = some (.slice s)) (hu : P.underlying s = some (.slice e)) (i : IsRun P e) {d : DataW H} {a : AVal} (h : DecV P (n + 4) t d a) :
    ∃ (nl fu : Bool) (l : List RowV), a = .imm nl fu true (l.map encRow) ∧ (∀ r ∈ l, r.Fit) ∧ l.length ≤ 9223372036854775807 := by
  unfold DecV at h
  rw [if_neg (by simp [isAggT, ht])] at h
  obtain ⟨nl, fu, l, h1, h2⟩ := dec_rows ht hu i h
  exact ⟨nl, fu, l, by simpa using h1, h2⟩
/-- Two lists of rows. -/
theorem decV_two {n : Nat} {t u s e : TypeId} (hh : P.underlying t = some (.array 2 u)) (ht : P.underlying u = some (.slice s)) (hu : P.underlying s = some (.slice e)) (i : IsRun P e) {d : DataW H} {a : AVal} (h : DecV P (n + 5) t d a) :
    ∃ (nl fu nl' fu' : Bool) (l m : List RowV), a = .agg [.imm nl fu true (l.map encRow), .imm nl' fu' true (m.map encRow)] ∧ ((∀ r ∈ l, r.Fit) ∧ l.length ≤ 9223372036854775807) ∧ ((∀ r ∈ m, r.Fit) ∧ m.length ≤ 9223372036854775807) := by
  unfold DecV at h
  rw [if_pos (by simp [isAggT, hh])] at h
  obtain ⟨cs, rfl, h⟩ := h
  rw [Dec, hh] at h
  obtain ⟨parts, ass, -, rfl, hm, h2⟩ := h
  match parts, ass, hm, h2 with
  | [p1, p2], [a1, a2], _, ⟨h1, h2, _⟩ =>
    obtain ⟨nl, fu, l, rfl, hl⟩ := dec_rows ht hu i h1
    obtain ⟨nl', fu', m, rfl, hm⟩ := dec_rows ht hu i h2
    exact ⟨nl, fu, nl', fu', l, m, rfl, hl, hm⟩
/-- A row of rows in a struct of one part. -/
theorem dec_act {n : Nat} {t e : TypeId} {f1 : Field} (hs : P.underlying t = some (.struct #[f1])) (hu : P.underlying f1.type = some (.slice e)) (i : IsRun P e) {d : DataW H} {cs : List AVal} (h : Dec P (n + 4) t d cs) :
    ∃ r : RowV, cs = encRow r ∧ r.Fit := by
  rw [Dec, hs] at h
  obtain ⟨parts, ass, -, rfl, hf⟩ := h
  obtain ⟨p1, ps1, a1, as1, rfl, rfl, r1, hf⟩ := fieldsR_cons hf
  obtain ⟨rfl, rfl⟩ := fieldsR_nil hf
  obtain ⟨r, rfl, hr⟩ := dec_row hu i r1
  exact ⟨r, by simp [encRow], hr⟩
theorem decV_acts {n : Nat} {t s e : TypeId} {f1 : Field} (ht : P.underlying t = some (.slice s)) (hs : P.underlying s = some (.struct #[f1])) (hu : P.underlying f1.type = some (.slice e)) (i : IsRun P e) {d : DataW H} {a : AVal} (h : DecV P (n + 5) t d a) :
    ∃ (nl fu : Bool) (l : List RowV), a = .imm nl fu true (l.map encRow) ∧ (∀ r ∈ l, r.Fit) ∧ l.length ≤ 9223372036854775807 := by
  unfold DecV at h
  rw [if_neg (by simp [isAggT, ht])] at h
  rw [Dec, ht] at h
  rcases h with ⟨-, h⟩ | ⟨elems, spare, rows, -, h, h2, h3⟩
  · exact ⟨true, true, [], by simpa [nilS] using h, by simp, by simp⟩
  · obtain ⟨l, rfl, hl⟩ := rows_map encRow RowV.Fit (all2_forall (Q := fun b => ∃ r : RowV, b = encRow r ∧ r.Fit) (fun a b hab => dec_act hs hu i hab) h2)
    exact ⟨false, false, l, by simpa using h, hl, by simpa [maxLen] using h3⟩
end
end Go.AM.R1
open Go Go.AM
namespace Go.AM.R1

/-! ### log.Scan: the walk -/
abbrev Bk := Int × List Run
def encBk (x : Bk) : List AVal := [.lit (.int .i64 x.1), .imm false false true (x.2.map encRun)]
/-- The blocks from a place, and a tick, on; and where they end. -/
def scanGo : Nat → List Nat → Nat → Int → List Bk → List Bk × Nat × Int
  | 0, _, p, t, acc => (acc, p, t)
  | d + 1, b, p, t, acc =>
    if (getB (b.drop p)).2.2 = 0 ∧ (getB (b.drop p)).1.1 = t then
      scanGo d b (p + (getB (b.drop p)).2.1.toNat) (t + sumN (getB (b.drop p)).1.2) (acc ++ [(getB (b.drop p)).1])
    else (acc, p, t)
def scanB (b : List Nat) : List Bk × Nat × Int := scanGo (b.length + 1) b 0 0 []

def scH (acc : List Bk) (n : Nat) : Heap :=
  if acc = [] then [.loop 0 none [(4, .ptr 1 0), (5, .ptr 2 0)] [10, 11] A48_0 B48_0, .box [nilS], .box [.lit (.int .i64 n)]]
  else [.loop 0 none [(4, .ptr 1 0), (5, .ptr 3 0)] [10, 11] A48_0 B48_0, .box [.own 2 acc.length 2 0 acc.length], .arr true false false 2 (acc.map encBk), .box [.lit (.int .i64 n)]]
theorem scY0 (n : Nat) (x : Bk) (p : Nat) (t : Int) :
    call E (.yld 0) [.agg (encBk x), .agg [.lit (.int .i64 p), .lit (.int .i64 t)]] (scH [] n)
      = some (.lit (.bool true), [.loop 0 none [(4, .ptr 1 0), (5, .ptr 2 0)] [10, 11] A48_0 B48_0, .box [.own 3 1 2 0 1], .box [.lit (.int .i64 p)], .arr true false false 2 [encBk x]]) := by
  simp [go_sem, scH, encBk, run_codeL E A48_0.eq_1, run_codeL E B48_0.eq_1, purse_eq, List.range_succ]
theorem scY1 (acc : List Bk) (ha : acc.length ≤ 1099511627) (h : acc ≠ []) (n : Nat) (x : Bk) (p : Nat) (t : Int) :
    call E (.yld 0) [.agg (encBk x), .agg [.lit (.int .i64 p), .lit (.int .i64 t)]] (scH acc n)
      = some (.lit (.bool true), scH (acc ++ [x]) p) := by
  have hb : ¬ (70368744177664 < (acc.length + 1) * 32) := by omega
  simp [go_sem, scH, h, encBk, run_codeL E A48_0.eq_1, run_codeL E B48_0.eq_1, purse_eq, List.range_succ, hb]

theorem get_good {b : List Nat} (hb : ∀ c ∈ b, c < 256) (h : (getB b).2.2 = 0) :
    chkB (getB b).1.1 (getB b).1.2 = 0 ∧ (∀ r ∈ (getB b).1.2, 0 ≤ r.Drive ∧ r.Drive ≤ 4294967295) ∧ 1 ≤ (getB b).2.1 ∧ (getB b).2.1 ≤ b.length ∧ b.take (getB b).2.1.toNat = wholeB (numsN (getB b).1.1 (getB b).1.2) := by
  obtain ⟨f, R, n, e, h1, h2, h3, h4, h5⟩ := put_of_get hb h
  rw [e]
  exact ⟨h1, h2, by simp; omega, by simp; omega, by simpa using h3⟩

/-- The heap at the head of the loop of blocks. -/
def scB (nl fu : Bool) (b : List Nat) (acc : List Bk) (p : Nat) (t : Int) (n : Nat) : Heap :=
  if acc = [] then [.box [.imm nl fu true (b.map encB)], .loop 0 none [(4, .ptr 2 0), (5, .ptr 3 0)] [10, 11] A48_0 B48_0, .box [nilS], .box [.lit (.int .i64 n)], .box [.lit (.int .i64 p), .lit (.int .i64 t)]]
  else [.box [.imm nl fu true (b.map encB)], .loop 0 none [(4, .ptr 2 0), (5, .ptr 3 0)] [10, 11] A48_0 B48_0, .box [.own 7 acc.length 2 0 acc.length], .box [.lit (.int .i64 n)], .box [.lit (.int .i64 p), .lit (.int .i64 t)], .dead, .dead, .arr true false false 2 (acc.map encBk)]
def scF (nl fu : Bool) (b : List Nat) (acc : List Bk) (n : Nat) : Heap :=
  if acc = [] then [.box [.imm nl fu true (b.map encB)], .loop 0 none [(4, .ptr 2 0), (5, .ptr 3 0)] [10, 11] A48_0 B48_0, .box [nilS], .box [.lit (.int .i64 n)]]
  else [.box [.imm nl fu true (b.map encB)], .loop 0 none [(4, .ptr 2 0), (5, .ptr 3 0)] [10, 11] A48_0 B48_0, .box [.own 4 acc.length 2 0 acc.length], .box [.lit (.int .i64 n)], .arr true false false 2 (acc.map encBk)]

theorem scan_loop (b : List Nat) (hb : ∀ c ∈ b, c < 256) (hl : b.length ≤ 1000000) (nl fu : Bool) (hnl : nl = false ∨ b = []) :
    ∀ (d p : Nat) (t : Int) (acc : List Bk), b.length + 1 ≤ p + d → p ≤ b.length → acc.length ≤ p → (0 ≤ t ∧ t ≤ 1073741824) →
   finK 4 [] (run E 4 [.code L145_0, .inLoop [0, 1, 3] L145_0, .inBlock 0]
     [(0, .yld 1), (1, .ptr 0 0), (3, .ptr 4 0)] (scB nl fu b acc p t p))
    = some (.tup [], scF nl fu b (scanGo d b p t acc).1 (scanGo d b p t acc).2.1) := by
  intro d
  induction d with
  | zero => intro p t acc hd hp; omega
  | succ d ih =>
    intro p t acc hd hp ha ht
    have hG := bget_spec (b.drop p) (fun c hc => hb c (List.mem_of_mem_drop hc)) (by simp; omega) nl (fu) (by rcases hnl with h | h; exact .inl h; subst h; exact .inr (by simp))
    rw [List.map_drop] at hG
    have hr := rowsB b
    by_cases h : (getB (b.drop p)).2.2 = 0
    · obtain ⟨g1, g2, g3, g4, g5⟩ := get_good (fun c hc => hb c (List.mem_of_mem_drop hc)) h
      have gk := chkB_ok g1
      simp at g4
      by_cases h2 : (getB (b.drop p)).1.1 = t
      · have hn : scanGo (d + 1) b p t acc = scanGo d b (p + (getB (b.drop p)).2.1.toNat) (t + sumN (getB (b.drop p)).1.2) (acc ++ [(getB (b.drop p)).1]) := by
          rw [scanGo, if_pos ⟨h, h2⟩]
        rw [hn]
        clear hn
        have hT := ticks_spec (getB (b.drop p)).1.2 (by omega) (chkB_Ok g1) false false
        rw [ticks_eq, if_pos gk.2.2.2.1, gk.2.2.2.1] at hT
        have hs := (chk_right gk.2.2.2.1).2
        rw [h] at hG
        have ih2 := ih (p + (getB (b.drop p)).2.1.toNat) (t + sumN (getB (b.drop p)).1.2) (acc ++ [(getB (b.drop p)).1]) (by omega) (by omega) (by simp; omega) (by omega)
        have wp : IntKind.wrap .i64 ((p : Int) + (getB (b.drop p)).2.1) = ((p + (getB (b.drop p)).2.1.toNat : Nat) : Int) := by rw [wrap64 (by omega) (by omega)]; omega
        have wt : IntKind.wrap .i64 (t + sumN (getB (b.drop p)).1.2) = t + sumN (getB (b.drop p)).1.2 := by rw [wrap64 (by omega) (by omega)]
        have hR := gk.2.1
        have hY0 := scY0 p (getB (b.drop p)).1 (p + (getB (b.drop p)).2.1.toNat) (t + sumN (getB (b.drop p)).1.2)
        have hY1 := fun ha0 => scY1 acc (by omega) ha0 p (getB (b.drop p)).1 (p + (getB (b.drop p)).2.1.toNat) (t + sumN (getB (b.drop p)).1.2)
        generalize scanGo d b _ _ _ = Q at ih2 ⊢
        clear g5
        generalize getB (b.drop p) = g at *
        obtain ⟨⟨f, R⟩, m, e⟩ := g
        simp only [] at *
        subst h2
        simp [resV, resHl, hR] at hG
        by_cases ha0 : acc = []
        · subst ha0
          simp [scH, encBk, nilS] at hY0
          simp [scB, nilS, encBk] at ih2
          generalize scF nl fu b Q.1 Q.2.1 = F at *
          simp [go_sem, run_codeL E L145_0.eq_1, hp, hr, take_allB, hG, hT, wp, wt, scB, purse_eq, hY0, nilS]
          rw [run_inLoop']
          simp [go_sem, purse_eq, List.range_succ]
          simpa using ih2
        · have hY := hY1 ha0
          simp [scH, ha0, encBk, nilS] at hY
          simp [scB, nilS, encBk] at ih2
          generalize scF nl fu b Q.1 Q.2.1 = F at *
          simp [go_sem, run_codeL E L145_0.eq_1, hp, hr, take_allB, hG, hT, wp, wt, scB, ha0, purse_eq, hY, nilS]
          rw [run_inLoop']
          simp [go_sem, purse_eq, List.range_succ]
          simpa using ih2
      · have hn : scanGo (d + 1) b p t acc = (acc, p, t) := by
          rw [scanGo, if_neg (by intro q; exact h2 q.2)]
        rw [hn]
        clear hn
        rw [h] at hG
        have hR := gk.2.1
        clear g5
        generalize getB (b.drop p) = g at *
        obtain ⟨⟨f, R⟩, m, e⟩ := g
        simp only [] at *
        simp [resV, resHl, hR] at hG
        by_cases ha0 : acc = []
        · subst ha0
          simp [go_sem, run_codeL E L145_0.eq_1, hp, hr, take_allB, hG, scB, scF, purse_eq, List.range_succ, h2]
        · simp [go_sem, run_codeL E L145_0.eq_1, hp, hr, take_allB, hG, scB, scF, ha0, purse_eq, List.range_succ, h2]
    · have hn : scanGo (d + 1) b p t acc = (acc, p, t) := by
        rw [scanGo, if_neg (by intro q; exact h q.1)]
      rw [hn]
      clear hn
      obtain ⟨g1, g2⟩ := get_bad h
      generalize getB (b.drop p) = g at *
      obtain ⟨⟨f, R⟩, m, e⟩ := g
      simp only [Prod.mk.injEq] at *
      obtain ⟨g1, g3⟩ := g1
      subst g1 g2 g3
      simp [resV, resHl] at hG
      by_cases ha0 : acc = []
      · subst ha0
        simp [go_sem, run_codeL E L145_0.eq_1, hp, hr, take_allB, hG, scB, scF, purse_eq, List.range_succ, h]
      · simp [go_sem, run_codeL E L145_0.eq_1, hp, hr, take_allB, hG, scB, scF, ha0, purse_eq, List.range_succ, h]
end Go.AM.R1
open Go Go.AM
namespace Go.AM.R1

theorem blocks1_spec (b : List Nat) (hb : ∀ c ∈ b, c < 256) (hl : b.length ≤ 1000000) (nl fu : Bool) (hnl : nl = false ∨ b = []) :
    call E (.func (.func 145) [] [.ptr 0 0]) [.yld 1] [.box [.imm nl fu true (b.map encB)], .loop 0 none [(4, .ptr 2 0), (5, .ptr 3 0)] [10, 11] A48_0 B48_0, .box [nilS], .box [.lit (.int .i64 0)]]
     = some (.tup [], scF nl fu b (scanB b).1 (scanB b).2.1) := by
  rw [call_func E E145]
  have h := scan_loop b hb hl nl fu hnl (b.length + 1) 0 0 [] (by omega) (by omega) (by simp) (by omega)
  rw [show scanGo (b.length + 1) b 0 0 [] = scanB b from rfl] at h
  generalize scF nl fu b (scanB b).1 (scanB b).2.1 = F at h ⊢
  simp [scB, nilS] at h
  simp [go_sem, ir145, purse_eq, nilS]
  rw [run_inLoop']
  simp [go_sem, purse_eq, List.range_succ]
  exact h
theorem blocks_spec (nl fu : Bool) (rows : List (List AVal)) : call E (.func (.func 105) [] []) [.imm nl fu true rows] [] = some (.func (.func 145) [] [.ptr 0 0], [.box [.imm nl fu true rows]]) := by
  rw [call_func E E105]
  simp [go_sem, ir105, purse_eq]
def bkV (i : Nat) (l : List Bk) : AVal := if l = [] then nilS else .own i l.length 2 0 l.length
def bkH (l : List Bk) : Heap := if l = [] then [] else [.arr true false false 2 (l.map encBk)]
theorem scan_spec (b : List Nat) (hb : ∀ c ∈ b, c < 256) (hl : b.length ≤ 1000000) (nl fu : Bool) (hnl : nl = false ∨ b = []) :
    call E (.func (.func 48) [] []) [.imm nl fu true (b.map encB)] []
      = some (.tup [bkV 0 (scanB b).1, .lit (.int .i64 (scanB b).2.1)], bkH (scanB b).1) := by
  rw [call_func E E48]
  have hS := blocks_spec nl fu (b.map encB)
  have hN := blocks1_spec b hb hl nl fu hnl
  generalize scanB b = g at *
  simp [nilS] at hN
  by_cases h : g.1 = []
  · simp [scF, h, nilS] at hN
    simp [go_sem, ir48, hS, hN, h, bkV, bkH, purse_eq, nilS]
  · simp [scF, h, nilS] at hN
    simp [go_sem, ir48, hS, hN, h, bkV, bkH, purse_eq, nilS]
end Go.AM.R1
open Go Go.AM
namespace Go.AM.R1

/-! ### The document's Scan -/
theorem get_nil : (getB []).2.2 ≠ 0 := by decide
end Go.AM.R1
open Go Go.AM
namespace Go.AM.R1

/-! ### The blocks of bytes -/
def putBk (x : Bk) : List Nat := wholeB (numsN x.1 x.2)
def blksB (l : List Bk) : List Nat := l.flatMap putBk
def totB (l : List Bk) : Int := match l with | [] => 0 | x :: r => sumN x.2 + totB r
def Good : Int → List Bk → Prop
  | _, [] => True
  | t, x :: r => x.1 = t ∧ chkB x.1 x.2 = 0 ∧ (∀ r ∈ x.2, 0 ≤ r.Drive ∧ r.Drive ≤ 4294967295) ∧ Good (t + sumN x.2) r
theorem blksB_cons (x : Bk) (l : List Bk) : blksB (x :: l) = putBk x ++ blksB l := rfl
theorem blksB_append (l m : List Bk) : blksB (l ++ m) = blksB l ++ blksB m := by simp [blksB]
theorem totB_append : ∀ (l m : List Bk), totB (l ++ m) = totB l + totB m
  | [], m => by simp [totB]
  | x :: l, m => by simp only [List.cons_append, totB]; rw [totB_append l m]; omega
theorem good_append : ∀ (l m : List Bk) (t : Int), Good t (l ++ m) ↔ Good t l ∧ Good (t + totB l) m
  | [], m, t => by simp [Good, totB]
  | x :: l, m, t => by
    simp only [List.cons_append, Good, totB]
    rw [good_append l m (t + sumN x.2), Int.add_assoc]
    simp only [and_assoc]
theorem good_tot : ∀ (l : List Bk) (t : Int), 0 ≤ t → t ≤ 1073741824 → Good t l → 0 ≤ totB l ∧ t + totB l ≤ 1073741824
  | [], t, h0, h, _ => by simp [totB]; omega
  | x :: l, t, h0, h, g => by
    obtain ⟨g1, g2, g3, g4⟩ := g
    have gk := chkB_ok g2
    have hs := (chk_right gk.2.2.2.1).2
    have := good_tot l (t + sumN x.2) (by omega) (by omega) g4
    simp only [totB]
    omega
theorem putBk_len {x : Bk} (h : chkB x.1 x.2 = 0) : 6 ≤ (putBk x).length ∧ (putBk x).length ≤ 42000 := by
  have h1 := inside_65536 h
  have h2 := whole_len (numsN x.1 x.2)
  have h3 := putN_len64 (n := (bytesN (numsN x.1 x.2)).length) (by omega)
  have h4 := List.length_pos_iff.2 (putN_pos (bytesN (numsN x.1 x.2)).length)
  have h5 : 1 ≤ (bytesN (numsN x.1 x.2)).length := by
    simp only [numsN, bytesN, List.flatMap_cons, List.length_append]
    have := List.length_pos_iff.2 (putN_pos x.1.toNat)
    omega
  unfold putBk
  omega
theorem good_len : ∀ (l : List Bk) (t : Int), Good t l → 6 * l.length ≤ (blksB l).length
  | [], _, _ => by simp
  | x :: l, t, g => by
    have := putBk_len g.2.1
    have := good_len l _ g.2.2.2
    rw [blksB_cons, List.length_append, List.length_cons]
    omega
theorem scan_facts (b : List Nat) (hb : ∀ c ∈ b, c < 256) : ∀ (d p : Nat) (t : Int) (acc : List Bk), p ≤ b.length →
    ∃ l, (scanGo d b p t acc).1 = acc ++ l ∧ Good t l ∧ (scanGo d b p t acc).2.1 = p + (blksB l).length ∧ p + (blksB l).length ≤ b.length ∧ (b.drop p).take (blksB l).length = blksB l ∧ (scanGo d b p t acc).2.2 = t + totB l := by
  intro d
  induction d with
  | zero => intro p t acc hp; exact ⟨[], by simp [scanGo, Good, blksB, totB, hp]⟩
  | succ d ih =>
    intro p t acc hp
    rw [scanGo]
    split
    · rename_i h
      obtain ⟨g1, g2, g3, g4, g5⟩ := get_good (fun c hc => hb c (List.mem_of_mem_drop hc)) h.1
      simp at g4
      generalize hg : getB (b.drop p) = g at *
      obtain ⟨⟨f, R⟩, m, e⟩ := g
      simp only [] at *
      obtain ⟨l, e1, e2, e3, e4, e5, e6⟩ := ih (p + m.toNat) (t + sumN R) (acc ++ [(f, R)]) (by omega)
      have hlen : (wholeB (numsN f R)).length = m.toNat := by rw [← g5]; simp; omega
      refine ⟨(f, R) :: l, by rw [e1]; simp, ⟨h.2, g1, g2, e2⟩, ?_, ?_, ?_, ?_⟩
      · rw [e3, blksB_cons, List.length_append]; show _ = p + ((wholeB (numsN f R)).length + _); omega
      · rw [blksB_cons, List.length_append]; show p + ((wholeB (numsN f R)).length + _) ≤ _; omega
      · rw [blksB_cons, List.length_append, List.take_add]
        show List.take (wholeB (numsN f R)).length _ ++ List.take _ (List.drop (wholeB (numsN f R)).length _) = wholeB (numsN f R) ++ _
        rw [hlen, g5, List.drop_drop, e5]
      · rw [e6]; simp only [totB]; omega
    · exact ⟨[], by simp [Good, blksB, totB, hp]⟩
theorem scanB_facts {b : List Nat} (hb : ∀ c ∈ b, c < 256) : Good 0 (scanB b).1 ∧ (scanB b).2.1 = (blksB (scanB b).1).length ∧ (scanB b).2.1 ≤ b.length ∧ b.take (scanB b).2.1 = blksB (scanB b).1 ∧ (scanB b).2.2 = totB (scanB b).1 := by
  obtain ⟨l, e1, e2, e3, e4, e5, e6⟩ := scan_facts b hb (b.length + 1) 0 0 [] (by omega)
  rw [show scanGo (b.length + 1) b 0 0 [] = scanB b from rfl] at *
  simp at e1 e3 e4 e5 e6
  rw [e1, e3]
  exact ⟨e2, rfl, e4, e5, e6⟩
/-- Blocks that are put one behind the other are found. -/
theorem scan_put (b : List Nat) : ∀ (l : List Bk) (d p : Nat) (t : Int) (acc : List Bk), l.length + 1 ≤ d → Good t l → (b.drop p) = blksB l → scanGo d b p t acc = (acc ++ l, p + (blksB l).length, t + totB l) := by
  intro l
  induction l with
  | nil =>
    intro d p t acc hd hg hp
    obtain ⟨d, rfl⟩ : ∃ e, d = e + 1 := ⟨d - 1, by simp at hd; omega⟩
    rw [scanGo, hp, if_neg (by intro q; exact get_nil q.1)]
    simp [blksB, totB]
  | cons x l ih =>
    intro d p t acc hd hg hp
    obtain ⟨d, rfl⟩ : ∃ e, d = e + 1 := ⟨d - 1, by simp at hd; omega⟩
    obtain ⟨g1, g2, g3, g4⟩ := hg
    have hG := get_of_put g2 g3 (blksB l)
    rw [scanGo, hp, blksB_cons]
    show (if (getB (wholeB (numsN x.1 x.2) ++ blksB l)).2.2 = 0 ∧ (getB (wholeB (numsN x.1 x.2) ++ blksB l)).1.1 = t then _ else _) = _
    rw [show putBk x = wholeB (numsN x.1 x.2) from rfl, hG]
    simp only []
    rw [if_pos ⟨trivial, g1⟩]
    rw [ih d (p + ((wholeB (numsN x.1 x.2)).length : Int).toNat) (t + sumN x.2) _ (by simp at hd; omega) g4 (by
      rw [Int.toNat_natCast, ← List.drop_drop, hp, blksB_cons]; show List.drop (wholeB (numsN x.1 x.2)).length (wholeB (numsN x.1 x.2) ++ _) = _; rw [List.drop_left])]
    simp [totB, List.length_append]
    omega
theorem scanB_put {l : List Bk} (h : Good 0 l) : scanB (blksB l) = (l, (blksB l).length, totB l) := by
  have := good_len l 0 h
  have := scan_put (blksB l) l ((blksB l).length + 1) 0 0 [] (by omega) h rfl
  simpa [scanB] using this
end Go.AM.R1
open Go Go.AM
namespace Go.AM.R1

/-! ### seek.Of -/
abbrev Ent := Int × Nat
def encEnt (e : Ent) : List AVal := [.lit (.int .i64 e.1), .lit (.int .i64 e.2)]
theorem noImm_encEnt (l : List Ent) : noImmLL (l.map encEnt) = true := noImmLL_map (fun _ => rfl) l
attribute [go_sem] noImm_encEnt
def entGo : Int → Nat → List Bk → List Ent
  | _, _, [] => []
  | t, p, x :: r => (t, p) :: entGo (t + sumN x.2) (p + (putBk x).length) r
theorem entGo_length : ∀ (l : List Bk) (t : Int) (p : Nat), (entGo t p l).length = l.length
  | [], _, _ => rfl
  | x :: l, t, p => by simp only [entGo, List.length_cons, entGo_length l]
/-- An index in the heap. -/
def ixH (nl lb le : Bool) (b : List Nat) (es : List Ent) (t : Int) : Heap :=
  if b = [] then (if nl = true then [.box [nilS, nilS, .lit (.int .i64 0)]] else [.box [.own 1 0 1 0 0, nilS, .lit (.int .i64 0)], .arr true lb true 1 []])
  else [.box [.own 1 b.length 1 0 b.length, .own 2 es.length 2 0 es.length, .lit (.int .i64 t)], .arr true lb false 1 (b.map encB), .arr true le false 2 (es.map encEnt)]

theorem of_loop18 (b : List Nat) (hb : ∀ c ∈ b, c < 256) (hl : b.length ≤ 1000000) (fu : Bool) (l : List Bk) (hl2 : l.length ≤ 1000000) (k : List Item) (R : List Ent × Int → Option (AVal × Heap))
    (hk : ∀ (out : List Ent) (t : Int) τ, out ≠ [] → lk 6 τ = .ptr 2 0 → finK 0 [.tmp 2, .tmp 3] (run E 0 k τ [.arr true false false 2 (l.map encBk), .arr true false false 1 (b.map encB), .box [.own 1 b.length 1 0 b.length, .own 4 out.length 2 0 out.length, .lit (.int .i64 t)], .dead, .arr true false false 2 (out.map encEnt)]) = R (out, t)) :
    ∀ (d i : Nat) (out : List Ent) (t : Int) (p : Nat), i + d = l.length → out ≠ [] → out.length ≤ i → p ≤ b.length → (0 ≤ t ∧ t ≤ 1073741824) → Good t (l.drop i) → b.drop p = blksB (l.drop i) →
   finK 0 [.tmp 2, .tmp 3] (run E 0 (.code L16_0 :: .inLoop [0, 4, 6, 7, 27, 28] L16_0 :: .inBlock 0 :: k)
     [(0, .imm false fu true (b.map encB)), (4, .own 0 l.length 2 0 l.length), (6, .ptr 2 0), (7, .lit (.int .i64 p)), (27, .lit (.int .i64 l.length)), (28, .lit (.int .i64 i))]
     [.arr true false false 2 (l.map encBk), .arr true false false 1 (b.map encB), .box [.own 1 b.length 1 0 b.length, .own 4 out.length 2 0 out.length, .lit (.int .i64 t)], .dead, .arr true false false 2 (out.map encEnt)])
    = R (out ++ entGo t p (l.drop i), t + totB (l.drop i)) := by
  intro d
  induction d with
  | zero =>
    intro i out t p hi ho hol hp ht hg hd
    have : i = l.length := by omega
    subst this
    simp [go_sem, run_codeL E L16_0.eq_1, entGo, totB]
    exact hk out t _ ho rfl
  | succ d ih =>
    intro i out t p hi ho hol hp ht hg hd
    have hlt : i < l.length := by omega
    rw [List.drop_eq_getElem_cons hlt] at hg hd
    rw [List.drop_eq_getElem_cons hlt, entGo, totB]
    obtain ⟨g1, g2, g3, g4⟩ := hg
    have gk := chkB_ok g2
    have hs := (chk_right gk.2.2.2.1).2
    rw [blksB_cons] at hd
    have hlen : p + (putBk l[i]).length + (blksB (l.drop (i + 1))).length = b.length := by
      have := congrArg List.length hd
      simp at this
      omega
    have hS := size_spec (b.drop p) (fun c hc => hb c (List.mem_of_mem_drop hc)) (by simp; omega) false fu
    have hsz : sizeB (b.drop p) = (((putBk l[i]).length : Int), 0) := by
      rw [hd]; exact (size_put (by have := inside_65536 g2; omega) _).2
    rw [hsz, List.map_drop] at hS
    have hT := ticks_spec l[i].2 (by omega) (chkB_Ok g2) false false
    rw [ticks_eq, if_pos gk.2.2.2.1, gk.2.2.2.1] at hT
    have hr := rowsB b
    have ih2 := ih (i + 1) (out ++ [(t, p)]) (t + sumN l[i].2) (p + (putBk l[i]).length) (by omega) (by simp) (by simp; omega) (by omega) (by omega) g4 (by rw [← List.drop_drop, hd, List.drop_left])
    rw [List.append_assoc, List.singleton_append, Int.add_assoc] at ih2
    have wp : IntKind.wrap .i64 ((p : Int) + ((putBk l[i]).length : Int)) = ((p + (putBk l[i]).length : Nat) : Int) := by rw [wrap64 (by omega) (by omega)]; omega
    have wt : IntKind.wrap .i64 (t + sumN l[i].2) = t + sumN l[i].2 := by rw [wrap64 (by omega) (by omega)]
    have wi := wrapIdx (i := i) (by omega)
    generalize R _ = Q at ih2 ⊢
    clear hd hlen hsz g1 g4
    generalize (putBk l[i]).length = m at *
    obtain ⟨o, e, rfl⟩ : ∃ o e, out = o ++ [e] := by rcases snoc_cases out with h | h; exact absurd h ho; exact h
    simp [encEnt] at ih2
    have hbb : ¬ (70368744177664 < (o.length + 1 + 1) * 16) := by simp at hol; omega
    simp [go_sem, run_codeL E L16_0.eq_1, hlt, hp, hr, take_allB, hS, hT, wp, wt, wi, purse_eq, List.getElem?_eq_getElem hlt, encBk, encEnt, hbb]
    rw [run_inLoop']
    simp [go_sem, purse_eq, List.range_succ]
    simpa [Nat.add_assoc] using ih2

theorem sof_spec (b : List Nat) (hb : ∀ c ∈ b, c < 256) (hl : b.length ≤ 1000000) (nl fu : Bool) (hnl : nl = false ∨ b = []) :
    call E (.func (.func 16) [] []) [.imm nl fu true (b.map encB)] []
      = some (if (scanB b).2.1 = b.length then (.tup [.ptr 0 0, .lit (.int .i64 0)], ixH nl false false b (entGo 0 0 (scanB b).1) (totB (scanB b).1)) else (.tup [.lit (.pointer none), .lit (.int .i64 11)], [])) := by
  rw [call_func E E16]
  have hN := scan_spec b hb hl nl fu hnl
  obtain ⟨f1, f2, f3, f4, f5⟩ := scanB_facts hb
  by_cases h : (scanB b).2.1 = b.length
  · rw [if_pos h]
    rw [h] at hN f2 f4
    rw [List.take_length] at f4
    generalize scanB b = g at *
    by_cases hb0 : b = []
    · have hg0 : g.1 = [] := by
        have := good_len g.1 0 f1
        rw [← f4, hb0] at this
        cases hq : g.1 with
        | nil => rfl
        | cons x r => rw [hq] at this; simp at this
      subst hb0
      rw [hg0] at hN ⊢
      simp [bkV, bkH] at hN
      have hC := clone_spec [] fu (by simp)
      simp at hC
      have hC2 : call E (.func (.func 79) [] []) [.imm true fu true []] [] = some (nilS, []) := by
        rw [call_func E E79]
        simp [go_sem, ir79, purse_eq]
      cases nl
      · simp [go_sem, ir16, hN, hC, purse_eq]
        rw [run_inLoop']
        simp [go_sem, purse_eq, List.range_succ, run_codeL E L16_0.eq_1, ixH, entGo, totB]
      · simp [go_sem, ir16, hN, hC2, purse_eq, nilS]
        rw [run_inLoop']
        simp [go_sem, purse_eq, List.range_succ, run_codeL E L16_0.eq_1, ixH, entGo, totB, nilS]
    · have hnl' : nl = false := by rcases hnl with q | q; exact q; exact absurd q hb0
      subst hnl'
      have hg0 : g.1 ≠ [] := by
        intro q
        rw [q] at f4
        exact hb0 f4
      have hlen := good_len g.1 0 f1
      rw [← f4] at hlen
      simp [bkV, bkH, hg0] at hN
      have hC := clone_spec b fu (by omega)
      have hbe : b.isEmpty = false := by cases b with | nil => exact absurd rfl hb0 | cons x xs => rfl
      rw [hbe] at hC
      obtain ⟨l, p, t⟩ := g
      simp only [] at *
      obtain ⟨x, r, rfl⟩ : ∃ x r, l = x :: r := by cases l with | nil => exact absurd rfl hg0 | cons x r => exact ⟨x, r, rfl⟩
      obtain ⟨g1, g2, g3, g4⟩ := f1
      have gk := chkB_ok g2
      have hs := (chk_right gk.2.2.2.1).2
      rw [blksB_cons] at f4
      have hlen2 : (putBk x).length + (blksB r).length = b.length := by rw [f4]; simp
      have hS := size_spec b hb (by omega) false fu
      have hsz : sizeB b = (((putBk x).length : Int), 0) := by rw [f4]; exact (size_put (by have := inside_65536 g2; omega) _).2
      rw [hsz] at hS
      have hT := ticks_spec x.2 (by omega) (chkB_Ok g2) false false
      rw [ticks_eq, if_pos gk.2.2.2.1, gk.2.2.2.1] at hT
      have hr := rowsB b
      have wp : IntKind.wrap .i64 ((putBk x).length : Int) = ((putBk x).length : Int) := by rw [wrap64 (by omega) (by omega)]
      have wt : IntKind.wrap .i64 (sumN x.2) = sumN x.2 := by rw [wrap64 (by omega) (by omega)]
      have w1 : IntKind.wrap .i64 1 = 1 := rfl
      have hd1 : b.drop (putBk x).length = blksB ((x :: r).drop 1) := by rw [List.drop_one, List.tail_cons, f4, List.drop_left]
      have hL := of_loop18 b hb hl fu (x :: r) (by simp at hlen ⊢; omega) [.code (.seq (.reg [⟨none, some 74, .copy (.t 6)⟩, ⟨none, some 2, .copy (.t 74)⟩, ⟨none, some 3, .copy (.c (.lit (.int .i64 0)))⟩] [] []) .ret)] (fun o => some (.tup [.ptr 0 0, .lit (.int .i64 0)], ixH false false false b o.1 o.2)) ?_ r.length 1 [(0, 0)] (sumN x.2) (putBk x).length (by simp; omega) (by simp) (by simp) (by omega) (by omega) (by simpa using g4) hd1
      · simp only [entGo, totB]
        simp [encEnt] at hL
        simp only [Int.zero_add, Nat.zero_add]
        generalize ixH false false false b _ _ = Q at hL ⊢
        clear hlen2 hsz g1 g4 f4 hlen
        generalize (putBk x).length = m at *
        simp [go_sem, ir16, hN, hC, purse_eq]
        rw [run_inLoop']
        simp [go_sem, purse_eq, List.range_succ]
        simp [go_sem, run_codeL E L16_0.eq_1, hr, take_allB, hS, hT, wp, wt, w1, purse_eq, encBk, nilS]
        rw [run_inLoop']
        simp [go_sem, purse_eq, List.range_succ]
        simpa [encBk] using hL
      · intro out t τ ho h6
        simp [go_sem, h6, purse_eq, ixH, hb0, List.range_succ]
  · rw [if_neg h]
    generalize scanB b = g at *
    have h' : ¬ ((g.2.1 : Int) = (b.length : Int)) := by omega
    by_cases hg : g.1 = []
    · simp [bkV, bkH, hg] at hN
      simp [go_sem, ir16, hN, h', h, purse_eq]
    · simp [bkV, bkH, hg] at hN
      simp [go_sem, ir16, hN, h', h, purse_eq]
end Go.AM.R1
open Go Go.AM
namespace Go.AM.R1

/-! ### The document's entries -/
abbrev REnt := Int × Nat × Int × Nat
def encREnt (e : REnt) : List AVal := [.lit (.int .i64 e.1), .lit (.int .i64 e.2.1), .lit (.int .i64 e.2.2.1), .lit (.int .i64 e.2.2.2)]
def rentGo : Int → Nat → List Bk → List REnt
  | _, _, [] => []
  | t, p, x :: r => (t, p, sumN x.2, (putBk x).length) :: rentGo (t + sumN x.2) (p + (putBk x).length) r
theorem rentGo_length : ∀ (l : List Bk) (t : Int) (p : Nat), (rentGo t p l).length = l.length
  | [], _, _ => rfl
  | x :: l, t, p => by simp only [rentGo, List.length_cons, rentGo_length l]
end Go.AM.R1
open Go Go.AM
namespace Go.AM.R1

/-! ### The bytes of an index -/
def idxRow (x : Bk) : List Nat := putN (sumN x.2).toNat ++ putN (putBk x).length
def idxB (l : List Bk) : List Nat := sealB (putN l.length ++ l.flatMap idxRow)
theorem entGo_get : ∀ (l : List Bk) (t : Int) (p i : Nat), i < l.length → (entGo t p l)[i]? = some (t + totB (l.take i), p + (blksB (l.take i)).length)
  | [], _, _, i, h => by simp at h
  | x :: l, t, p, 0, h => by simp [entGo, totB, blksB]
  | x :: l, t, p, i + 1, h => by
    simp only [entGo, List.getElem?_cons_succ, List.take_succ_cons, totB, blksB_cons, List.length_append]
    rw [entGo_get l _ _ i (by simpa using h)]
    simp
    omega
theorem take_succ_tot (l : List Bk) (i : Nat) (h : i < l.length) : totB (l.take (i + 1)) = totB (l.take i) + sumN l[i].2 ∧ (blksB (l.take (i + 1))).length = (blksB (l.take i)).length + (putBk l[i]).length := by
  rw [List.take_succ_eq_append_getElem h, totB_append, blksB_append]
  simp [totB, blksB]
theorem good_get : ∀ (l : List Bk) (t : Int) (i : Nat) (h : i < l.length), Good t l → chkB l[i].1 l[i].2 = 0 ∧ (∀ r ∈ l[i].2, 0 ≤ r.Drive ∧ r.Drive ≤ 4294967295) ∧ l[i].1 = t + totB (l.take i)
  | [], _, i, h, _ => by simp at h
  | x :: l, t, 0, h, g => ⟨g.2.1, g.2.2.1, by simp [g.1, totB]⟩
  | x :: l, t, i + 1, h, g => by
    have := good_get l _ i (by simpa using h) g.2.2.2
    simp only [List.getElem_cons_succ, List.take_succ_cons, totB]
    exact ⟨this.1, this.2.1, by rw [this.2.2]; omega⟩
theorem good_take (l : List Bk) (t : Int) (i : Nat) (h : Good t l) : Good t (l.take i) := by
  have := (good_append (l.take i) (l.drop i) t).1 (by rw [List.take_append_drop]; exact h)
  exact this.1
theorem blks_take_le (l : List Bk) (i : Nat) : (blksB (l.take i)).length ≤ (blksB l).length := by
  conv => rhs; rw [← List.take_append_drop i l]
  rw [blksB_append, List.length_append]; omega
theorem tot_take_le (l : List Bk) (i : Nat) (h : Good 0 l) : 0 ≤ totB (l.take i) ∧ totB (l.take i) ≤ 1073741824 := by
  have := good_tot (l.take i) 0 (by omega) (by omega) (good_take l 0 i h)
  omega
theorem putN_lt256 (n : Nat) : ∀ c ∈ putN n, c < 256 := by
  induction n using Nat.strongRecOn with
  | _ n ih =>
    intro c h
    by_cases hn : 128 ≤ n
    · rw [putN_big hn] at h
      rcases List.mem_cons.1 h with rfl | h
      · omega
      · exact ih (n / 128) (by omega) c h
    · rw [putN_small (by omega)] at h
      simp at h; omega
theorem idxRow_byte (x : Bk) : ∀ c ∈ idxRow x, c < 256 := by
  intro c hc
  rcases List.mem_append.1 hc with h | h
  · exact putN_lt256 _ _ h
  · exact putN_lt256 _ _ h
theorem idxRow_len (x : Bk) (hg : chkB x.1 x.2 = 0) : (idxRow x).length ≤ 20 := by
  have gk := chkB_ok hg
  have hs := (chk_right gk.2.2.2.1).2
  have hlen := putBk_len hg
  have h1 := putN_len64 (n := (sumN x.2).toNat) (by omega)
  have h2 := putN_len64 (n := (putBk x).length) (by omega)
  simp only [idxRow, List.length_append]; omega

theorem sput_loop (b : List Nat) (hl : b.length ≤ 1000000) (l : List Bk) (hg : Good 0 l) (hbl : (blksB l).length = b.length) (lb le : Bool) (k : List Item) (R : List Nat → Option (AVal × Heap))
    (hk : ∀ (out : List Nat) τ H, (∀ c ∈ out, c < 256) → out.length ≤ 20 + 20 * l.length → lk 3 τ = .own 3 out.length 1 0 out.length → finK 3 [.tmp 2] (run E 3 k τ (.box [.own 1 b.length 1 0 b.length, .own 2 l.length 2 0 l.length, .lit (.int .i64 (totB l))] :: .arr true lb false 1 (b.map encB) :: .arr true le false 2 ((entGo 0 0 l).map encEnt) :: .arr true false false 1 (out.map encB) :: H)) = R out) :
    ∀ (d i : Nat) (out : List Nat), i + d = l.length → out ≠ [] → out.length ≤ 20 + 20 * i → (∀ c ∈ out, c < 256) →
   finK 3 [.tmp 2] (run E 3 (.code L19_0 :: .inLoop [0, 3, 19, 20, 21] L19_0 :: .inBlock 0 :: k)
     [(0, .ptr 0 0), (3, .own 3 out.length 1 0 out.length), (19, .own 2 l.length 2 0 l.length), (20, .lit (.int .i64 l.length)), (21, .lit (.int .i64 i))]
     [.box [.own 1 b.length 1 0 b.length, .own 2 l.length 2 0 l.length, .lit (.int .i64 (totB l))], .arr true lb false 1 (b.map encB), .arr true le false 2 ((entGo 0 0 l).map encEnt), .arr true false false 1 (out.map encB)])
    = R (out ++ (l.drop i).flatMap idxRow) := by
  have hln := good_len l 0 hg
  intro d
  induction d with
  | zero =>
    intro i out hi ho hol hob
    have : i = l.length := by omega
    subst this
    simp [go_sem, run_codeL E L19_0.eq_1]
    exact hk out _ _ hob hol rfl
  | succ d ih =>
    intro i out hi ho hol hob
    have hlt : i < l.length := by omega
    rw [List.drop_eq_getElem_cons hlt, List.flatMap_cons]
    obtain ⟨g2, g3, g1⟩ := good_get l 0 i hlt hg
    have gk := chkB_ok g2
    have hs := (chk_right gk.2.2.2.1).2
    have hlen := putBk_len g2
    have hrl := idxRow_len l[i] g2
    obtain ⟨k1, k2⟩ := take_succ_tot l i hlt
    have hT := tot_take_le l i hg
    have hP := blks_take_le l i
    have hT1 := tot_take_le l (i + 1) hg
    have hP1 := blks_take_le l (i + 1)
    have he := entGo_get l 0 0 i hlt
    simp only [Int.zero_add, Nat.zero_add] at he
    have hel := entGo_length l 0 0
    have hi' : i < (entGo 0 0 l).length := by omega
    have hx : (entGo 0 0 l)[i] = (totB (l.take i), (blksB (l.take i)).length) := by simpa [List.getElem?_eq_getElem hi'] using he
    have h0 : (0 : Int) ≤ (i : Int) + 1 := by omega
    have ih2 := ih (i + 1) (out ++ idxRow l[i]) (by omega) (by simp [ho]) (by simp; omega) (by
      intro c hc
      rcases List.mem_append.1 hc with h | h
      · exact hob c h
      · exact idxRow_byte _ c h)
    rw [List.append_assoc] at ih2
    have hV1 := vput_spec (sumN l[i].2).toNat (by omega)
    have hV2 := vput_spec (putBk l[i]).length (by omega)
    have hr1 := rowsB (putN (sumN l[i].2).toNat)
    have hr2 := rowsB (putN (putBk l[i]).length)
    have hrow : idxRow l[i] = putN (sumN l[i].2).toNat ++ putN (putBk l[i]).length := rfl
    rw [hrow] at ih2 ⊢
    have hpl1 := putN_len64 (n := (sumN l[i].2).toNat) (by omega)
    have hpl2 := putN_len64 (n := (putBk l[i]).length) (by omega)
    have hpn1 := putN_pos (sumN l[i].2).toNat
    have hpn2 := putN_pos (putBk l[i]).length
    generalize R _ = Q at ih2 ⊢
    generalize putN (sumN l[i].2).toNat = A at *
    generalize putN (putBk l[i]).length = B at *
    generalize hj : (sumN l[i].2).toNat = j at *
    have hj' : sumN l[i].2 = (j : Int) := by omega
    have ws : IntKind.wrap .i64 (totB (l.take (i + 1)) - totB (l.take i)) = (j : Int) := by rw [wrap64 (by omega) (by omega)]; omega
    have wq : IntKind.wrap .i64 (((blksB (l.take (i + 1))).length : Int) - ((blksB (l.take i)).length : Int)) = ((putBk l[i]).length : Int) := by rw [wrap64 (by omega) (by omega)]; omega
    have wu1 := wrap_u64 (n := j) (by omega)
    have wu2 := wrap_u64 (n := (putBk l[i]).length) (by omega)
    have wi := wrapIdx (i := i) (by omega)
    have hb1 : ¬ (70368744177664 < out.length + A.length) := by omega
    have hb2 : ¬ (70368744177664 < out.length + A.length + B.length) := by omega
    have hb2' : ¬ (70368744177664 < out.length + (A.length + B.length)) := by omega
    by_cases hl1 : i + 1 < l.length
    · have he1 := entGo_get l 0 0 (i + 1) hl1
      simp only [Int.zero_add, Nat.zero_add] at he1
      have hi1' : i + 1 < (entGo 0 0 l).length := by omega
      have hx1 : (entGo 0 0 l)[i + 1] = (totB (l.take (i + 1)), (blksB (l.take (i + 1))).length) := by simpa [List.getElem?_eq_getElem hi1'] using he1
      have hl1' : (i : Int) + 1 < (l.length : Int) := by omega
      generalize totB (l.take (i + 1)) = T1 at *
      generalize totB (l.take i) = T0 at *
      generalize (blksB (l.take (i + 1))).length = P1 at *
      generalize (blksB (l.take i)).length = P0 at *
      generalize (putBk l[i]).length = m at *
      generalize entGo 0 0 l = es at *
      simp [go_sem, run_codeL E L19_0.eq_1, hlt, hx, hx1, h0, hel, hl1, hl1', wi, ws, wq, wu1, wu2, hV1, hV2, hr1, hr2, hb1, hb2, hb2', hpn1, hpn2, purse_eq, encEnt, ho]
      rw [run_inLoop']
      simp [go_sem, purse_eq, List.range_succ]
      simpa [Nat.add_assoc] using ih2
    · have hl1' : ¬ ((i : Int) + 1 < (l.length : Int)) := by omega
      have hend : i + 1 = l.length := by omega
      have ht1 : l.take (i + 1) = l := List.take_of_length_le (by omega)
      rw [ht1] at ws wq
      rw [hbl] at wq
      generalize totB (l.take i) = T0 at *
      generalize (blksB (l.take i)).length = P0 at *
      generalize (putBk l[i]).length = m at *
      generalize entGo 0 0 l = es at *
      generalize totB l = T1 at *
      simp [go_sem, run_codeL E L19_0.eq_1, hlt, hx, h0, hel, hl1, hl1', wi, ws, wq, wu1, wu2, hV1, hV2, hr1, hr2, hb1, hb2, hb2', hpn1, hpn2, purse_eq, encEnt, ho]
      rw [run_inLoop']
      simp [go_sem, purse_eq, List.range_succ]
      simpa [Nat.add_assoc] using ih2
end Go.AM.R1
open Go Go.AM
namespace Go.AM.R1

theorem idxIn_byte (l : List Bk) : ∀ c ∈ putN l.length ++ l.flatMap idxRow, c < 256 := by
  intro c hc
  rcases List.mem_append.1 hc with h | h
  · exact putN_lt256 _ _ h
  · obtain ⟨x, _, h⟩ := List.mem_flatMap.1 h
    exact idxRow_byte x c h
theorem idxIn_len (l : List Bk) (hg : Good 0 l) : l.length < 18446744073709551616 → (putN l.length ++ l.flatMap idxRow).length ≤ 20 + 20 * l.length := by
  intro hl
  have h1 := putN_len64 hl
  have h2 : ∀ (l : List Bk) (t : Int), Good t l → (l.flatMap idxRow).length ≤ 20 * l.length := by
    intro l
    induction l with
    | nil => simp
    | cons x l ih =>
      intro t g
      have := idxRow_len x g.2.1
      have := ih _ g.2.2.2
      simp only [List.flatMap_cons, List.length_append, List.length_cons]; omega
  have := h2 l 0 hg
  rw [List.length_append]; omega
theorem sput_spec (b : List Nat) (hl : b.length ≤ 1000000) (l : List Bk) (hg : Good 0 l) (hbl : blksB l = b) (nl lb le : Bool) :
    call E (.func (.func 19) [] []) [.ptr 0 0] (ixH nl lb le b (entGo 0 0 l) (totB l))
      = some (.own (ixH nl lb le b (entGo 0 0 l) (totB l)).length (idxB l).length 1 0 (idxB l).length, ixH nl lb le b (entGo 0 0 l) (totB l) ++ [.arr true false false 1 ((idxB l).map encB)]) := by
  rw [call_func E E19]
  have hln := good_len l 0 hg
  rw [hbl] at hln
  have hb1 := idxIn_byte l
  have hb2 := idxIn_len l hg (by omega)
  have hS := seal_spec (putN l.length ++ l.flatMap idxRow) hb1 false (by omega)
  rw [show sealB (putN l.length ++ l.flatMap idxRow) = idxB l from rfl] at hS
  have hV := vput_spec l.length (by omega)
  have hpn := putN_pos l.length
  have hp64 := putN_len64 (n := l.length) (by omega)
  by_cases hb0 : b = []
  · subst hb0
    have hl0 : l = [] := by cases l with | nil => rfl | cons x r => simp at hln
    subst hl0
    simp [putN_small (show 0 < 128 by omega), encB] at hV hS
    have w0 : IntKind.wrap .u64 0 = 0 := rfl
    cases nl
    · simp [go_sem, ir19, ixH, hV, hS, w0, purse_eq, nilS]
      rw [run_inLoop']
      simp [go_sem, purse_eq, List.range_succ, run_codeL E L19_0.eq_1, encB, hS]
    · simp [go_sem, ir19, ixH, hV, hS, w0, purse_eq, nilS]
      rw [run_inLoop']
      simp [go_sem, purse_eq, List.range_succ, run_codeL E L19_0.eq_1, encB, hS]
  · have hel := entGo_length l 0 0
    have wu := wrap_u64 (n := l.length) (by omega)
    have hL := sput_loop b hl l hg (by rw [hbl]) lb le [.code (.seq (.reg [⟨none, some 71, .copy (.t 3)⟩, ⟨none, some 72, .call 83 [.t 71]⟩, ⟨none, some 2, .copy (.t 72)⟩] [] []) .ret)]
      (fun out => some (.own 3 (sealB out).length 1 0 (sealB out).length, ixH nl lb le b (entGo 0 0 l) (totB l) ++ [.arr true false false 1 ((sealB out).map encB)])) ?_ l.length 0 (putN l.length) (by omega) hpn (by omega) (fun c hc => putN_lt256 _ _ hc)
    · rw [List.drop_zero, show sealB (putN l.length ++ l.flatMap idxRow) = idxB l from rfl] at hL
      have hlen3 : (ixH nl lb le b (entGo 0 0 l) (totB l)).length = 3 := by simp [ixH, hb0]
      rw [hlen3]
      generalize some (AVal.own 3 (idxB l).length 1 0 (idxB l).length, _) = Q at hL ⊢
      simp [go_sem, ir19, ixH, hb0, hel, hV, wu, purse_eq]
      rw [run_inLoop']
      simp [go_sem, purse_eq, List.range_succ]
      exact hL
    · intro out τ H h1 h2 h3
      have hS2 := seal_spec out h1 false (by omega)
      simp [go_sem, h3, hS2, ixH, hb0, hel, purse_eq, List.range_succ]
end Go.AM.R1
open Go Go.AM
namespace Go.AM.R1

def entV (i : Nat) (es : List Ent) : AVal := if es = [] then nilS else .own i es.length 2 0 es.length
def entH (es : List Ent) : Heap := if es = [] then [] else [.arr true false false 2 (es.map encEnt)]
theorem rows2 (es : List Ent) : rowsOk 2 (es.map encEnt) = true := rowsOk_map (f := encEnt) (fun _ => rfl) es
theorem sents_spec (b : List Nat) (es : List Ent) (hl : es.length ≤ 1000000) (hbe : es = [] ↔ b = []) (t : Int) (nl lb le : Bool) :
    call E (.func (.func 21) [] []) [.ptr 0 0] (ixH nl lb le b es t)
      = some (entV 3 es, ixH nl lb true b es t ++ entH es) := by
  rw [call_func E E21]
  by_cases hb0 : b = []
  · have he := hbe.2 hb0
    subst hb0 he
    have hC : call E (.func (.func 85) [] []) [.imm true true true []] [] = some (nilS, []) := by
      rw [call_func E E85]
      simp [go_sem, ir85, purse_eq]
    cases nl
    · simp [go_sem, ir21, ixH, hC, entV, entH, purse_eq, nilS, List.range_succ]
    · simp [go_sem, ir21, ixH, hC, entV, entH, purse_eq, nilS, List.range_succ]
  · have he : es ≠ [] := fun h => hb0 (hbe.1 h)
    have hC : call E (.func (.func 85) [] []) [.imm false false true (es.map encEnt)] [] = some (.own 0 es.length 2 0 es.length, [.arr true false false 2 (es.map encEnt)]) := by
      rw [call_func E E85]
      have hr := rows2 es
      have hbb : ¬ (70368744177664 < es.length * 16) := by omega
      have hpos := List.length_pos_iff.2 he
      simp [go_sem, ir85, hr, hbb, he, purse_eq]
    simp [go_sem, ir21, ixH, hb0, hC, entV, entH, he, purse_eq, nilS, List.range_succ]
end Go.AM.R1
open Go Go.AM
namespace Go.AM.R1

/-! ### The bytes of a log that is made of rows -/
def madeGo : Int → List (List Run) → List Bk
  | _, [] => []
  | t, r :: s => if r.length ≤ 20 ∧ chk r = 0 ∧ chkB t (joined [] r) = 0 then (t, joined [] r) :: madeGo (t + sumN r) s else madeGo t s
def madeL (rows : List RowV) : List Bk := madeGo 0 ((rows.take 20).map RowV.l)
theorem Run.Fit.ok {r : Run} (h : r.Fit) : r.Ok := ⟨h.1.1, h.1.2⟩
theorem joined_drive {l : List Run} (h : ∀ r ∈ l, 0 ≤ r.Drive ∧ r.Drive ≤ 4294967295) : ∀ r ∈ joined [] l, 0 ≤ r.Drive ∧ r.Drive ≤ 4294967295 :=
  joined_mem l [] (fun r => 0 ≤ r.Drive ∧ r.Drive ≤ 4294967295) (fun r hr _ => h r hr) (fun x r hx _ _ => hx) (by simp)
theorem madeGo_good : ∀ (l : List (List Run)) (t : Int), (∀ r ∈ l, ∀ x ∈ r, x.Fit) → Good t (madeGo t l)
  | [], t, _ => trivial
  | r :: s, t, h => by
    rw [madeGo]
    split
    · rename_i h1
      have hs := joined_chk h1.2.1
      refine ⟨rfl, h1.2.2, joined_drive fun x hx => (h r (by simp) x hx).2.2, ?_⟩
      rw [hs.2.1]
      exact madeGo_good s _ fun r hr => h r (by simp [hr])
    · exact madeGo_good s _ fun r hr => h r (by simp [hr])
theorem madeL_good {rows : List RowV} (h : ∀ r ∈ rows, r.Fit) : Good 0 (madeL rows) := madeGo_good _ 0 (by
  intro r hr
  obtain ⟨v, hv, rfl⟩ := List.mem_map.1 hr
  exact (h v (List.mem_of_mem_take hv)).1)
theorem madeGo_length : ∀ (l : List (List Run)) (t : Int), (madeGo t l).length ≤ l.length
  | [], t => by simp [madeGo]
  | r :: s, t => by
    rw [madeGo]
    split
    · have := madeGo_length s (t + sumN r); simp; omega
    · have := madeGo_length s t; simp; omega
theorem putBk_len20 {x : Bk} (h : chkB x.1 x.2 = 0) (hl : x.2.length ≤ 20) : (putBk x).length ≤ 230 := by
  obtain ⟨h1, h2, h3, h4, h5, h6⟩ := chkB_ok h
  have := bytes_len5 (numsN x.1 x.2) (nums_lt h1 h3 (chk_right h4).1)
  have e : (numsN x.1 x.2).length = 2 * x.2.length + 2 := by simp only [numsN, List.length_cons, runN_length]
  have h7 := whole_len (numsN x.1 x.2)
  have h8 := putN_len64 (n := (bytesN (numsN x.1 x.2)).length) (by omega)
  unfold putBk; omega
theorem madeGo_bytes : ∀ (l : List (List Run)) (t : Int), (blksB (madeGo t l)).length ≤ 230 * l.length
  | [], t => by simp [madeGo, blksB]
  | r :: s, t => by
    rw [madeGo]
    split
    · rename_i h1
      have := madeGo_bytes s (t + sumN r)
      have := putBk_len20 (x := (t, joined [] r)) h1.2.2 (by have := joined_length r []; simp at this; show (joined [] r).length ≤ 20; omega)
      rw [blksB_cons, List.length_append, List.length_cons]; omega
    · have := madeGo_bytes s t; simp; omega
theorem blksB_byte : ∀ (l : List Bk) (t : Int), Good t l → ∀ c ∈ blksB l, c < 256
  | [], _, _ => by simp [blksB]
  | x :: l, t, g => by
    intro c hc
    rw [blksB_cons] at hc
    rcases List.mem_append.1 hc with h | h
    · exact wholeB_byte _ (nums_lt64 g.2.1) (by have := nums_bytes g.2.1; omega) c h
    · exact blksB_byte l _ g.2.2.2 c h

theorem made_loop (rows : List RowV) (hl : rows.length ≤ 9223372036854775807) (hf : ∀ r ∈ rows, r.Fit) (nl fu : Bool) (k : List Item) (R : List Nat → Option (AVal × Heap))
    (hk : ∀ (out : List Nat) τ, lk 3 τ = .own 0 out.length 1 0 out.length → finK 0 [.tmp 2] (run E 0 k τ [.arr true false out.isEmpty 1 (out.map encB)]) = R out) :
    ∀ (d i : Nat) (out : List Nat) (t : Int), i + d = (rows.take 20).length → out.length ≤ 42000 * i → (0 ≤ t ∧ t ≤ 1073741824) →
   finK 0 [.tmp 2] (run E 0 (.code L22_0 :: .inLoop [0, 3, 4, 5] L22_0 :: .inBlock 0 :: k)
     [(0, .imm nl fu true (rows.map encRow)), (3, .own 0 out.length 1 0 out.length), (4, .lit (.int .i64 t)), (5, .lit (.int .i64 i))] [.arr true false out.isEmpty 1 (out.map encB)])
    = R (out ++ blksB (madeGo t (((rows.take 20).drop i).map RowV.l))) := by
  intro d
  induction d with
  | zero =>
    intro i out t hi hol ht
    have hi2 : i = (rows.take 20).length := by omega
    rw [List.drop_eq_nil_of_le (by omega)]
    simp at hi2
    by_cases hlt : i < rows.length
    · have h20 : ¬ (i : Int) < 20 := by omega
      simp [go_sem, run_codeL E L22_0.eq_1, hlt, h20, madeGo, blksB]
      exact hk out _ rfl
    · simp [go_sem, run_codeL E L22_0.eq_1, hlt, madeGo, blksB]
      exact hk out _ rfl
  | succ d ih =>
    intro i out t hi hol ht
    have hlt' : i < (rows.take 20).length := by omega
    rw [List.drop_eq_getElem_cons hlt', List.map_cons, madeGo]
    have hlt : i < rows.length := by simp at hlt'; omega
    have h20 : (i : Int) < 20 := by simp at hlt'; omega
    rw [List.getElem_take]
    have hfi := hf _ (List.getElem_mem hlt)
    have wi := wrapIdx (i := i) (by omega)
    have hT := fun nl fu => ticks_spec rows[i].l hfi.2 (fun r hr => (hfi.1 r hr).ok) nl fu
    rw [ticks_eq] at hT
    have ih0 := ih (i + 1) out t (by omega) (by omega) ht
    by_cases h1 : rows[i].l.length ≤ 20
    · have h1' : ¬ (20 : Int) < (rows[i].l.length : Int) := by omega
      by_cases h2 : chk rows[i].l = 0
      · have hs := joined_chk h2
        have hsu := (chk_right h2).2
        have hR := chk_right h2
        have hp := posSum_of_right rows[i].l (fun r hr => by have := hR.1 r hr; omega)
        have hj := same_joins rows[i].l (by omega) (fun r hr => (hfi.1 r hr).ok) (by omega)
        have hJ := join_spec rows[i].l (by omega) (fun r hr => (hfi.1 r hr).ok) rows[i].nl rows[i].fu
        rw [hj] at hJ
        have hjl := joined_length rows[i].l []
        have hjr := chk_right hs.1
        have hjok : ∀ r ∈ joined [] rows[i].l, r.Ok := fun r hr => by
          have := hjr.1 r hr
          have hb : r.Bus = 0 ∨ r.Bus = 1 := by
            have hc := hs.1
            unfold chk at hc
            split at hc
            · rename_i hall
              have := List.all_eq_true.1 hall r hr
              simp [right] at this
              omega
            · omega
          exact ⟨by omega, by omega⟩
        have hP := fun (nl fu : Bool) (hc : chkB t (joined [] rows[i].l) = 0) => bput_spec t (by omega) (joined [] rows[i].l) (by simp at hjl; omega) hjok nl fu hc
        have hPb := fun (nl fu : Bool) (hc : chkB t (joined [] rows[i].l) ≠ 0) => bput_bad t (by omega) (joined [] rows[i].l) (by simp at hjl; omega) hjok nl fu hc
        rw [h2] at hT
        by_cases h3 : chkB t (joined [] rows[i].l) = 0
        · rw [if_pos ⟨h1, h2, h3⟩, blksB_cons]
          have hne := (chkB_ok h3).2.1
          have h6 := (chkB_ok h3).2.2.2.2.2
          have hP1 := hP false false h3
          rw [show wholeB (numsN t (joined [] rows[i].l)) = putBk (t, joined [] rows[i].l) from rfl] at hP1
          have hlen := putBk_len (x := (t, joined [] rows[i].l)) h3
          have ih1 := ih (i + 1) (out ++ putBk (t, joined [] rows[i].l)) (t + sumN rows[i].l) (by omega) (by simp; omega) (by omega)
          rw [List.append_assoc] at ih1
          have wt : IntKind.wrap .i64 (t + sumN rows[i].l) = t + sumN rows[i].l := by rw [wrap64 (by omega) (by omega)]
          have hr := rowsB (putBk (t, joined [] rows[i].l))
          have hbb : ¬ (70368744177664 < out.length + (putBk (t, joined [] rows[i].l)).length) := by omega
          have hpne : putBk (t, joined [] rows[i].l) ≠ [] := by intro q; rw [q] at hlen; simp at hlen
          generalize R _ = Q at ih1 ⊢
          clear ih0 ih hPb hP
          generalize putBk (t, joined [] rows[i].l) = B at *
          simp [resV, resH, hne] at hJ
          simp [encBlk] at hP1
          rcases snoc_cases out with rfl | ⟨o, x, rfl⟩
          · have hBe : B.isEmpty = false := by cases B with | nil => exact absurd rfl hpne | cons x r => rfl
            have hbb0 : ¬ (70368744177664 < B.length) := by omega
            simp [hBe] at ih1
            simp [go_sem, run_codeL E L22_0.eq_1, hlt, h20, h1', hT, hJ, hP1, wt, wi, hr, purse_eq, encRow, hpne, hBe, hbb0]
            rw [run_inLoop']
            simp [go_sem, purse_eq, List.range_succ]
            simpa [encRow] using ih1
          · have hbb2 : ¬ (70368744177664 < o.length + 1 + B.length) := by simpa using hbb
            simp [isEmpty_snoc] at ih1
            simp [go_sem, run_codeL E L22_0.eq_1, hlt, h20, h1', hT, hJ, hP1, wt, wi, hr, purse_eq, encRow, hpne, hbb2]
            rw [run_inLoop']
            simp [go_sem, purse_eq, List.range_succ]
            simpa [encRow, isEmpty_snoc, Nat.add_assoc, Nat.add_comm 1 B.length] using ih1
        · rw [if_neg (by intro q; exact h3 q.2.2)]
          generalize R _ = Q at ih0 ⊢
          clear ih
          by_cases hne : joined [] rows[i].l = []
          · have hP1 := hPb true true h3
            simp [resV, resH, hne] at hJ
            simp [encBlk, hne] at hP1
            rw [hne] at h3
            simp [go_sem, run_codeL E L22_0.eq_1, hlt, h20, h1', hT, hJ, hP1, h3, wi, purse_eq, encRow, nilS]
            rw [run_inLoop']
            simp [go_sem, purse_eq, List.range_succ]
            simpa [encRow] using ih0
          · have hP1 := hPb false false h3
            simp [resV, resH, hne] at hJ
            simp [encBlk] at hP1
            simp [go_sem, run_codeL E L22_0.eq_1, hlt, h20, h1', hT, hJ, hP1, h3, wi, purse_eq, encRow]
            rw [run_inLoop']
            simp [go_sem, purse_eq, List.range_succ]
            simpa [encRow] using ih0
      · rw [if_neg (by intro q; exact h2 q.2.1)]
        generalize R _ = Q at ih0 ⊢
        clear ih
        simp [go_sem, run_codeL E L22_0.eq_1, hlt, h20, h1', hT, h2, wi, purse_eq, encRow]
        rw [run_inLoop']
        simp [go_sem, purse_eq, List.range_succ]
        simpa [encRow] using ih0
    · rw [if_neg (by intro q; exact h1 q.1)]
      have h1' : (20 : Int) < (rows[i].l.length : Int) := by omega
      generalize R _ = Q at ih0 ⊢
      clear ih
      simp [go_sem, run_codeL E L22_0.eq_1, hlt, h20, h1', hT, wi, purse_eq, encRow]
      rw [run_inLoop']
      simp [go_sem, purse_eq, List.range_succ]
      simpa [encRow] using ih0
def madeB (rows : List RowV) : List Nat := blksB (madeL rows)
theorem made_spec (rows : List RowV) (hl : rows.length ≤ 9223372036854775807) (hf : ∀ r ∈ rows, r.Fit) (nl fu : Bool) :
    call E (.func (.func 22) [] []) [.imm nl fu true (rows.map encRow)] []
      = some (.own 0 (madeB rows).length 1 0 (madeB rows).length, [.arr true false (madeB rows).isEmpty 1 ((madeB rows).map encB)]) := by
  rw [call_func E E22]
  simp [go_sem, ir22, purse_eq]
  rw [run_inLoop']
  simp [go_sem, purse_eq]
  have h := made_loop rows hl hf nl fu [.code (.seq (.reg [⟨none, some 58, .copy (.t 3)⟩, ⟨none, some 2, .copy (.t 58)⟩] [] []) .ret)] (fun out => some (.own 0 out.length 1 0 out.length, [.arr true false out.isEmpty 1 (out.map encB)])) ?_ (rows.take 20).length 0 [] 0 (by omega) (by simp) (by omega)
  · simpa [madeB, madeL] using h
  · intro out τ h
    simp [go_sem, h, purse_eq]
end Go.AM.R1
open Go Go.AM
namespace Go.AM.R1

theorem openE_seal (x : List Nat) : openE (sealB x) = 0 := by
  have hl := sealB_length x
  rw [seal_take _ (by omega), hl]
  show sealB ((x ++ _).take _) = _
  rw [Nat.add_sub_cancel, List.take_left]
theorem open_any (b : List Nat) (hb : ∀ c ∈ b, c < 256) (hl : b.length ≤ 1099511627775) (nl fu : Bool) (hnl : nl = false ∨ b = []) :
    call E (.func (.func 24) [] []) [.imm nl fu true (b.map encB)] []
      = some (if openE b = 0 then (.tup [.own 0 (b.length - 4) 1 0 (b.length - 4), .lit (.int .i64 0)], [.arr true false (b.take (b.length - 4)).isEmpty 1 ((b.take (b.length - 4)).map encB)])
        else (.tup [nilS, .lit (.int .i64 (openE b))], [])) := by
  cases nl with
  | false => exact open_spec b hb hl fu
  | true =>
    have hb0 : b = [] := by rcases hnl with h | h; cases h; exact h
    subst hb0
    rw [call_func E E24]
    have w4 : IntKind.wrap .i64 (-4) = -4 := rfl
    simp [go_sem, ir24, purse_eq, openE, nilS, w4]
theorem idxB_open (l : List Bk) : openE (idxB l) = 0 := openE_seal _
theorem idxB_byte (l : List Bk) : ∀ c ∈ idxB l, c < 256 := by
  intro c hc
  rcases List.mem_append.1 hc with h | h
  · exact idxIn_byte l c h
  · exact tail_byte _ c h
theorem idxB_len (l : List Bk) (hg : Good 0 l) (hl : l.length ≤ 1000000) : (idxB l).length ≤ 24 + 20 * l.length := by
  have := idxIn_len l hg (by omega)
  unfold idxB; rw [sealB_length]; omega
def getX (b whole : List Nat) (nl : Bool) : AVal × Heap :=
  if openE b = 0 then
    if (scanB whole).2.1 = whole.length then
      if idxB (scanB whole).1 = b then (.tup [.ptr 0 0, .lit (.int .i64 0)], ixH nl false false whole (entGo 0 0 (scanB whole).1) (totB (scanB whole).1))
      else (.tup [.lit (.pointer none), .lit (.int .i64 24)], [])
    else (.tup [.lit (.pointer none), .lit (.int .i64 11)], [])
  else (.tup [.lit (.pointer none), .lit (.int .i64 (openE b))], [])
theorem sget_spec (b : List Nat) (hb : ∀ c ∈ b, c < 256) (hl : b.length ≤ 1099511627775) (nlb fub : Bool) (hnlb : nlb = false ∨ b = [])
    (w : List Nat) (hw : ∀ c ∈ w, c < 256) (hlw : w.length ≤ 1000000) (nl fu : Bool) (hnl : nl = false ∨ w = []) :
    call E (.func (.func 23) [] []) [.imm nlb fub true (b.map encB), .imm nl fu true (w.map encB)] [] = some (getX b w nl) := by
  rw [call_func E E23]
  have hO := open_any b hb hl nlb fub hnlb
  have hS := sof_spec w hw hlw nl fu hnl
  obtain ⟨f1, f2, f3, f4, f5⟩ := scanB_facts hw
  unfold getX
  by_cases h1 : openE b = 0
  · rw [if_pos h1] at hO ⊢
    by_cases h2 : (scanB w).2.1 = w.length
    · rw [if_pos h2] at hS ⊢
      rw [h2, List.take_length] at f4
      have hln := good_len _ 0 f1
      rw [← f4] at hln
      have hP := sput_spec w hlw (scanB w).1 f1 f4.symm nl false false
      have hil := idxB_len _ f1 (by omega)
      have hE := equal_spec (idxB (scanB w).1) b (idxB_byte _) hb false false nlb fub
      generalize hq : (scanB w).1 = l at *
      by_cases hw0 : w = []
      · have hl0 : l = [] := by cases l with | nil => rfl | cons x r => rw [hw0] at hln; simp at hln
        subst hw0 hl0
        generalize idxB [] = I at *
        by_cases h3 : I = b
        · rw [if_pos h3]
          rw [decide_eq_true h3] at hE
          cases nl
          · simp [ixH, entGo, totB, nilS] at hS hP
            simp [go_sem, ir23, hO, hS, hP, hE, purse_eq, List.range_succ, nilS, ixH, entGo, totB]
          · simp [ixH, entGo, totB, nilS] at hS hP
            simp [go_sem, ir23, hO, hS, hP, hE, purse_eq, List.range_succ, nilS, ixH, entGo, totB]
        · rw [if_neg h3]
          rw [decide_eq_false h3] at hE
          cases nl
          · simp [ixH, entGo, totB, nilS] at hS hP
            simp [go_sem, ir23, hO, hS, hP, hE, purse_eq, List.range_succ, nilS]
          · simp [ixH, entGo, totB, nilS] at hS hP
            simp [go_sem, ir23, hO, hS, hP, hE, purse_eq, List.range_succ, nilS]
      · have hnl' : nl = false := by rcases hnl with q | q; exact q; exact absurd q hw0
        subst hnl'
        have hel := entGo_length l 0 0
        generalize idxB l = I at *
        generalize entGo 0 0 l = es at *
        generalize totB l = t at *
        by_cases h3 : I = b
        · rw [if_pos h3]
          rw [decide_eq_true h3] at hE
          simp [ixH, hw0] at hS hP
          simp [go_sem, ir23, hO, hS, hP, hE, purse_eq, List.range_succ, nilS, ixH, hw0]
        · rw [if_neg h3]
          rw [decide_eq_false h3] at hE
          simp [ixH, hw0] at hS hP
          simp [go_sem, ir23, hO, hS, hP, hE, purse_eq, List.range_succ, nilS]
    · rw [if_neg h2] at hS ⊢
      simp [go_sem, ir23, hO, hS, purse_eq, List.range_succ]
  · rw [if_neg h1] at hO ⊢
    simp [go_sem, ir23, hO, h1, purse_eq, List.range_succ]
end Go.AM.R1
open Go Go.AM
namespace Go.AM.R1

/-! ### Which block has a tick -/
def entIx : List Bk → Int → Nat
  | [], _ => 0
  | x :: r, t => if t < sumN x.2 then 0 else 1 + entIx r (t - sumN x.2)
theorem entIx_lt : ∀ (l : List Bk) (t : Int), 0 ≤ t → t < totB l → entIx l t < l.length
  | [], t, h0, h => by simp [totB] at h; omega
  | x :: r, t, h0, h => by
    rw [entIx]
    split
    · simp
    · have := entIx_lt r (t - sumN x.2) (by omega) (by simp only [totB] at h; omega)
      simp; omega
theorem entIx_bounds : ∀ (l : List Bk) (t : Int), 0 ≤ t → t < totB l → totB (l.take (entIx l t)) ≤ t ∧ t < totB (l.take (entIx l t + 1))
  | [], t, h0, h => by simp [totB] at h; omega
  | x :: r, t, h0, h => by
    rw [entIx]
    split
    · rename_i h1
      simp [totB]; omega
    · have := entIx_bounds r (t - sumN x.2) (by omega) (by simp only [totB] at h; omega)
      rw [show 1 + entIx r (t - sumN x.2) = entIx r (t - sumN x.2) + 1 by omega]
      simp only [List.take_succ_cons, totB]
      omega
/-- Ticks ahead of a block grow with its number. -/
theorem tot_mono {l : List Bk} (hg : Good 0 l) : ∀ {i j : Nat}, i ≤ j → totB (l.take i) ≤ totB (l.take j) := by
  intro i j h
  induction j with
  | zero => have : i = 0 := by omega
            subst this; exact Int.le_refl _
  | succ j ih =>
    by_cases hij : i = j + 1
    · subst hij; exact Int.le_refl _
    · have h1 := ih (by omega)
      by_cases hj : j < l.length
      · have := (take_succ_tot l j hj).1
        obtain ⟨g2, _⟩ := good_get l 0 j hj hg
        have := (chk_right (chkB_ok g2).2.2.2.1).2
        omega
      · rw [List.take_of_length_le (show l.length ≤ j + 1 by omega)]
        rw [List.take_of_length_le (show l.length ≤ j by omega)] at h1
        exact h1
def ixI (k : Nat) (lb le : Bool) (b : List Nat) (es : List Ent) (T : Int) : Heap :=
  [.box [.own (1 + k) b.length 1 0 b.length, .own (2 + k) es.length 2 0 es.length, .lit (.int .i64 T)], .arr true lb false 1 (b.map encB), .arr true le false 2 (es.map encEnt)]
theorem behind_spec (lb le : Bool) (b : List Nat) (es : List Ent) (T tick : Int) (i : Nat) (e : Ent) (he : es[i]? = some e) :
    call E (.func (.func 131) [] [.ptr 0 0, .ptr 4 0]) [.lit (.int .i64 i)] (.box [.ptr 1 0] :: ixI 1 lb le b es T ++ [.box [.lit (.int .i64 tick)]])
      = some (.lit (.bool (decide (tick < e.1))), .box [.ptr 1 0] :: ixI 1 lb le b es T ++ [.box [.lit (.int .i64 tick)]]) := by
  rw [call_func E E131]
  have hlt := (List.getElem?_eq_some_iff.1 he).1
  have hx := (List.getElem?_eq_some_iff.1 he).2
  simp [go_sem, ir131, ixI, purse_eq, hlt, hx, encEnt, List.range_succ]
theorem search_loop (lb le : Bool) (b : List Nat) (l : List Bk) (hg : Good 0 l) (hl : l.length ≤ 1000000) (T tick : Int) (h0 : 0 ≤ tick) (h1 : tick < totB l) (k : List Item) (R : Option (AVal × Heap))
    (hk : ∀ τ, lk 5 τ = .lit (.int .i64 ((entIx l tick + 1 : Nat) : Int)) → finK 5 [.tmp 4] (run E 5 k τ (.box [.ptr 1 0] :: ixI 1 lb le b (entGo 0 0 l) T ++ [.box [.lit (.int .i64 tick)]])) = R) :
    ∀ (d i j : Nat), j ≤ i + d → i ≤ entIx l tick + 1 → entIx l tick + 1 ≤ j → j ≤ l.length →
   finK 5 [.tmp 4] (run E 5 (.code L132_0 :: .inLoop [1, 5, 6] L132_0 :: .inBlock 0 :: k)
     [(1, .func (.func 131) [] [.ptr 0 0, .ptr 4 0]), (5, .lit (.int .i64 i)), (6, .lit (.int .i64 j))] (.box [.ptr 1 0] :: ixI 1 lb le b (entGo 0 0 l) T ++ [.box [.lit (.int .i64 tick)]])) = R := by
  obtain ⟨e1, e2⟩ := entIx_bounds l tick h0 h1
  intro d
  induction d with
  | zero =>
    intro i j hd hi hj hjl
    have : i = j := by omega
    subst this
    have hik : i = entIx l tick + 1 := by omega
    simp [go_sem, run_codeL E L132_0.eq_1]
    exact hk _ (by rw [hik]; rfl)
  | succ d ih =>
    intro i j hd hi hj hjl
    by_cases hij : i < j
    · have hm : (i + j) / 2 < j := by omega
      have hml : (i + j) / 2 < l.length := by omega
      have he := entGo_get l 0 0 ((i + j) / 2) hml
      simp only [Int.zero_add, Nat.zero_add] at he
      have hB := behind_spec lb le b (entGo 0 0 l) T tick ((i + j) / 2) _ he
      simp only [] at hB
      have ws : IntKind.wrap .i64 ((i : Int) + (j : Int)) = ((i + j : Nat) : Int) := by rw [wrap64 (by omega) (by omega)]; omega
      have wu := wrap_u64 (n := i + j) (by omega)
      have wf : ((i + j : Nat) : Int).fdiv (2 ^ 1) = (((i + j) / 2 : Nat) : Int) := by
        rw [show ((2 : Int) ^ 1) = 2 from rfl, Int.fdiv_eq_ediv_of_nonneg _ (by omega)]; omega
      have wm : IntKind.wrap .i64 (((i + j) / 2 : Nat) : Int) = (((i + j) / 2 : Nat) : Int) := wrap64 (by omega) (by omega)
      have wi := wrapIdx (i := (i + j) / 2) (by omega)
      have wf2 : ((i + j : Nat) : Int).fdiv 2 = (((i + j) / 2 : Nat) : Int) := by
        rw [Int.fdiv_eq_ediv_of_nonneg _ (by omega)]; omega
      by_cases hc : tick < totB (l.take ((i + j) / 2))
      · have hle : entIx l tick + 1 ≤ (i + j) / 2 := by
          apply Classical.byContradiction
          intro hn
          have := tot_mono hg (show (i + j) / 2 ≤ entIx l tick by omega)
          omega
        have ih2 := ih i ((i + j) / 2) (by omega) hi hle (by omega)
        rw [decide_eq_true hc] at hB
        clear he
        generalize (i + j) / 2 = h at *
        generalize i + j = s at *
        simp [ixI] at hB ih2
        simp [go_sem, run_codeL E L132_0.eq_1, hij, ws, wu, wf, wf2, wm, ixI, hB, purse_eq]
        rw [run_inLoop']
        simp [go_sem, purse_eq, List.range_succ]
        exact ih2
      · have hle : (i + j) / 2 + 1 ≤ entIx l tick + 1 := by
          apply Classical.byContradiction
          intro hn
          have := tot_mono hg (show entIx l tick + 1 ≤ (i + j) / 2 by omega)
          omega
        have ih2 := ih ((i + j) / 2 + 1) j (by omega) hle hj hjl
        rw [decide_eq_false hc] at hB
        clear he
        generalize (i + j) / 2 = h at *
        generalize i + j = s at *
        simp [ixI] at hB ih2
        simp [go_sem, run_codeL E L132_0.eq_1, hij, ws, wu, wf, wf2, wm, wi, ixI, hB, purse_eq]
        rw [run_inLoop']
        simp [go_sem, purse_eq, List.range_succ]
        exact ih2
    · have hik : i = entIx l tick + 1 := by omega
      have hij' : ¬ (i : Int) < (j : Int) := by omega
      simp [go_sem, run_codeL E L132_0.eq_1, hij]
      exact hk _ (by rw [hik]; rfl)
theorem search_spec (lb le : Bool) (b : List Nat) (l : List Bk) (hg : Good 0 l) (hl : l.length ≤ 1000000) (T tick : Int) (h0 : 0 ≤ tick) (h1 : tick < totB l) :
    call E (.func (.func 132) [] []) [.lit (.int .i64 l.length), .func (.func 131) [] [.ptr 0 0, .ptr 4 0]] (.box [.ptr 1 0] :: ixI 1 lb le b (entGo 0 0 l) T ++ [.box [.lit (.int .i64 tick)]])
      = some (.lit (.int .i64 ((entIx l tick + 1 : Nat) : Int)), .box [.ptr 1 0] :: ixI 1 lb le b (entGo 0 0 l) T ++ [.box [.lit (.int .i64 tick)]]) := by
  rw [call_func E E132]
  have hlt := entIx_lt l tick h0 h1
  have hL := search_loop lb le b l hg hl T tick h0 h1 [.code (.seq (.reg [⟨none, some 25, .copy (.t 5)⟩, ⟨none, some 4, .copy (.t 25)⟩] [] []) .ret)]
    (some (.lit (.int .i64 ((entIx l tick + 1 : Nat) : Int)), .box [.ptr 1 0] :: ixI 1 lb le b (entGo 0 0 l) T ++ [.box [.lit (.int .i64 tick)]])) ?_ l.length 0 l.length (by omega) (by omega) (by omega) (by omega)
  · generalize some (AVal.lit _, _) = Q at hL ⊢
    simp [ixI] at hL
    simp [go_sem, ir132, ixI, purse_eq]
    rw [run_inLoop']
    simp [go_sem, purse_eq, List.range_succ]
    exact hL
  · intro τ h5
    simp [go_sem, h5, purse_eq, ixI, List.range_succ]
theorem ixH_big {b : List Nat} (hb : b ≠ []) (lb le : Bool) (es : List Ent) (T : Int) : ixH false lb le b es T = ixI 0 lb le b es T := by simp [ixH, ixI, hb]
/-- The number of the entry that has a tick. -/
theorem entry_spec (l : List Bk) (hg : Good 0 l) (hl : (blksB l).length ≤ 1000000) (lb le : Bool) (tick : Int) (ht : -9223372036854775808 ≤ tick ∧ tick ≤ 9223372036854775807) :
    call E (.func (.func 89) [] []) [.ptr 0 0, .lit (.int .i64 tick)] (ixH false lb le (blksB l) (entGo 0 0 l) (totB l))
      = some (if 0 ≤ tick ∧ tick < totB l then .tup [.lit (.int .i64 (entIx l tick)), .lit (.int .i64 0)] else .tup [.lit (.int .i64 0), .lit (.int .i64 10)], ixH false lb le (blksB l) (entGo 0 0 l) (totB l)) := by
  rw [call_func E E89]
  have hln := good_len l 0 hg
  have hel := entGo_length l 0 0
  by_cases hc : 0 ≤ tick ∧ tick < totB l
  · rw [if_pos hc]
    have hb0 : blksB l ≠ [] := by
      intro q
      rw [q] at hln
      have : l = [] := by cases l with | nil => rfl | cons x r => simp at hln
      subst this
      simp [totB] at hc; omega
    have hS := search_spec lb le (blksB l) l hg (by omega) (totB l) tick hc.1 hc.2
    have hlt := entIx_lt l tick hc.1 hc.2
    have h1 : ¬ tick < 0 := by omega
    have h2 : ¬ totB l ≤ tick := by omega
    have w1 : IntKind.wrap .i64 (((entIx l tick + 1 : Nat) : Int) - 1) = (entIx l tick : Int) := by rw [wrap64 (by omega) (by omega)]; omega
    have w2 : IntKind.wrap .i64 ((entIx l tick : Int) + 1 - 1) = (entIx l tick : Int) := by rw [wrap64 (by omega) (by omega)]; omega
    rw [ixH_big hb0]
    simp only [ixI] at hS ⊢
    generalize entGo 0 0 l = es at *
    generalize totB l = T at *
    simp [hel] at hS w1 w2
    simp [go_sem, ir89, h1, h2, hel, hS, w1, w2, purse_eq, List.range_succ]
  · rw [if_neg hc]
    by_cases hb0 : blksB l = []
    · have hl0 : l = [] := by cases l with | nil => rfl | cons x r => rw [hb0] at hln; simp at hln
      subst hl0
      by_cases h1 : tick < 0
      · simp [go_sem, ir89, ixH, h1, hb0, nilS, purse_eq, List.range_succ, entGo, totB]
      · have h2 : (0 : Int) ≤ tick := by omega
        simp [go_sem, ir89, ixH, h1, h2, hb0, nilS, purse_eq, List.range_succ, entGo, totB]
    · rw [ixH_big hb0]
      by_cases h1 : tick < 0
      · simp [go_sem, ir89, ixI, h1, purse_eq, List.range_succ]
      · have h2 : totB l ≤ tick := by omega
        simp [go_sem, ir89, ixI, h1, h2, purse_eq, List.range_succ]
end Go.AM.R1
open Go Go.AM
namespace Go.AM.R1

/-! ### What an index tells -/
def allR (l : List Bk) : List Run := l.flatMap (·.2)
theorem allR_cons (x : Bk) (l : List Bk) : allR (x :: l) = x.2 ++ allR l := rfl
theorem allR_append (l m : List Bk) : allR (l ++ m) = allR l ++ allR m := by simp [allR]
theorem sumN_append : ∀ (l m : List Run), sumN (l ++ m) = sumN l + sumN m
  | [], m => by simp [sumN]
  | r :: l, m => by
    rw [List.cons_append, show sumN (r :: (l ++ m)) = r.N + sumN (l ++ m) from rfl, sumN_append l m, show sumN (r :: l) = r.N + sumN l from rfl]; omega
theorem allR_sum : ∀ l : List Bk, sumN (allR l) = totB l
  | [] => rfl
  | x :: l => by rw [allR_cons, sumN_append, allR_sum l]; rfl
theorem chk_all_right {l : List Run} (h : chk l = 0) : l.all right = true := by
  unfold chk at h
  cases ha : l.all right with
  | true => rfl
  | false => rw [ha] at h; simp at h
theorem good_right : ∀ (l : List Bk) (t : Int), Good t l → (allR l).all right = true
  | [], _, _ => rfl
  | x :: l, t, g => by
    rw [allR_cons, List.all_append, good_right l _ g.2.2.2, chk_all_right (chkB_ok g.2.1).2.2.2.1]; rfl
theorem good_chk {l : List Bk} {t : Int} (h0 : 0 ≤ t) (h1 : t ≤ 1073741824) (g : Good t l) : chk (allR l) = 0 := by
  have := good_tot l t h0 h1 g
  unfold chk
  rw [if_pos (good_right l t g), if_neg (by rw [allR_sum]; omega)]
theorem good_ok {l : List Bk} {t : Int} (h0 : 0 ≤ t) (h1 : t ≤ 1073741824) (g : Good t l) : ∀ r ∈ allR l, r.Ok := fun r hr => by
  have := (chk_right (good_chk h0 h1 g)).1 r hr
  exact ⟨by omega, by omega⟩
theorem bytesN_ge (l : List Nat) : l.length ≤ (bytesN l).length := by
  induction l with
  | nil => simp
  | cons n l ih =>
    have := List.length_pos_iff.2 (putN_pos n)
    simp only [bytesN, List.flatMap_cons, List.length_append, List.length_cons] at ih ⊢
    omega
theorem runs_le : ∀ (l : List Bk), 2 * (allR l).length ≤ (blksB l).length
  | [] => by simp [allR, blksB]
  | x :: l => by
    have h1 := runs_le l
    have h2 := bytesN_ge (numsN x.1 x.2)
    have h3 := whole_len (numsN x.1 x.2)
    have e : (numsN x.1 x.2).length = 2 * x.2.length + 2 := by simp only [numsN, List.length_cons, runN_length]
    rw [allR_cons, blksB_cons, List.length_append, List.length_append]
    show _ ≤ (wholeB (numsN x.1 x.2)).length + _
    omega
theorem pick_append : ∀ (A B : List Run) (t : Int), (∀ r ∈ A, 0 ≤ r.N) → 0 ≤ t → pick t (A ++ B) = if t < sumN A then pick t A else pick (t - sumN A) B
  | [], B, t, _, h0 => by
    have h : ¬ t < 0 := by omega
    simp [sumN, h]
  | r :: A, B, t, h, h0 => by
    have hr := h r (by simp)
    have hs : 0 ≤ sumN A := by
      have := expand_length A fun x hx => h x (by simp [hx])
      omega
    rw [List.cons_append, pick, pick, show sumN (r :: A) = r.N + sumN A from rfl]
    by_cases h1 : t < r.N
    · rw [if_pos h1, if_pos (by omega), if_pos h1]
    · rw [if_neg h1, pick_append A B (t - r.N) (fun x hx => h x (by simp [hx])) (by omega)]
      by_cases h2 : t - r.N < sumN A
      · rw [if_pos h2, if_pos (by omega), if_neg h1]
      · rw [if_neg h2, if_neg (by omega)]
        congr 1; omega
theorem good_nonneg {l : List Bk} {t : Int} (g : Good t l) : ∀ r ∈ allR l, 1 ≤ r.N ∧ r.N ≤ 1073741824 := fun r hr => right_N (List.all_eq_true.1 (good_right l t g) r hr)
/-- A tick of all is one of the block that has it. -/
theorem pick_all {l : List Bk} (hg : Good 0 l) {i : Nat} (hi : i < l.length) {t : Int} (h0 : totB (l.take i) ≤ t) (h1 : t < totB (l.take (i + 1))) : pick t (allR l) = pick (t - totB (l.take i)) l[i].2 := by
  have e : l = l.take i ++ (l[i] :: l.drop (i + 1)) := by rw [← List.drop_eq_getElem_cons hi, List.take_append_drop]
  have ht := tot_take_le l i hg
  have hk := (take_succ_tot l i hi).1
  obtain ⟨g2, _⟩ := good_get l 0 i hi hg
  have gr := (chk_right (chkB_ok g2).2.2.2.1).1
  conv => lhs; rw [e]
  rw [allR_append, pick_append _ _ _ (fun r hr => by have := good_nonneg (good_take l 0 i hg) r hr; omega) (by omega), allR_sum, if_neg (by omega), allR_cons,
    pick_append _ _ _ (fun r hr => by have := gr r hr; omega) (by omega), if_pos (by omega)]
theorem sfind_spec (l : List Bk) (hg : Good 0 l) (hl : (blksB l).length ≤ 1000000) (lb le : Bool) (tick : Int) (ht : -9223372036854775808 ≤ tick ∧ tick ≤ 9223372036854775807) :
    call E (.func (.func 27) [] []) [.ptr 0 0, .lit (.int .i64 tick)] (ixH false lb le (blksB l) (entGo 0 0 l) (totB l))
      = some (if 0 ≤ tick ∧ tick < totB l then .tup [.lit (.int .i64 ((blksB (l.take (entIx l tick))).length)), .lit (.int .i64 0)] else .tup [.lit (.int .i64 0), .lit (.int .i64 10)], ixH false lb le (blksB l) (entGo 0 0 l) (totB l)) := by
  rw [call_func E E27]
  have hE := entry_spec l hg hl lb le tick ht
  have hln := good_len l 0 hg
  have hel := entGo_length l 0 0
  by_cases hc : 0 ≤ tick ∧ tick < totB l
  · rw [if_pos hc] at hE ⊢
    have hlt := entIx_lt l tick hc.1 hc.2
    have hb0 : blksB l ≠ [] := by
      intro q; rw [q] at hln
      have : l.length = 0 := by simp at hln; omega
      omega
    have he := entGo_get l 0 0 _ hlt
    simp only [Int.zero_add, Nat.zero_add] at he
    have hi' : entIx l tick < (entGo 0 0 l).length := by omega
    have hx : (entGo 0 0 l)[entIx l tick] = (totB (l.take (entIx l tick)), (blksB (l.take (entIx l tick))).length) := by simpa [List.getElem?_eq_getElem hi'] using he
    rw [ixH_big hb0] at hE ⊢
    clear he
    generalize (blksB (l.take (entIx l tick))).length = p at *
    generalize totB (l.take (entIx l tick)) = tp at *
    generalize entIx l tick = i at *
    generalize entGo 0 0 l = es at *
    simp [ixI, hel] at hE
    simp [go_sem, ir27, ixI, hE, hx, hel, hlt, encEnt, purse_eq, List.range_succ]
  · rw [if_neg hc] at hE ⊢
    by_cases hb0 : blksB l = []
    · have hl0 : l = [] := by cases l with | nil => rfl | cons x r => rw [hb0] at hln; simp at hln
      subst hl0
      simp [ixH, hb0, entGo, totB, nilS] at hE
      simp [go_sem, ir27, ixH, hb0, hE, entGo, totB, nilS, purse_eq, List.range_succ]
    · rw [ixH_big hb0] at hE ⊢
      generalize entGo 0 0 l = es at *
      simp [ixI, hel] at hE
      simp [go_sem, ir27, ixI, hE, hel, purse_eq, List.range_succ]
/-- One block read. -/
theorem read_spec (l : List Bk) (hg : Good 0 l) (hl : (blksB l).length ≤ 1000000) (lb le : Bool) (i : Nat) (hi : i < l.length) :
    call E (.func (.func 90) [] []) [.ptr 0 0, .lit (.int .i64 i)] (ixI 0 lb le (blksB l) (entGo 0 0 l) (totB l))
      = some (.own 3 l[i].2.length 3 0 l[i].2.length, ixI 0 true le (blksB l) (entGo 0 0 l) (totB l) ++ [.arr true true false 3 (l[i].2.map encRun)]) := by
  rw [call_func E E90]
  have hel := entGo_length l 0 0
  have he := entGo_get l 0 0 i hi
  simp only [Int.zero_add, Nat.zero_add] at he
  have hi' : i < (entGo 0 0 l).length := by omega
  have hx : (entGo 0 0 l)[i] = (totB (l.take i), (blksB (l.take i)).length) := by simpa [List.getElem?_eq_getElem hi'] using he
  have hp := blks_take_le l i
  obtain ⟨g2, g3, _⟩ := good_get l 0 i hi hg
  have e : l = l.take i ++ (l[i] :: l.drop (i + 1)) := by rw [← List.drop_eq_getElem_cons hi, List.take_append_drop]
  have hd : (blksB l).drop (blksB (l.take i)).length = putBk l[i] ++ blksB (l.drop (i + 1)) := by
    conv => lhs; rw [e]
    rw [blksB_append, show (l.take i ++ l[i] :: l.drop (i + 1)).take i = l.take i by rw [← e], List.drop_left, blksB_cons]
  have hgb : getB ((blksB l).drop (blksB (l.take i)).length) = ((l[i].1, l[i].2), ((putBk l[i]).length : Int), 0) := by
    rw [hd]; exact get_of_put g2 g3 _
  have bb := blksB_byte l 0 hg
  have hG := bget_spec ((blksB l).drop (blksB (l.take i)).length) (fun c hc => bb c (List.mem_of_mem_drop hc)) (by simp; omega) false (false && decide (False)) (.inl rfl)
  rw [hgb] at hG
  have hne := (chkB_ok g2).2.1
  have hcut : cutE ((blksB l).map encB) (blksB (l.take i)).length ((blksB l).length - (blksB (l.take i)).length) = ((blksB l).drop (blksB (l.take i)).length).map encB := by
    unfold cutE
    rw [List.take_of_length_le (l := (blksB l).map encB) (by simp; omega), List.map_drop]
  clear hd he hgb bb
  generalize (blksB (l.take i)).length = p at *
  generalize totB (l.take i) = tp at *
  generalize blksB l = b at *
  generalize entGo 0 0 l = es at *
  generalize l[i] = x at *
  simp [resV, resHl, hne] at hG
  rw [List.map_drop] at hcut
  simp [go_sem, ir90, ixI, hx, hel, hi, encEnt, hp, hcut, hG, purse_eq, List.range_succ]
end Go.AM.R1
open Go Go.AM
namespace Go.AM.R1

theorem all_right_append {A B : List Run} : (A ++ B).all right = (A.all right && B.all right) := List.all_append
theorem sat18_spec (l : List Bk) (hg : Good 0 l) (hl : (blksB l).length ≤ 1000000) (lb le : Bool) (tick : Int) (ht : -9223372036854775808 ≤ tick ∧ tick ≤ 9223372036854775807) :
    call E (.func (.func 28) [] []) [.ptr 0 0, .lit (.int .i64 tick)] (ixH false lb le (blksB l) (entGo 0 0 l) (totB l))
      = some (if 0 ≤ tick ∧ tick < totB l then (.tup [.agg (encRun ((pick tick (allR l)).getD zeroRun)), .lit (.int .i64 1), .lit (.int .i64 0)], ixH false true le (blksB l) (entGo 0 0 l) (totB l))
        else (.tup [.agg (encRun zeroRun), .lit (.int .i64 0), .lit (.int .i64 10)], ixH false lb le (blksB l) (entGo 0 0 l) (totB l))) := by
  rw [call_func E E28]
  have hE := entry_spec l hg hl lb le tick ht
  have hln := good_len l 0 hg
  have hel := entGo_length l 0 0
  by_cases hc : 0 ≤ tick ∧ tick < totB l
  · rw [if_pos hc] at hE ⊢
    have hlt := entIx_lt l tick hc.1 hc.2
    obtain ⟨b1, b2⟩ := entIx_bounds l tick hc.1 hc.2
    have hb0 : blksB l ≠ [] := by
      intro q; rw [q] at hln
      have : l.length = 0 := by simp at hln; omega
      omega
    have he := entGo_get l 0 0 _ hlt
    simp only [Int.zero_add, Nat.zero_add] at he
    have hi' : entIx l tick < (entGo 0 0 l).length := by omega
    have hx : (entGo 0 0 l)[entIx l tick] = (totB (l.take (entIx l tick)), (blksB (l.take (entIx l tick))).length) := by simpa [List.getElem?_eq_getElem hi'] using he
    have hR := read_spec l hg hl lb le _ hlt
    obtain ⟨g2, g3, _⟩ := good_get l 0 _ hlt hg
    have gk := chkB_ok g2
    have hk := (take_succ_tot l _ hlt).1
    have htt := tot_take_le l (entIx l tick) hg
    have hne := gk.2.1
    have hA := at_spec l[entIx l tick].2 (by omega) (chkB_Ok g2) (tick - totB (l.take (entIx l tick))) (by omega) false false
    obtain ⟨r, hr⟩ := pick_some (l := l[entIx l tick].2) (t := tick - totB (l.take (entIx l tick))) (by omega) (by omega)
    have hat : atRun l[entIx l tick].2 (tick - totB (l.take (entIx l tick))) = (r, 0) := by
      unfold atRun
      rw [if_neg (by simp [gk.2.2.2.1]), if_neg (by omega), hr]; rfl
    rw [hat] at hA
    have w1 : IntKind.wrap .i64 (tick - totB (l.take (entIx l tick))) = tick - totB (l.take (entIx l tick)) := by
      have := good_tot l 0 (by omega) (by omega) hg
      rw [wrap64 (by omega) (by omega)]
    rw [pick_all hg hlt b1 b2, hr]
    rw [ixH_big hb0] at hE ⊢
    rw [ixH_big hb0]
    clear he hat hr
    generalize (blksB (l.take (entIx l tick))).length = p at *
    generalize totB (l.take (entIx l tick)) = tp at *
    generalize l[entIx l tick] = x at *
    generalize entIx l tick = i at *
    generalize entGo 0 0 l = es at *
    generalize blksB l = b at *
    generalize totB l = T at *
    simp [ixI, hel] at hE hR
    simp [encRun] at hA
    simp [go_sem, ir28, ixI, hE, hR, hx, hel, hlt, hA, w1, encEnt, encRun, purse_eq, List.range_succ]
  · rw [if_neg hc] at hE ⊢
    by_cases hb0 : blksB l = []
    · have hl0 : l = [] := by cases l with | nil => rfl | cons x r => rw [hb0] at hln; simp at hln
      subst hl0
      simp [ixH, hb0, entGo, totB, nilS] at hE
      simp [go_sem, ir28, ixH, hb0, hE, entGo, totB, nilS, purse_eq, encRun, zeroRun, List.range_succ]
    · rw [ixH_big hb0] at hE ⊢
      generalize entGo 0 0 l = es at *
      simp [ixI, hel] at hE
      simp [go_sem, ir28, ixI, hE, hel, purse_eq, encRun, zeroRun, List.range_succ]
end Go.AM.R1
open Go Go.AM
namespace Go.AM.R1

def cutB (l : List Bk) (a b : Int) : List Run × Int :=
  if a < 0 ∨ b < a ∨ totB l < b then ([], 10) else if a = b then ([], 0) else (joined [] (betweenGo a b 0 (allR l)), 0)
theorem expand_allR_len {l : List Bk} {t : Int} (g : Good t l) : ((expand (allR l)).length : Int) = totB l := by
  rw [expand_length _ fun r hr => by have := good_nonneg g r hr; omega, allR_sum]
theorem take_drop_mid {α : Type} (P A S : List α) {a b : Nat} (h1 : P.length ≤ a) (h2 : a ≤ b) (h3 : b ≤ P.length + A.length) :
    ((P ++ (A ++ S)).take b).drop a = (A.take (b - P.length)).drop (a - P.length) := by
  rw [List.take_append, List.take_of_length_le (show P.length ≤ b by omega), List.drop_append, List.drop_eq_nil_of_le h1, List.nil_append, List.take_append_of_le_length (by omega)]
/-- The blocks from one on. -/
def midB (l : List Bk) (f c : Nat) : List Bk := (l.drop f).take c
theorem mid_split (l : List Bk) (f c : Nat) : l = l.take f ++ (midB l f c ++ (l.drop f).drop c) := by
  unfold midB; rw [List.take_append_drop, List.take_append_drop]
theorem mid_good {l : List Bk} (hg : Good 0 l) (f c : Nat) : Good (totB (l.take f)) (midB l f c) := by
  have h := hg
  rw [mid_split l f c, good_append, good_append] at h
  have := h.2.1
  rwa [Int.zero_add] at this
theorem mid_tot {l : List Bk} {f c : Nat} (h : f + c ≤ l.length) : totB (midB l f c) = totB (l.take (f + c)) - totB (l.take f) := by
  have : l.take (f + c) = l.take f ++ midB l f c := by unfold midB; rw [List.take_add]
  rw [this, totB_append]; omega
theorem cut_mid {l : List Bk} (hg : Good 0 l) {f c : Nat} (hf : f + c ≤ l.length) {a b : Int} (h1 : totB (l.take f) ≤ a) (h2 : a ≤ b) (h3 : b ≤ totB (l.take (f + c))) :
    cutRuns (allR (midB l f c)) (a - totB (l.take f)) (b - totB (l.take f)) = (joined [] (betweenGo a b 0 (allR l)), 0) := by
  have hm := mid_good hg f c
  have ht := tot_take_le l f hg
  have hmt := mid_tot hf
  have hck := good_chk ht.1 ht.2 hm
  have hnn : ∀ r ∈ allR (midB l f c), 0 ≤ r.N := fun r hr => by have := good_nonneg hm r hr; omega
  have hnl : ∀ r ∈ allR l, 0 ≤ r.N := fun r hr => by have := good_nonneg hg r hr; omega
  unfold cutRuns
  rw [if_neg (by simp [hck]), if_neg (by rw [allR_sum]; omega)]
  congr 1
  rw [cut_law _ hnn, cut_law _ hnl]
  congr 1
  have e : expand (allR l) = expand (allR (l.take f)) ++ (expand (allR (midB l f c)) ++ expand (allR ((l.drop f).drop c))) := by
    conv => lhs; rw [mid_split l f c]
    rw [allR_append, allR_append, expand_append, expand_append]
  have l1 := expand_allR_len (good_take l 0 f hg)
  have l2 := expand_allR_len hm
  rw [e, take_drop_mid _ _ _ (by omega) (by omega) (by omega)]
  congr 1
  · omega
  · congr 1; omega
theorem cut18_loop (l : List Bk) (hg : Good 0 l) (hl : (blksB l).length ≤ 1000000) (le : Bool) (from_ to : Int) (f c : Nat) (hfc : f + c ≤ l.length) (k : List Item) (R : Option (AVal × Heap))
    (hk : ∀ τ, lk 0 τ = .ptr 0 0 → lk 1 τ = .lit (.int .i64 from_) → lk 2 τ = .lit (.int .i64 to) → lk 8 τ = .lit (.int .i64 f) → lk 12 τ = .own 4 (allR (midB l f c)).length 3 0 (allR (midB l f c)).length →
      finK 3 [.tmp 6, .tmp 7] (run E 3 k τ (ixI 0 true le (blksB l) (entGo 0 0 l) (totB l) ++ [.dead, .arr true false false 3 ((allR (midB l f c)).map encRun)])) = R) :
    ∀ (d i : Nat), i + d = c → 1 ≤ i →
   finK 3 [.tmp 6, .tmp 7] (run E 3 (.code L30_0 :: .inLoop [0, 1, 2, 8, 12, 54, 55] L30_0 :: .inBlock 1 :: k)
     [(0, .ptr 0 0), (1, .lit (.int .i64 from_)), (2, .lit (.int .i64 to)), (8, .lit (.int .i64 f)), (12, .own 4 (allR (midB l f i)).length 3 0 (allR (midB l f i)).length), (54, .lit (.int .i64 c)), (55, .lit (.int .i64 i))]
     (ixI 0 true le (blksB l) (entGo 0 0 l) (totB l) ++ [.dead, .arr true false false 3 ((allR (midB l f i)).map encRun)])) = R := by
  have hln := good_len l 0 hg
  intro d
  induction d with
  | zero =>
    intro i hi h1
    have : i = c := by omega
    subst this
    simp [go_sem, run_codeL E L30_0.eq_1]
    exact hk _ rfl rfl rfl rfl rfl
  | succ d ih =>
    intro i hi h1
    have hlt : i < c := by omega
    have hfi : f + i < l.length := by omega
    have ih2 := ih (i + 1) (by omega) (by omega)
    have hR := read_spec l hg hl true le (f + i) hfi
    have hm : allR (midB l f (i + 1)) = allR (midB l f i) ++ l[f + i].2 := by
      have : midB l f (i + 1) = midB l f i ++ [l[f + i]] := by
        unfold midB
        rw [List.take_succ_eq_append_getElem (by simp; omega)]
        simp
      rw [this, allR_append]; simp [allR]
    rw [hm] at ih2
    obtain ⟨g2, g3, _⟩ := good_get l 0 _ hfi hg
    have hne := (chkB_ok g2).2.1
    have hr := (rowsOk_map (sz := 3) (f := encRun) (fun _ => rfl) l[f + i].2 : _)
    have hrl := runs_le l
    have hml : (allR (midB l f i)).length + l[f + i].2.length ≤ 1000000 := by
      have h2 : allR l = allR (l.take f) ++ (allR (midB l f (i + 1)) ++ allR ((l.drop f).drop (i + 1))) := by
        conv => lhs; rw [mid_split l f (i + 1)]
        rw [allR_append, allR_append]
      have := congrArg List.length h2
      rw [hm] at this
      simp only [List.length_append] at this
      omega
    have hbb : ¬ (70368744177664 < ((allR (midB l f i)).length + l[f + i].2.length) * 24) := by omega
    have w1 : IntKind.wrap .i64 ((f : Int) + (i : Int)) = ((f + i : Nat) : Int) := by rw [wrap64 (by omega) (by omega)]; omega
    have wi := wrapIdx (i := i) (by omega)
    generalize allR (midB l f i) = A at *
    generalize l[f + i] = x at *
    clear hm
    generalize blksB l = b at *
    generalize entGo 0 0 l = es at *
    generalize totB l = T at *
    simp [ixI] at hR ih2
    simp [go_sem, run_codeL E L30_0.eq_1, hlt, ixI, w1, wi, hR, hr, hbb, hne, purse_eq]
    rw [run_inLoop']
    simp [go_sem, purse_eq, List.range_succ]
    exact ih2
theorem scut18_spec (l : List Bk) (hg : Good 0 l) (hl : (blksB l).length ≤ 1000000) (lb le : Bool) (a b : Int) (ha : -9223372036854775808 ≤ a ∧ a ≤ 9223372036854775807) (hb : -9223372036854775808 ≤ b ∧ b ≤ 9223372036854775807) :
    ∃ lb', call E (.func (.func 30) [] []) [.ptr 0 0, .lit (.int .i64 a), .lit (.int .i64 b)] (ixH false lb le (blksB l) (entGo 0 0 l) (totB l))
      = some (.tup [resV (ixH false lb le (blksB l) (entGo 0 0 l) (totB l)).length ((cutB l a b).1.map encRun), .lit (.int .i64 (cutB l a b).2)], ixH false lb' le (blksB l) (entGo 0 0 l) (totB l) ++ resH [] ((cutB l a b).1.map encRun)) := by
  have hln := good_len l 0 hg
  have hel := entGo_length l 0 0
  have hgt := good_tot l 0 (by omega) (by omega) hg
  by_cases h1 : a < 0 ∨ b < a ∨ totB l < b
  · refine ⟨lb, ?_⟩
    rw [call_func E E30]
    have e : cutB l a b = ([], 10) := by unfold cutB; rw [if_pos h1]
    rw [e]
    by_cases hb0 : blksB l = []
    · have hl0 : l = [] := by cases l with | nil => rfl | cons x r => rw [hb0] at hln; simp at hln
      subst hl0
      simp only [totB] at h1
      by_cases h2 : a < 0
      · simp [go_sem, ir30, ixH, hb0, entGo, totB, nilS, purse_eq, resV, resH, h2, List.range_succ]
      · by_cases h3 : b < a
        · simp [go_sem, ir30, ixH, hb0, entGo, totB, nilS, purse_eq, resV, resH, h2, h3, List.range_succ]
        · have h4 : 0 < b := by omega
          simp [go_sem, ir30, ixH, hb0, entGo, totB, nilS, purse_eq, resV, resH, h2, h3, h4, List.range_succ]
    · rw [ixH_big hb0]
      by_cases h2 : a < 0
      · simp [go_sem, ir30, ixI, nilS, purse_eq, resV, resH, h2, List.range_succ]
      · by_cases h3 : b < a
        · simp [go_sem, ir30, ixI, nilS, purse_eq, resV, resH, h2, h3, List.range_succ]
        · have h4 : totB l < b := by omega
          simp [go_sem, ir30, ixI, nilS, purse_eq, resV, resH, h2, h3, h4, List.range_succ]
  · have h2 : ¬ a < 0 := by omega
    have h3 : ¬ b < a := by omega
    have h4 : ¬ totB l < b := by omega
    by_cases h5 : a = b
    · refine ⟨lb, ?_⟩
      rw [call_func E E30]
      have e : cutB l a b = ([], 0) := by unfold cutB; rw [if_neg h1, if_pos h5]
      rw [e]
      subst h5
      by_cases hb0 : blksB l = []
      · have hl0 : l = [] := by cases l with | nil => rfl | cons x r => rw [hb0] at hln; simp at hln
        subst hl0
        simp only [totB] at h4
        simp [go_sem, ir30, ixH, hb0, entGo, totB, nilS, purse_eq, resV, resH, h2, h3, h4, List.range_succ]
      · rw [ixH_big hb0]
        simp [go_sem, ir30, ixI, nilS, purse_eq, resV, resH, h2, h3, h4, List.range_succ]
    · refine ⟨true, ?_⟩
      rw [call_func E E30]
      have e : cutB l a b = (joined [] (betweenGo a b 0 (allR l)), 0) := by unfold cutB; rw [if_neg h1, if_neg h5]
      have hb0 : blksB l ≠ [] := by
        intro q; rw [q] at hln
        have : l = [] := by cases l with | nil => rfl | cons x r => simp at hln
        subst this; simp [totB] at h4; omega
      have E1 := entry_spec l hg hl lb le a ha
      have E2 := entry_spec l hg hl lb le (b - 1) (by omega)
      have f1 := entIx_lt l a (by omega) (by omega)
      have f2 := entIx_lt l (b - 1) (by omega) (by omega)
      obtain ⟨b1, b2⟩ := entIx_bounds l a (by omega) (by omega)
      obtain ⟨b3, b4⟩ := entIx_bounds l (b - 1) (by omega) (by omega)
      have fle : entIx l a ≤ entIx l (b - 1) := by
        apply Classical.byContradiction
        intro hn
        have := tot_mono hg (show entIx l (b - 1) + 1 ≤ entIx l a by omega)
        omega
      rw [if_pos (show 0 ≤ a ∧ a < totB l by omega)] at E1
      rw [if_pos (show 0 ≤ b - 1 ∧ b - 1 < totB l by omega)] at E2
      generalize hf : entIx l a = f at *
      generalize hgg : entIx l (b - 1) = g at *
      obtain ⟨c, hc⟩ : ∃ c, g = f + c := ⟨g - f, by omega⟩
      have hM := cut_mid hg (f := f) (c := c + 1) (by omega) (a := a) (b := b) b1 (by omega) (by rw [show f + (c + 1) = g + 1 by omega]; omega)
      rw [← e] at hM
      have hm := mid_good hg f (c + 1)
      have htf := tot_take_le l f hg
      have hrl := runs_le l
      have hml : (allR (midB l f (c + 1))).length ≤ (allR l).length := by
        have h2 : allR l = allR (l.take f) ++ (allR (midB l f (c + 1)) ++ allR ((l.drop f).drop (c + 1))) := by
          conv => lhs; rw [mid_split l f (c + 1)]
          rw [allR_append, allR_append]
        have := congrArg List.length h2
        simp only [List.length_append] at this
        omega
      have hC := cut_spec (allR (midB l f (c + 1))) (by omega) (good_ok htf.1 htf.2 hm) (a - totB (l.take f)) (b - totB (l.take f)) false false
      rw [hM] at hC
      have he := entGo_get l 0 0 f f1
      simp only [Int.zero_add, Nat.zero_add] at he
      have hi' : f < (entGo 0 0 l).length := by omega
      have hx : (entGo 0 0 l)[f] = (totB (l.take f), (blksB (l.take f)).length) := by simpa [List.getElem?_eq_getElem hi'] using he
      have hR := read_spec l hg hl lb le f f1
      have w1 : IntKind.wrap .i64 (b - 1) = b - 1 := by rw [wrap64 (by omega) (by omega)]
      have w2 : IntKind.wrap .i64 ((g : Int) - (f : Int)) = (c : Int) := by rw [wrap64 (by omega) (by omega)]; omega
      have w3 : IntKind.wrap .i64 ((c : Int) + 1) = ((c + 1 : Nat) : Int) := by rw [wrap64 (by omega) (by omega)]; omega
      have w4 : IntKind.wrap .i64 (f : Int) = (f : Int) := wrap64 (by omega) (by omega)
      have w5 : IntKind.wrap .i64 1 = 1 := rfl
      have w6 : IntKind.wrap .i64 (a - totB (l.take f)) = a - totB (l.take f) := wrap64 (by omega) (by omega)
      have w7 : IntKind.wrap .i64 (b - totB (l.take f)) = b - totB (l.take f) := wrap64 (by omega) (by omega)
      have hmid1 : allR (midB l f 1) = l[f].2 := by
        unfold midB
        rw [List.drop_eq_getElem_cons f1, List.take_succ_cons, List.take_zero, allR_cons]
        exact List.append_nil _
      obtain ⟨g2, g3, _⟩ := good_get l 0 _ f1 hg
      have hne := (chkB_ok g2).2.1
      have h4096 := (chkB_ok g2).2.2.1
      have hr := (rowsOk_map (sz := 3) (f := encRun) (fun _ => rfl) l[f].2 : _)
      have hbb : ¬ (70368744177664 < l[f].2.length * 24) := by omega
      rw [ixH_big hb0]
      rw [ixH_big hb0]
      simp only [ixH_big hb0] at E1 E2
      have hlen3 : (ixI 0 lb le (blksB l) (entGo 0 0 l) (totB l)).length = 3 := rfl
      rw [hlen3]
      have hL := cut18_loop l hg hl le a b f (c + 1) (by omega) [.code (.seq (.reg [⟨none, some 66, .copy (.t 0)⟩, ⟨none, some 67, .nilCheck (.t 66)⟩, ⟨none, some 68, .fieldA 1 (.t 67)⟩, ⟨none, some 69, .load false 1 (.t 68)⟩, ⟨none, some 70, .copy (.t 8)⟩, ⟨none, some 71, .idxS 2 (.t 69) (.t 70)⟩, ⟨none, some 72, .fieldA 0 (.t 71)⟩, ⟨none, some 73, .load false 1 (.t 72)⟩, ⟨none, some 14, .copy (.t 73)⟩] [] [])
          (.seq (.reg [⟨none, some 74, .copy (.t 12)⟩, ⟨none, some 75, .copy (.t 1)⟩, ⟨none, some 76, .copy (.t 14)⟩, ⟨none, some 77, .bin .sub (.t 75) (.t 76)⟩, ⟨none, some 78, .copy (.t 2)⟩, ⟨none, some 79, .copy (.t 14)⟩, ⟨none, some 80, .bin .sub (.t 78) (.t 79)⟩, ⟨none, some 81, .call 92 [.t 74, .t 77, .t 80]⟩, ⟨none, some 82, .extract (.t 81) 0⟩, ⟨none, some 83, .extract (.t 81) 1⟩, ⟨none, some 6, .copy (.t 82)⟩, ⟨none, some 7, .copy (.t 83)⟩] [] []) .ret))]
        (some (.tup [resV 3 ((cutB l a b).1.map encRun), .lit (.int .i64 (cutB l a b).2)], ixI 0 true le (blksB l) (entGo 0 0 l) (totB l) ++ resH [] ((cutB l a b).1.map encRun))) ?_ c 1 (by omega) (by omega)
      · rw [hmid1] at hL
        generalize some (AVal.tup _, _) = Q at hL ⊢
        clear hC hM e he hx hmid1 hml hrl hm w6 w7 b1 b2 b3 b4 htf hgt
        generalize l[f] = x at *
        generalize blksB l = B at *
        generalize entGo 0 0 l = es at *
        generalize totB l = T at *
        simp [ixI] at E1 E2 hR hL
        simp at w3
        simp [go_sem, ir30, ixI, h2, h3, h4, h5, E1, E2, w1, w2, w3, purse_eq]
        rw [run_inLoop']
        simp [go_sem, purse_eq, List.range_succ]
        have h01 : (0 : Int) < (c : Int) + 1 := by omega
        simp [go_sem, run_codeL E L30_0.eq_1, h01, w4, w5, hR, hr, hbb, hne, purse_eq]
        rw [run_inLoop']
        simp [go_sem, purse_eq, List.range_succ]
        exact hL
      · intro τ t0 t1 t2 t8 t12
        generalize cutB l a b = S at *
        clear e hM hmid1
        generalize totB (l.take f) = tp at *
        generalize allR (midB l f (c + 1)) = A at *
        generalize blksB l = B at *
        generalize entGo 0 0 l = es at *
        generalize totB l = T at *
        by_cases hS : S.1 = []
        · simp [resV, resH, hS] at hC
          simp [go_sem, t0, t1, t2, t8, t12, ixI, hx, hel, f1, w6, w7, hC, encEnt, resV, resH, hS, purse_eq, List.range_succ, nilS]
        · simp [resV, resH, hS] at hC
          simp [go_sem, t0, t1, t2, t8, t12, ixI, hx, hel, f1, w6, w7, hC, encEnt, resV, resH, hS, purse_eq, List.range_succ, nilS]
end Go.AM.R1
open Go Go.AM
namespace Go.AM.R1

end Go.AM.R1
open Go Go.AM
namespace Go.AM.R1
theorem blks_nil2 {l : List Bk} {t : Int} (h : Good t l) : blksB l = [] ↔ l = [] := by
  constructor
  · intro q
    have := good_len l t h
    rw [q] at this
    cases l with | nil => rfl | cons x r => simp at this
  · rintro rfl; rfl
theorem ent_nil2 (l : List Bk) (t : Int) (p : Nat) : entGo t p l = [] ↔ l = [] := by cases l <;> simp [entGo]
theorem cutB_ok {l : List Bk} (hg : Good 0 l) {a b : Int} (h : 0 ≤ a ∧ a ≤ b ∧ b ≤ totB l) : (cutB l a b).2 = 0 ∧ (cutB l a b).1 = joined [] (((expand (allR l)).take b.toNat).drop a.toNat) := by
  have hck := good_chk (by omega) (by omega) hg
  have h1 : ∀ r ∈ allR l, 0 ≤ r.N := fun r hr => by have := (chk_right hck).1 r hr; omega
  unfold cutB
  rw [if_neg (by omega)]
  by_cases he : a = b
  · rw [if_pos he, he, List.drop_eq_nil_of_le (by simp; omega)]; exact ⟨rfl, rfl⟩
  · rw [if_neg he, cut_law _ h1]; exact ⟨rfl, rfl⟩
theorem expand_ones {l : List Run} (h : ∀ r ∈ l, r.N = 1) : expand l = l := by
  induction l with
  | nil => rfl
  | cons r l ih =>
    have hr := h r (by simp)
    rw [expand_cons, ih fun x hx => h x (by simp [hx]), hr]
    cases r; simp at hr; subst hr; rfl
theorem cutB_expand {l : List Bk} (hg : Good 0 l) {a b : Int} (h : 0 ≤ a ∧ a ≤ b ∧ b ≤ totB l) : expand (cutB l a b).1 = ((expand (allR l)).take b.toNat).drop a.toNat := by
  rw [(cutB_ok hg h).2, expand_joined _ [] (by simp)]
  rw [expand_ones (fun r hr => expand_mem (List.mem_of_mem_take (List.mem_of_mem_drop hr)))]
  simp [expand]
theorem cutB_whole {l : List Bk} (hg : Good 0 l) : cutB l 0 (totB l) = (joined [] (allR l), 0) := by
  have hgt := good_tot l 0 (by omega) (by omega) hg
  have h := cutB_ok hg (a := 0) (b := totB l) (by omega)
  have hl := expand_allR_len hg
  rw [List.take_of_length_le (by omega)] at h
  have e := joined_expand (allR l) []
  have h2 : (cutB l 0 (totB l)).1 = joined [] (allR l) := by rw [h.2]; simpa using e
  exact Prod.ext h2 h.1
/-- Three parts joined are all. -/
theorem cutB_three {l : List Bk} (hg : Good 0 l) {a b : Int} (h : 0 ≤ a ∧ a ≤ b ∧ b ≤ totB l) : joined [] ((cutB l 0 a).1 ++ (cutB l a b).1 ++ (cutB l b (totB l)).1) = joined [] (allR l) := by
  have hl := expand_allR_len hg
  rw [← joined_expand (_ ++ _), expand_append, expand_append, cutB_expand hg (by omega), cutB_expand hg h, cutB_expand hg (by omega)]
  rw [List.take_of_length_le (l := expand (allR l)) (i := (totB l).toNat) (by omega)]
  have e : ((expand (allR l)).take a.toNat).drop (0 : Int).toNat ++ ((expand (allR l)).take b.toNat).drop a.toNat ++ (expand (allR l)).drop b.toNat = expand (allR l) := by
    rw [show (0 : Int).toNat = 0 from rfl, List.drop_zero]
    have : (expand (allR l)).take a.toNat = ((expand (allR l)).take b.toNat).take a.toNat := by rw [List.take_take, Nat.min_eq_left (by omega)]
    rw [this, List.take_append_drop, List.take_append_drop]
  rw [e, joined_expand]
theorem cutB_len {l : List Bk} (hg : Good 0 l) (a b : Int) : (cutB l a b).1.length ≤ (allR l).length := by
  unfold cutB
  split
  · simp
  · split
    · simp
    · have h1 := joined_length (betweenGo a b 0 (allR l)) []
      have h2 := between_length a b (allR l) 0
      simp at h1
      simp only []
      omega
theorem cutB_ne {l : List Bk} (hg : Good 0 l) {a b : Int} (h : 0 ≤ a ∧ a < b ∧ b ≤ totB l) : (cutB l a b).1 ≠ [] := by
  intro q
  have h1 := cutB_expand hg (a := a) (b := b) (by omega)
  have hl := expand_allR_len hg
  rw [q, show expand ([] : List Run) = [] from rfl] at h1
  have := congrArg List.length h1
  simp only [List.length_nil, List.length_drop, List.length_take] at this
  omega
theorem cutB_N {l : List Bk} (hg : Good 0 l) {a b : Int} (h : 0 ≤ a ∧ a ≤ b ∧ b ≤ totB l) : ∀ r ∈ (cutB l a b).1, 1 ≤ r.N ∧ r.N ≤ 1073741824 := by
  have hgt := good_tot l 0 (by omega) (by omega) hg
  have e := cutB_expand hg h
  have hl := expand_allR_len hg
  have h1 : ∀ r ∈ (cutB l a b).1, 1 ≤ r.N := by
    rw [(cutB_ok hg h).2]
    exact (tidy_joined _ [] ⟨by simp, by simp⟩).1
  have h2 := expand_length (cutB l a b).1 (fun r hr => by have := h1 r hr; omega)
  have h3 : sumN (cutB l a b).1 ≤ totB l := by
    rw [← h2, e]
    simp only [List.length_drop, List.length_take]
    omega
  intro r hr
  have := le_sum (fun r hr => by have := h1 r hr; omega) r hr
  exact ⟨h1 r hr, by omega⟩
theorem posSum_append : ∀ (A B : List Run), posSum (A ++ B) = posSum A + posSum B
  | [], B => by simp [posSum]
  | r :: A, B => by
    rw [List.cons_append, show posSum (r :: (A ++ B)) = (if 0 < r.N then r.N else 0) + posSum (A ++ B) from rfl, posSum_append A B, show posSum (r :: A) = (if 0 < r.N then r.N else 0) + posSum A from rfl]
    omega
end Go.AM.R1
open Go Go.AM Go.Proofs
namespace Go.AM.R1
theorem awake18 : call E (.func (.func 15) [] []) [] [] = some (.lit (.bool true), []) :=
  (call_iff E).2 ⟨3000, by kernel_rfl⟩
end Go.AM.R1
open Go Go.AM Go.Proofs
namespace Go.AM.R1
theorem nil_find (tick : Int) : call E (.func (.func 27) [] []) [.lit (.pointer none), .lit (.int .i64 tick)] [] = some (.tup [.lit (.int .i64 0), .lit (.int .i64 2)], []) := by
  have he : call E (.func (.func 89) [] []) [.lit (.pointer none), .lit (.int .i64 tick)] [] = some (.tup [.lit (.int .i64 0), .lit (.int .i64 2)], []) := by
    rw [call_func E E89]
    simp [go_sem, ir89, purse_eq, List.range_succ]
  rw [call_func E E27]
  simp [go_sem, ir27, he, purse_eq, List.range_succ]
theorem nil_at (tick : Int) : call E (.func (.func 28) [] []) [.lit (.pointer none), .lit (.int .i64 tick)] [] = some (.tup [.agg (encRun zeroRun), .lit (.int .i64 0), .lit (.int .i64 2)], []) := by
  have he : call E (.func (.func 89) [] []) [.lit (.pointer none), .lit (.int .i64 tick)] [] = some (.tup [.lit (.int .i64 0), .lit (.int .i64 2)], []) := by
    rw [call_func E E89]
    simp [go_sem, ir89, purse_eq, List.range_succ]
  rw [call_func E E28]
  simp [go_sem, ir28, he, purse_eq, List.range_succ, encRun, zeroRun]
theorem nil_cut (a b : Int) : call E (.func (.func 30) [] []) [.lit (.pointer none), .lit (.int .i64 a), .lit (.int .i64 b)] [] = some (.tup [nilS, .lit (.int .i64 2)], []) := by
  rw [call_func E E30]
  simp [go_sem, ir30, purse_eq, List.range_succ, nilS]
theorem nil_entries : call E (.func (.func 21) [] []) [.lit (.pointer none)] [] = some (nilS, []) := by
  rw [call_func E E21]
  simp [go_sem, ir21, purse_eq, List.range_succ, nilS]
theorem nil_put : call E (.func (.func 19) [] []) [.lit (.pointer none)] [] = some (nilS, []) := by
  rw [call_func E E19]
  simp [go_sem, ir19, purse_eq, List.range_succ, nilS]
theorem ixH_cons (nl lb le : Bool) (b : List Nat) (es : List Ent) (t : Int) : ∃ e r, ixH nl lb le b es t = e :: r := by
  unfold ixH
  split
  · split
    · exact ⟨_, _, rfl⟩
    · exact ⟨_, _, rfl⟩
  · exact ⟨_, _, rfl⟩
theorem zero_loop (n : Nat) (hn : n ≤ 1000000) (v1 : Int) (nlc fuc : Bool) (c B : List Nat) (es : List Ent) (k' : Nat) (T : Int) (lb : Bool) (q1 q2 q3 v20 v21 : Int) (I : List Nat) (k : List Item) (R : Option (AVal × Heap))
    (hk : ∀ τ (Z : List Nat), lk 1 τ = .lit (.int .i64 v1) → lk 2 τ = .imm nlc fuc true (c.map encB) → lk 17 τ = .ptr 3 0 → lk 19 τ = .ptr 6 0 → lk 20 τ = .lit (.int .i64 v20) → lk 21 τ = .lit (.int .i64 v21) → lk 22 τ = .own 7 I.length 1 0 I.length →
      finK 0 [.tmp 6] (run E 0 k τ [.dead, .dead, .arr true false false 1 (Z.map encB), .box [.own 4 B.length 1 0 B.length, .own 5 k' 2 0 k', .lit (.int .i64 T)], .arr true lb false 1 (B.map encB), .arr true false false 2 (es.map encEnt), .box [.lit (.int .i64 q1), .lit (.int .i64 q2), .lit (.int .u32 q3)], .arr true false false 1 (I.map encB)]) = R) :
    ∀ (d i : Nat) (Z : List Nat), i + d = n → Z.length = n →
   finK 0 [.tmp 6] (run E 0 (.code L11_0 :: .inLoop [1, 2, 16, 17, 19, 20, 21, 22, 23] L11_0 :: .inBlock 0 :: k)
     [(1, .lit (.int .i64 v1)), (2, .imm nlc fuc true (c.map encB)), (16, .own 2 n 1 0 n), (17, .ptr 3 0), (19, .ptr 6 0), (20, .lit (.int .i64 v20)), (21, .lit (.int .i64 v21)), (22, .own 7 I.length 1 0 I.length), (23, .lit (.int .i64 i))]
     [.dead, .dead, .arr true false false 1 (Z.map encB), .box [.own 4 B.length 1 0 B.length, .own 5 k' 2 0 k', .lit (.int .i64 T)], .arr true lb false 1 (B.map encB), .arr true false false 2 (es.map encEnt), .box [.lit (.int .i64 q1), .lit (.int .i64 q2), .lit (.int .u32 q3)], .arr true false false 1 (I.map encB)])
   = R := by
  intro d
  induction d with
  | zero =>
    intro i Z hi hZ
    have : i = n := by omega
    subst this
    simp [go_sem, run_codeL E L11_0.eq_1]
    exact hk _ Z rfl rfl rfl rfl rfl rfl rfl
  | succ d ih =>
    intro i Z hi hZ
    have hlt : i < n := by omega
    have wi := wrapIdx (i := i) (by omega)
    have ih2 := ih (i + 1) (Z.set i 0) (by omega) (by simpa using hZ)
    rw [List.map_set] at ih2
    simp [encB] at ih2
    simp [go_sem, run_codeL E L11_0.eq_1, hlt, hZ, wi, purse_eq, encB, List.getElem?_eq_getElem (show i < Z.length by omega)]
    rw [run_inLoop']
    simp [go_sem, purse_eq, List.range_succ]
    exact ih2
theorem told_loop (n : Nat) (hn : n ≤ 1000000) (v1 : Int) (nlc fuc : Bool) (c B : List Nat) (es : List Ent) (k' : Nat) (T : Int) (lb : Bool) (q1 q2 q3 v20 v21 : Int) (I : List Nat) (k : List Item) (R : Option (AVal × Heap))
    (hk : ∀ τ (Z : List (List AVal)), lk 1 τ = .lit (.int .i64 v1) → lk 2 τ = .imm nlc fuc true (c.map encB) → lk 17 τ = .ptr 3 0 → lk 19 τ = .ptr 6 0 → lk 20 τ = .lit (.int .i64 v20) → lk 21 τ = .lit (.int .i64 v21) → lk 22 τ = .own 7 I.length 1 0 I.length →
      finK 0 [.tmp 6] (run E 0 k τ [.dead, .dead, .dead, .box [.own 4 B.length 1 0 B.length, .own 5 k' 2 0 k', .lit (.int .i64 T)], .arr true lb false 1 (B.map encB), .arr true true false 2 (es.map encEnt), .box [.lit (.int .i64 q1), .lit (.int .i64 q2), .lit (.int .u32 q3)], .arr true false false 1 (I.map encB), .arr true false false 2 Z]) = R) :
    ∀ (d i : Nat) (Z : List (List AVal)), i + d = n → Z.length = n → (∀ z ∈ Z, z.length = 2) →
   finK 0 [.tmp 6] (run E 0 (.code L11_1 :: .inLoop [1, 2, 17, 19, 20, 21, 22, 24, 25] L11_1 :: .inBlock 2 :: k)
     [(1, .lit (.int .i64 v1)), (2, .imm nlc fuc true (c.map encB)), (17, .ptr 3 0), (19, .ptr 6 0), (20, .lit (.int .i64 v20)), (21, .lit (.int .i64 v21)), (22, .own 7 I.length 1 0 I.length), (24, .own 8 n 2 0 n), (25, .lit (.int .i64 i))]
     [.dead, .dead, .dead, .box [.own 4 B.length 1 0 B.length, .own 5 k' 2 0 k', .lit (.int .i64 T)], .arr true lb false 1 (B.map encB), .arr true true false 2 (es.map encEnt), .box [.lit (.int .i64 q1), .lit (.int .i64 q2), .lit (.int .u32 q3)], .arr true false false 1 (I.map encB), .arr true false false 2 Z])
   = R := by
  intro d
  induction d with
  | zero =>
    intro i Z hi hZ hz
    have : i = n := by omega
    subst this
    simp [go_sem, run_codeL E L11_1.eq_1]
    exact hk _ Z rfl rfl rfl rfl rfl rfl rfl
  | succ d ih =>
    intro i Z hi hZ hz
    have hlt : i < n := by omega
    have wi := wrapIdx (i := i) (by omega)
    have hzl := hz _ (List.getElem_mem (show i < Z.length by omega))
    have hzd : List.drop 2 Z[i] = [] := List.drop_eq_nil_of_le (by omega)
    have ih2 := ih (i + 1) (Z.set i [.lit (.int .i64 (-5)), .lit (.int .i64 (-5))]) (by omega) (by simpa using hZ) (by
      intro z h
      rcases List.mem_or_eq_of_mem_set h with h | rfl
      · exact hz z h
      · rfl)
    simp at ih2
    simp [go_sem, run_codeL E L11_1.eq_1, hlt, hZ, wi, purse_eq, List.getElem?_eq_getElem (show i < Z.length by omega), hzl, hzd]
    rw [run_inLoop']
    simp [go_sem, purse_eq, List.range_succ]
    exact ih2

set_option maxHeartbeats 4000000 in
theorem seekOwn_spec (rows : List RowV) (hl : (∀ r ∈ rows, r.Fit) ∧ rows.length ≤ 9223372036854775807) (nl fu : Bool) (tick : Int) (ht : -9223372036854775808 ≤ tick ∧ tick ≤ 9223372036854775807) (c : List Nat) (hc : ∀ x ∈ c, x < 256) (nlc fuc : Bool) (hnc : nlc = false ∨ c = []) :
    call E (.func (.func 11) [] []) [.imm nl fu true (rows.map encRow), .lit (.int .i64 tick), .imm nlc fuc true (c.map encB)] [] = some (.lit (.bool true), []) := by
  rw [call_func E E11]
  have nF := nil_find tick
  have nA := nil_at tick
  have nC := nil_cut 0 0
  have nE := nil_entries
  have nP := nil_put
  simp [nilS, encRun, zeroRun] at nA nC nE nP
  by_cases hcl : 300 < c.length
  · have hcl' : (300 : Int) < (c.length : Int) := by omega
    simp [go_sem, ir11, nF, nA, nC, nE, nP, hcl', awake18, purse_eq, List.range_succ, encRun, zeroRun]
  have hcl' : ¬ (300 : Int) < (c.length : Int) := by omega
  have hA := made_spec rows hl.2 hl.1 nl fu
  have gA := madeL_good hl.1
  have lA := madeGo_bytes ((rows.take 20).map RowV.l) 0
  rw [show madeGo 0 ((rows.take 20).map RowV.l) = madeL rows from rfl] at lA
  simp only [List.length_map, List.length_take] at lA
  unfold madeB at hA
  generalize madeL rows = l at *
  have bA := blksB_byte l 0 gA
  have sA := scanB_put gA
  have nA' := good_len l 0 gA
  have oA := sof_spec (blksB l) bA (by omega) false (blksB l).isEmpty (.inl rfl)
  rw [sA] at oA
  simp only [if_true] at oA
  have hel := entGo_length l 0 0
  obtain ⟨r0, rd, er, lb1, tA1, tA2⟩ : ∃ (r0 : Run) (rd er : Int) (lb1 : Bool),
      call E (.func (.func 28) [] []) [.ptr 0 0, .lit (.int .i64 tick)] (ixH false false false (blksB l) (entGo 0 0 l) (totB l)) = some (.tup [.agg (encRun r0), .lit (.int .i64 rd), .lit (.int .i64 er)], ixH false lb1 false (blksB l) (entGo 0 0 l) (totB l)) ∧
      call E (.func (.func 28) [] []) [.ptr 0 0, .lit (.int .i64 tick)] (ixH false lb1 true (blksB l) (entGo 0 0 l) (totB l)) = some (.tup [.agg (encRun r0), .lit (.int .i64 rd), .lit (.int .i64 er)], ixH false lb1 true (blksB l) (entGo 0 0 l) (totB l)) := by
    by_cases hr : 0 ≤ tick ∧ tick < totB l
    · refine ⟨(pick tick (allR l)).getD zeroRun, 1, 0, true, ?_, ?_⟩
      · have := sat18_spec l gA (by omega) false false tick ht
        rw [if_pos hr] at this
        exact this
      · have := sat18_spec l gA (by omega) true true tick ht
        rw [if_pos hr] at this
        exact this
    · refine ⟨zeroRun, 0, 10, false, ?_, ?_⟩
      · have := sat18_spec l gA (by omega) false false tick ht
        rw [if_neg hr] at this
        exact this
      · have := sat18_spec l gA (by omega) false true tick ht
        rw [if_neg hr] at this
        exact this
  have pA1 := sput_spec (blksB l) (by omega) l gA rfl false lb1 false
  have pA2 := sput_spec (blksB l) (by omega) l gA rfl false lb1 true
  have eA := sents_spec (blksB l) (entGo 0 0 l) (by omega) (by rw [ent_nil2, blks_nil2 gA]) (totB l) false lb1 false
  have iA := idxB_len l gA (by omega)
  have sI := same13_spec (idxB l) (idxB l) (by omega) false false false false
  simp only [decide_true] at sI
  have kC := scan_spec c hc (by omega) nlc fuc hnc
  have gC := sget_spec (idxB l) (idxB_byte l) (by omega) false false (.inl rfl) c hc (by omega) nlc fuc hnc
  unfold getX at gC
  rw [if_pos (idxB_open l)] at gC
  -- what is got of the other bytes
  obtain ⟨e0, r1, hix⟩ := ixH_cons nlc false false c (entGo 0 0 (scanB c).1) (totB (scanB c).1)
  rw [hix] at gC
  generalize hsc : scanB c = sc at *
  by_cases hl0 : l = []
  · have hB : blksB l = [] := by rw [hl0]; rfl
    have hE : entGo 0 0 l = [] := by rw [hl0]; rfl
    have hT : totB l = 0 := by rw [hl0]; rfl
    generalize idxB l = I at *
    simp only [hB, hE, hT] at hA oA tA1 tA2 pA1 pA2 eA
    simp [ixH, nilS, encRun, entV, entH] at hA oA tA1 tA2 pA1 pA2 eA
    simp [go_sem, ir11, nF, nA, nC, nE, nP, hcl', hA, oA, tA1, pA1, purse_eq, List.range_succ, encRun, zeroRun, nilS]
    rw [run_inLoop']
    simp [go_sem, purse_eq, List.range_succ]
    simp [go_sem, run_codeL E L11_0.eq_1, eA, purse_eq, List.range_succ, nilS]
    rw [run_inLoop']
    simp [go_sem, purse_eq, List.range_succ]
    by_cases h1 : sc.2.1 = c.length
    · by_cases h2 : idxB sc.1 = I
      · rw [if_pos h1, if_pos h2] at gC
        by_cases h3 : sc.1 = []
        · simp [bkV, bkH, h3, nilS] at kC
          simp [go_sem, run_codeL E L11_1.eq_1, tA2, pA2, sI, kC, gC, h1, awake18, purse_eq, List.range_succ, nilS, encRun]
        · simp [bkV, bkH, h3, nilS] at kC
          simp [go_sem, run_codeL E L11_1.eq_1, tA2, pA2, sI, kC, gC, h1, awake18, purse_eq, List.range_succ, nilS, encRun]
      · rw [if_pos h1, if_neg h2] at gC
        by_cases h3 : sc.1 = []
        · simp [bkV, bkH, h3, nilS] at kC
          simp [go_sem, run_codeL E L11_1.eq_1, tA2, pA2, sI, kC, gC, h1, awake18, purse_eq, List.range_succ, nilS, encRun]
        · simp [bkV, bkH, h3, nilS] at kC
          simp [go_sem, run_codeL E L11_1.eq_1, tA2, pA2, sI, kC, gC, h1, awake18, purse_eq, List.range_succ, nilS, encRun]
    · rw [if_neg h1] at gC
      have h1' : ¬ (sc.2.1 : Int) = (c.length : Int) := by omega
      by_cases h3 : sc.1 = []
      · simp [bkV, bkH, h3, nilS] at kC
        simp [go_sem, run_codeL E L11_1.eq_1, tA2, pA2, sI, kC, gC, h1, h1', awake18, purse_eq, List.range_succ, nilS, encRun]
      · simp [bkV, bkH, h3, nilS] at kC
        simp [go_sem, run_codeL E L11_1.eq_1, tA2, pA2, sI, kC, gC, h1, h1', awake18, purse_eq, List.range_succ, nilS, encRun]
  · have hb0 : blksB l ≠ [] := fun q => hl0 ((blks_nil2 gA).1 q)
    have hbe : (blksB l).isEmpty = false := by cases hq : blksB l with | nil => exact absurd hq hb0 | cons x r => rfl
    have he0 : entGo 0 0 l ≠ [] := fun q => hl0 ((ent_nil2 l 0 0).1 q)
    have hr := rowsB (blksB l)
    have hbb : ¬ (70368744177664 < (blksB l).length) := by omega
    have hne0 : ¬ (blksB l).length = 0 := by intro q; exact hb0 (List.length_eq_zero_iff.1 q)
    rw [hbe] at oA hA
    simp only [ixH_big hb0] at oA tA1 tA2 pA1 pA2 eA
    simp only [entV, entH, if_neg he0] at eA
    have hZ := fun k hk => zero_loop (blksB l).length (by omega) tick nlc fuc c (blksB l) (entGo 0 0 l) l.length (totB l) lb1 r0.N r0.Bus r0.Drive rd er (idxB l) k (some (.lit (.bool true), [])) hk (blksB l).length 0 (blksB l) (by omega) rfl
    have hW := fun k hk => told_loop l.length (by omega) tick nlc fuc c (blksB l) (entGo 0 0 l) l.length (totB l) lb1 r0.N r0.Bus r0.Drive rd er (idxB l) k (some (.lit (.bool true), [])) hk l.length 0 ((entGo 0 0 l).map encEnt) (by omega) (by simpa using hel) (by
      intro z hz
      obtain ⟨e, _, rfl⟩ := List.mem_map.1 hz
      rfl)
    simp only [encRun] at tA1 tA2
    generalize idxB l = I at *
    generalize blksB l = B at *
    generalize entGo 0 0 l = es at *
    generalize totB l = T at *
    simp [ixI, hel] at hA oA tA1 tA2 pA1 pA2 eA
    simp [go_sem, ir11, nF, nA, nC, nE, nP, hcl', hA, oA, tA1, pA1, hr, hbb, hne0, hbe, hb0, hel, purse_eq, List.range_succ, encRun, zeroRun, nilS]
    rw [run_inLoop']
    simp [go_sem, purse_eq, List.range_succ]
    simp at hZ
    refine hZ _ ?_
    clear hZ
    intro τ Z t1 t2 t17 t19 t20 t21 t22
    simp [go_sem, t1, t2, t17, t19, t20, t21, t22, eA, hel, purse_eq, List.range_succ]
    rw [run_inLoop']
    simp [go_sem, t1, t2, t17, t19, t20, t21, t22, purse_eq, List.range_succ]
    simp at hW
    refine hW _ ?_
    clear hW
    intro τ Z t1 t2 t17 t19 t20 t21 t22
    by_cases h1 : sc.2.1 = c.length
    · by_cases h2 : idxB sc.1 = I
      · rw [if_pos h1, if_pos h2] at gC
        by_cases h3 : sc.1 = []
        · simp [bkV, bkH, h3, nilS] at kC
          simp [go_sem, t1, t2, t17, t19, t20, t21, t22, tA2, pA2, sI, kC, gC, h1, awake18, purse_eq, List.range_succ, nilS, encRun, hel]
        · simp [bkV, bkH, h3, nilS] at kC
          simp [go_sem, t1, t2, t17, t19, t20, t21, t22, tA2, pA2, sI, kC, gC, h1, awake18, purse_eq, List.range_succ, nilS, encRun, hel]
      · rw [if_pos h1, if_neg h2] at gC
        by_cases h3 : sc.1 = []
        · simp [bkV, bkH, h3, nilS] at kC
          simp [go_sem, t1, t2, t17, t19, t20, t21, t22, tA2, pA2, sI, kC, gC, h1, awake18, purse_eq, List.range_succ, nilS, encRun, hel]
        · simp [bkV, bkH, h3, nilS] at kC
          simp [go_sem, t1, t2, t17, t19, t20, t21, t22, tA2, pA2, sI, kC, gC, h1, awake18, purse_eq, List.range_succ, nilS, encRun, hel]
    · rw [if_neg h1] at gC
      have h1' : ¬ (sc.2.1 : Int) = (c.length : Int) := by omega
      by_cases h3 : sc.1 = []
      · simp [bkV, bkH, h3, nilS] at kC
        simp [go_sem, t1, t2, t17, t19, t20, t21, t22, tA2, pA2, sI, kC, gC, h1, h1', awake18, purse_eq, List.range_succ, nilS, encRun, hel]
      · simp [bkV, bkH, h3, nilS] at kC
        simp [go_sem, t1, t2, t17, t19, t20, t21, t22, tA2, pA2, sI, kC, gC, h1, h1', awake18, purse_eq, List.range_succ, nilS, encRun, hel]
end Go.AM.R1
open Go Go.AM Go.AM.R1 Go.Proofs
namespace Go.Proofs.Ytppdlldajaihbaa
open Go.ChangeShapes Go.WideShapes Go.ChangeAt Go.RowKit
namespace seekOwn
theorem own : ownKnob Try.prog.godebug = none := by kernel_rfl
theorem laidOut : laidOutB Try.prog = true := by kernel_rfl
theorem mixed : Try.prog.follows .mixedOrders = true := by kernel_rfl
set_option maxRecDepth 100000 in
theorem contract (H : Type) (enc : TypeId × Value → H) (W : World) (base : Nat) (args : Array Value) (ds gs : List (DataW H)) (before : List MemPlace)
    (hval : ∀ (j : Nat) t v, Try.f11.params[j]? = some t → args[j]? = some v → Value.okWide Try.prog W .any base t v)
    (hW : DataW.Whole enc Try.prog Try.f11.params.toList Rows.seekOwnSpec.vars false W args.toList ds gs before) :
    Calls Try.prog 11 args W fun e W' => ∃ v, e = .returned v ∧ Rows.seekOwnSpec.post enc Try.prog Try.f11 false true false false W args v W' := by
  refine law_contract (id := 11) (f := Try.f11) (s := Rows.seekOwnSpec) (k := 7) (nargs := 3) (base := base) (ds := ds) (gs := gs) (before := before) mixed R1.hE laidOut ?e1 ?e2 (tb := 4) ?e3 Try.underlying4 ?e4 ?e5 ?e7 ?e8 ?e6
  case e7 => exact hval
  case e8 => exact hW
  case e1 => rfl
  case e3 => kernel_rfl
  case e4 => rw [Try.params11]; rfl
  · rw [Try.params11]; decide +kernel
  · intro ds h
    match ds, h with
    | [d1, d2, d3], _ => rfl
  · intro cs hA
    rw [Try.params11] at hA
    obtain ⟨d1, r1, a1, s1, rfl, rfl, h1, hA⟩ := decArgs_cons hA
    obtain ⟨d2, r2, a2, s2, rfl, rfl, h2, hA⟩ := decArgs_cons hA
    obtain ⟨d3, r3, a3, s3, rfl, rfl, h3, hA⟩ := decArgs_cons hA
    obtain ⟨rfl, rfl⟩ := decArgs_nil hA
    obtain ⟨nl, fu, l, rfl, hl⟩ := decV_rows (n := 3) Try.underlying41 Try.underlying49 ⟨_, _, _, Try.underlying56, Try.underlying3, Try.underlying3, Try.underlying54⟩ h1
    obtain ⟨tick, -, hw, rfl⟩ := decV_int (n := 6) Try.underlying3 h2
    obtain ⟨nlc, fuc, b, rfl, hnl, hb⟩ := decV_bytes (n := 5) Try.underlying22 Try.underlying5 h3
    obtain ⟨n, hn⟩ := (call_iff R1.E).1 (seekOwn_spec l hl nl fu tick (wf64 hw) b hb nlc fuc hnl)
    exact ⟨n, _, hn⟩

set_option maxRecDepth 100000 in
theorem lifted (os : Os) (started : os.Started) (H : Type) (enc : TypeId × Value → H) :
    ReturnsInHanded {} Try.checked os 11 .any (Rows.seekOwnSpec.pre6 enc Try.prog Try.f11 Rows.seekOwnRow.domain false) (Rows.seekOwnSpec.post enc Try.prog Try.f11 false true false false) := by
  refine returnsInHanded_of_change (C := Try.checked) own started (by kernel_rfl) Try.func11
    (ChangeSpec.witness6 (enc := enc) (C := Try.checked) false ⟨#[], #[.slice none 0 0, .int .i64 0, .slice none 0 0], []⟩ 8 (by kernel_rfl) (by kernel_rfl) (by kernel_rfl) (by kernel_rfl)) ?_
  intro W base args ds gs before hval hW _ _
  exact contract H enc W base args ds gs before hval hW

theorem proved : Rows.SeekOwnSaid :=
  OpenClaim.holds_of_wide 11 Try.f11 rfl rfl rfl rfl rfl rfl rfl ⟨rfl, rfl, rfl, rfl, rfl⟩ rfl rfl rfl rfl rfl (by kernel_rfl) Try.func11 (by kernel_rfl)
    (of_decide_eq_true (by kernel_rfl)) (by unfold Func.isWrapper; first | (rw [if_pos (by decide +kernel)]; kernel_rfl) | (rw [if_neg (by decide +kernel)]; exact ⟨rfl, rfl⟩))
    (fun os started H enc _ => lifted os started H enc)
end seekOwn
theorem seekOwnProved : Rows.SeekOwnSaid := seekOwn.proved
end Go.Proofs.Ytppdlldajaihbaa
