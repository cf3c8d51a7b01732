/- The law SeekOfs of package magnetolaw18 returns true for every input, and its arguments read as before. -/
import Derived.Test.YtppdlldajaihbaaSeekOfs1
import Derived.ProofKit
set_option linter.unusedVariables false
set_option linter.unusedSimpArgs false
open Go Go.AM
namespace Go.AM.R1

def ofLp : List Nat → Int → List Run → Bool × List Run
  | n :: d :: r, last, out => if 1073741824 < n ∨ 4294967295 < d then (false, out) else ofLp r (ixor .u32 last (d : Nat)) (out ++ [⟨(n : Nat), if ixor .u32 last (d : Nat) = 4294967295 then 1 else 0, ixor .u32 last (d : Nat)⟩])
  | _, _, out => (true, out)
def ofH (first : Int) (out : List Run) : Heap := [.box [.lit (.int .i64 0), nilS], .box [.lit (.int .i64 first), resV 4 (out.map encRun)]] ++ resH [.dead, .dead] (out.map encRun)
theorem of_loop (l : List Nat) (hl : l.length ≤ 1099511627) (nl fu : Bool) (k : List Item) (R : Bool × List Run → Option (AVal × Heap))
    (hk : ∀ out τ, lk 0 τ = .imm nl fu true (l.map encU) → lk 2 τ = .ptr 0 0 → lk 3 τ = .ptr 1 0 → finK 0 [.cell 2 true 2] (run E 0 k τ (ofH (-1) out)) = R (true, out))
    (hf : ∀ out, R (false, out) = some (.agg [.lit (.int .i64 (-1)), resV 0 (out.map encRun)], resH [] (out.map encRun))) :
    ∀ (d i : Nat) (last : Int) (out : List Run), i + 2 * d = l.length → out.length ≤ i →
   finK 0 [.cell 2 true 2] (run E 0 (.code L151_0 :: .inLoop [0, 2, 3, 4, 5] L151_0 :: .inBlock 0 :: k)
     [(0, .imm nl fu true (l.map encU)), (2, .ptr 0 0), (3, .ptr 1 0), (4, .lit (.int .u32 last)), (5, .lit (.int .i64 i))] (ofH (-1) out))
    = R (ofLp (l.drop i) last out) := by
  intro d
  induction d with
  | zero =>
    intro i last out hi ho
    have hil : i = l.length := by omega
    subst hil
    have w2 := wrapIdx (i := l.length) (by omega)
    have hlt : ¬ ((l.length : Int) + 1 < (l.length : Int)) := by omega
    have hk' := hk out
    rw [List.drop_length]
    simp at w2
    by_cases h0 : out = []
    · subst h0
      simp [ofH, resV, resH] at hk'
      simp [go_sem, run_codeL E L151_0.eq_1, ofH, resV, resH, w2, hlt, ofLp]
      exact hk' _ rfl rfl rfl
    · simp [ofH, resV, resH, h0] at hk'
      simp [go_sem, run_codeL E L151_0.eq_1, ofH, resV, resH, w2, hlt, ofLp, h0]
      exact hk' _ rfl rfl rfl
  | succ d ih =>
    intro i last out hi ho
    have hlt : i < l.length := by omega
    have hlt' : i + 1 < l.length := by omega
    have w1 : IntKind.wrap .i64 ((i : Int) + 1) = (i : Int) + 1 := wrap64 (by omega) (by omega)
    have w2 : IntKind.wrap .i64 ((i : Int) + 2) = (i : Int) + 2 := wrap64 (by omega) (by omega)
    have hlI : (i : Int) + 1 < (l.length : Int) := by omega
    have hz : (0 : Int) ≤ (i : Int) + 1 := by omega
    have ht : ((i : Int) + 1).toNat = i + 1 := by omega
    rw [List.drop_eq_getElem_cons hlt, List.drop_eq_getElem_cons hlt', ofLp]
    by_cases c1 : 1073741824 < l[i]
    · rw [if_pos (.inl c1), hf]
      have c1' : (1073741824 : Int) < (l[i] : Nat) := by omega
      by_cases h0 : out = []
      · subst h0
        simp [go_sem, run_codeL E L151_0.eq_1, ofH, resV, resH, w1, hlI, hlt, hlt', hz, ht, List.getElem?_eq_getElem hlt, List.getElem?_eq_getElem hlt', encU, c1', purse_eq]
      · simp [go_sem, run_codeL E L151_0.eq_1, ofH, resV, resH, w1, hlI, hlt, hlt', hz, ht, List.getElem?_eq_getElem hlt, List.getElem?_eq_getElem hlt', encU, c1', h0, purse_eq]
    · have c1' : ¬ (1073741824 : Int) < (l[i] : Nat) := by omega
      by_cases c2 : 4294967295 < l[i + 1]
      · rw [if_pos (.inr c2), hf]
        have c2' : (4294967295 : Int) < (l[i + 1] : Nat) := by omega
        by_cases h0 : out = []
        · subst h0
          simp [go_sem, run_codeL E L151_0.eq_1, ofH, resV, resH, w1, hlI, hlt, hlt', hz, ht, List.getElem?_eq_getElem hlt, List.getElem?_eq_getElem hlt', encU, c1', c2', purse_eq]
        · simp [go_sem, run_codeL E L151_0.eq_1, ofH, resV, resH, w1, hlI, hlt, hlt', hz, ht, List.getElem?_eq_getElem hlt, List.getElem?_eq_getElem hlt', encU, c1', c2', h0, purse_eq]
      · rw [if_neg (by omega)]
        have c2' : ¬ (4294967295 : Int) < (l[i + 1] : Nat) := by omega
        have e1 : IntKind.wrap .i64 ((l[i] : Nat) : Int) = ((l[i] : Nat) : Int) := wrap64 (by omega) (by omega)
        have e2 : IntKind.wrap .u32 ((l[i + 1] : Nat) : Int) = ((l[i + 1] : Nat) : Int) := by simp [IntKind.wrap, IntKind.bits, IntKind.signed]; omega
        generalize hdr : ixor .u32 last ((l[i + 1] : Nat) : Int) = dr
        have ih2 := ih (i + 2) dr (out ++ [⟨((l[i] : Nat) : Int), if dr = 4294967295 then 1 else 0, dr⟩]) (by omega) (by simp; omega)
        have hb : ¬ (70368744177664 < (out.length + 1) * 24) := by omega
        by_cases hd : dr = 4294967295
        · subst hd
          by_cases h0 : out = []
          · subst h0
            simp [ofH, resV, resH, encRun, nilS] at ih2
            simp [go_sem, run_codeL E L151_0.eq_1, ofH, resV, resH, w1, w2, hlI, hlt, hlt', hz, ht, List.getElem?_eq_getElem hlt, List.getElem?_eq_getElem hlt', encU, c1', c2', e1, e2, hdr, purse_eq]
            rw [run_inLoop']
            simp [go_sem, purse_eq]
            simpa [encU] using ih2
          · simp [ofH, resV, resH, encRun, nilS, h0] at ih2
            simp [go_sem, run_codeL E L151_0.eq_1, ofH, resV, resH, w1, w2, hlI, hlt, hlt', hz, ht, List.getElem?_eq_getElem hlt, List.getElem?_eq_getElem hlt', encU, c1', c2', e1, e2, hdr, h0, hb, purse_eq]
            rw [run_inLoop']
            simp [go_sem, purse_eq]
            simpa [encU] using ih2
        · by_cases h0 : out = []
          · subst h0
            simp [ofH, resV, resH, encRun, nilS, hd] at ih2
            simp [go_sem, run_codeL E L151_0.eq_1, ofH, resV, resH, w1, w2, hlI, hlt, hlt', hz, ht, List.getElem?_eq_getElem hlt, List.getElem?_eq_getElem hlt', encU, c1', c2', e1, e2, hdr, hd, purse_eq]
            rw [run_inLoop']
            simp [go_sem, purse_eq]
            simpa [encU] using ih2
          · simp [ofH, resV, resH, encRun, nilS, h0, hd] at ih2
            simp [go_sem, run_codeL E L151_0.eq_1, ofH, resV, resH, w1, w2, hlI, hlt, hlt', hz, ht, List.getElem?_eq_getElem hlt, List.getElem?_eq_getElem hlt', encU, c1', c2', e1, e2, hdr, h0, hd, hb, purse_eq]
            rw [run_inLoop']
            simp [go_sem, purse_eq]
            simpa [encU] using ih2

def ofR : List Nat → Int × List Run
  | a :: c :: r => if (a :: c :: r).length % 2 ≠ 0 ∨ 1073741824 < a then (-1, []) else if (ofLp r 4294967295 []).1 = true then (((a : Nat) : Int), (ofLp r 4294967295 []).2) else (-1, (ofLp r 4294967295 []).2)
  | _ => (-1, [])
theorem of_spec (l : List Nat) (hl : l.length ≤ 1099511627) (nl fu : Bool) :
    call E (.func (.func 151) [] []) [.imm nl fu true (l.map encU)] [] = some (.agg [.lit (.int .i64 (ofR l).1), resV 0 ((ofR l).2.map encRun)], resH [] ((ofR l).2.map encRun)) := by
  rw [call_func E E151]
  match l, hl with
  | [], _ => simp [go_sem, ir151, ofR, resV, resH, purse_eq]
  | [a], _ => simp [go_sem, ir151, ofR, resV, resH, purse_eq]
  | a :: c :: r, hl =>
    simp at hl
    have hlen2 : ¬ ((r.length : Int) + 1 + 1 < 2) := by omega
    have hm : ((r.length : Int) + 1 + 1).tmod 2 = ((r.length % 2 : Nat) : Int) := by rw [Int.tmod_eq_emod_of_nonneg (by omega)]; omega
    by_cases h1 : r.length % 2 ≠ 0
    · have e : ofR (a :: c :: r) = (-1, []) := by rw [ofR, if_pos (.inl (by simp; omega))]
      have hm2 : ((r.length : Int) + 1 + 1).tmod 2 = 1 := by omega
      simp [go_sem, ir151, e, resV, resH, purse_eq, hlen2, hm2]
    · have hm0 : ((r.length : Int) + 1 + 1).tmod 2 = 0 := by omega
      by_cases h2 : 1073741824 < a
      · have h2' : (1073741824 : Int) < (a : Nat) := by omega
        have e : ofR (a :: c :: r) = (-1, []) := by rw [ofR, if_pos (.inr h2)]
        simp [go_sem, ir151, e, resV, resH, purse_eq, hlen2, hm0, h2', encU]
      · have h2' : ¬ (1073741824 : Int) < (a : Nat) := by omega
        have e1 : IntKind.wrap .i64 ((a : Nat) : Int) = ((a : Nat) : Int) := wrap64 (by omega) (by omega)
        have e : ofR (a :: c :: r) = if (ofLp r 4294967295 []).1 = true then (((a : Nat) : Int), (ofLp r 4294967295 []).2) else (-1, (ofLp r 4294967295 []).2) := by
          rw [ofR, if_neg]
          simp; omega
        have hlp := of_loop (a :: c :: r) (by simp; omega) nl fu [.code (.seq (.reg [⟨none, some 69, .copy (.t 0)⟩, ⟨none, some 70, .idxS 1 (.t 69) (.c (.lit (.int .i64 0)))⟩, ⟨none, some 71, .load false 1 (.t 70)⟩, ⟨none, some 72, .toInt .i64 (.t 71)⟩, ⟨none, some 73, .fieldA 0 (.t 3)⟩, ⟨none, none, .store 1 (.t 73) (.t 72)⟩] [] []) (.seq (.reg [⟨none, some 74, .load true 2 (.t 3)⟩, ⟨none, none, .store 2 (.t 2) (.t 74)⟩] [] []) .ret))]
          (fun q => some (.agg [.lit (.int .i64 (if q.1 = true then ((a : Nat) : Int) else -1)), resV 0 (q.2.map encRun)], resH [] (q.2.map encRun))) ?_ (fun out => rfl) (r.length / 2) 2 4294967295 [] (by simp; omega) (by simp)
        · rw [show (a :: c :: r).drop 2 = r from rfl] at hlp
          have e' : ofR (a :: c :: r) = (if (ofLp r 4294967295 []).1 = true then ((a : Nat) : Int) else -1, (ofLp r 4294967295 []).2) := by rw [e]; split <;> rfl
          rw [e']
          generalize ofLp r 4294967295 [] = q at hlp ⊢
          simp [ofH, nilS, encU] at hlp
          rw [show resV 4 [] = AVal.imm true true true [] from rfl, show resH [.dead, .dead] [] = [] from rfl] at hlp
          simp [go_sem, ir151, purse_eq, hlen2, hm0, h2', encU, nilS]
          rw [run_inLoop']
          simp [go_sem, purse_eq]
          simpa [encU] using hlp
        · intro out τ t0 t2 t3
          by_cases h0 : out = []
          · subst h0
            simp [go_sem, t0, t2, t3, ofH, resV, resH, encU, e1, purse_eq]
          · simp [go_sem, t0, t2, t3, ofH, resV, resH, encU, e1, purse_eq, h0]
end Go.AM.R1
open Go Go.AM
namespace Go.AM.R1

/-! ### Which numbers are a block's -/
theorem ixor_nat {x y : Int} (hx : 0 ≤ x ∧ x ≤ 4294967295) (hy : 0 ≤ y ∧ y ≤ 4294967295) : ixor .u32 x y = ((BitVec.ofNat 32 x.toNat ^^^ BitVec.ofNat 32 y.toNat).toNat : Int) := by
  rw [← ixor_bv]
  congr 1
  · rw [BitVec.toNat_ofNat, Nat.mod_eq_of_lt (by omega)]; omega
  · rw [BitVec.toNat_ofNat, Nat.mod_eq_of_lt (by omega)]; omega
theorem ixor_comm {x y : Int} (hx : 0 ≤ x ∧ x ≤ 4294967295) (hy : 0 ≤ y ∧ y ≤ 4294967295) : ixor .u32 x y = ixor .u32 y x := by
  rw [ixor_nat hx hy, ixor_nat hy hx, BitVec.xor_comm]
theorem ixor_cancel {x y : Int} (hx : 0 ≤ x ∧ x ≤ 4294967295) (hy : 0 ≤ y ∧ y ≤ 4294967295) : ixor .u32 (ixor .u32 x y) y = x := by
  rw [ixor_nat (ixor_range x y) hy, ixor_nat hx hy]
  have e : (((BitVec.ofNat 32 x.toNat ^^^ BitVec.ofNat 32 y.toNat).toNat : Int)).toNat = (BitVec.ofNat 32 x.toNat ^^^ BitVec.ofNat 32 y.toNat).toNat := by omega
  rw [e, BitVec.ofNat_toNat, BitVec.setWidth_eq, BitVec.xor_assoc, BitVec.xor_self, BitVec.xor_zero, BitVec.toNat_ofNat, Nat.mod_eq_of_lt (by omega)]
  omega
def busOf (d : Int) : Int := if d = 4294967295 then 1 else 0
theorem inLp_true : ∀ (n : Nat) (s : List Nat × Bool) (last : Int) (out : List Run), (0 ≤ last ∧ last ≤ 4294967295) → (inLp n s last out).1.2 = true →
    s.2 = true ∧ ∃ R, (inLp n s last out).2 = out ++ R ∧ R.length = n ∧ s.1 = runN last R ++ (inLp n s last out).1.1 ∧ ∀ r ∈ R, 0 ≤ r.Drive ∧ r.Drive ≤ 4294967295
  | 0, s, last, out, _, h => ⟨h, [], by simp [inLp], rfl, by simp [inLp, runN], by simp⟩
  | n + 1, s, last, out, hl, h => by
    rw [inLp] at h ⊢
    obtain ⟨L, q⟩ := s
    obtain ⟨h1, R, e1, e2, e3, e4⟩ := inLp_true n _ _ _ (ixor_range _ _) h
    cases L with
    | nil => simp [nextB] at h1
    | cons x L =>
      by_cases c1 : 1073741824 < x
      · exfalso
        simp only [nextB, if_pos c1] at h1
        split at h1 <;> simp at h1
      · simp only [nextB, if_neg c1] at h1 e1 e2 e3 ⊢
        cases L with
        | nil => simp [nextB] at h1
        | cons y L =>
          by_cases c2 : 4294967295 < y
          · simp [nextB, c2] at h1
          · simp only [nextB, if_neg c2] at h1 e1 e2 e3 ⊢
            refine ⟨h1, ⟨(x : Nat), if ixor .u32 (y : Nat) last = 4294967295 then 1 else 0, ixor .u32 (y : Nat) last⟩ :: R, by rw [e1]; simp, by simp [e2], ?_, ?_⟩
            · simp only [runN, List.cons_append]
              rw [ixor_cancel ⟨by omega, by omega⟩ hl]
              simp only [Int.toNat_natCast]
              rw [← e3]
            · intro r hr
              rcases List.mem_cons.1 hr with rfl | hr
              · exact ixor_range _ _
              · exact e4 r hr
theorem ins_good {l : List Nat} (h : insOk l = true) : chkB (insA l).1 (insR l).2 = 0 ∧ numsN (insA l).1 (insR l).2 = l ∧ (∀ r ∈ (insR l).2, 0 ≤ r.Drive ∧ r.Drive ≤ 4294967295) := by
  simp only [insOk, Bool.and_eq_true, decide_eq_true_eq] at h
  obtain ⟨⟨h1, h2⟩, h3⟩ := h
  obtain ⟨g1, R, e1, e2, e3, e4⟩ := inLp_true (insC l).1 (insC l).2 4294967295 [] (by omega) h1
  rw [show inLp (insC l).1 (insC l).2 4294967295 [] = insR l from rfl] at e1 e3
  rw [List.nil_append] at e1
  rw [h2, List.append_nil] at e3
  refine ⟨h3, ?_, fun r hr => e4 r (by rw [e1] at hr; exact hr)⟩
  rw [e1, numsN, e2]
  unfold insC insA at e3 g1 ⊢
  cases l with
  | nil => simp [nextB] at g1
  | cons x l =>
    by_cases c1 : 1073741824 < x
    · exfalso
      simp only [nextB, if_pos c1] at g1
      split at g1 <;> simp at g1
    · simp only [nextB, if_neg c1] at e3 g1 ⊢
      cases l with
      | nil => simp [nextB] at g1
      | cons y l =>
        by_cases c2 : 4096 < y
        · simp [nextB, c2] at g1
        · simp only [nextB, if_neg c2] at e3 g1 ⊢
          rw [← e3]; rfl
theorem inLp_nums : ∀ (R : List Run) (last : Int) (out : List Run), (0 ≤ last ∧ last ≤ 4294967295) → (∀ r ∈ R, right r = true ∧ 0 ≤ r.Drive ∧ r.Drive ≤ 4294967295) → inLp R.length (runN last R, true) last out = (([], true), out ++ R)
  | [], last, out, _, _ => by simp [inLp, runN]
  | r :: R, last, out, hl, h => by
    obtain ⟨hr, hd⟩ := h r (by simp)
    have hN := right_N hr
    have hx := ixor_range r.Drive last
    rw [List.length_cons, inLp, runN]
    have c1 : ¬ 1073741824 < r.N.toNat := by omega
    have c2 : ¬ 4294967295 < (ixor .u32 r.Drive last).toNat := by omega
    have e4 : (((ixor .u32 r.Drive last).toNat : Nat) : Int) = ixor .u32 r.Drive last := by omega
    have e5 : ((r.N.toNat : Nat) : Int) = r.N := by omega
    simp only [nextB, if_neg c1, if_neg c2, e4, e5, ixor_cancel hd hl]
    have hb : (if r.Drive = 4294967295 then (1 : Int) else 0) = r.Bus := by
      simp only [right, Bool.and_eq_true, decide_eq_true_eq] at hr
      exact hr.2.symm
    rw [hb, inLp_nums R r.Drive _ hd fun x hx => h x (by simp [hx])]
    simp
theorem chk_all {l : List Run} (h : chk l = 0) : ∀ r ∈ l, right r = true := fun r hr => by
  unfold chk at h
  cases ha : l.all right with
  | false => rw [ha] at h; simp at h
  | true => exact List.all_eq_true.1 ha r hr
theorem ins_nums {f : Int} {R : List Run} (hc : chkB f R = 0) (hd : ∀ r ∈ R, 0 ≤ r.Drive ∧ r.Drive ≤ 4294967295) :
    ((insA (numsN f R)).1 : Int) = f ∧ (insR (numsN f R)).2 = R ∧ insOk (numsN f R) = true ∧ insL (numsN f R) = true := by
  obtain ⟨h1, h2, h3, h4, h5, h6⟩ := chkB_ok hc
  have hall := chk_all h4
  have c1 : ¬ 1073741824 < f.toNat := by omega
  have c2 : ¬ 4096 < R.length := by omega
  have eA : insA (numsN f R) = (f.toNat, (R.length :: runN 4294967295 R, true)) := by unfold insA numsN; rw [nextB, if_neg c1]
  have eC : insC (numsN f R) = (R.length, (runN 4294967295 R, true)) := by unfold insC; rw [eA, nextB, if_neg c2]
  have eR : insR (numsN f R) = (([], true), R) := by
    unfold insR; rw [eC]
    have := inLp_nums R 4294967295 [] (by omega) fun r hr => ⟨hall r hr, hd r hr⟩
    simpa using this
  have ef : ((f.toNat : Nat) : Int) = f := by omega
  refine ⟨by rw [eA]; exact ef, by rw [eR], ?_, ?_⟩
  · unfold insOk
    rw [eR, eA]
    simp [ef, hc]
  · unfold insL
    rw [eR]; rfl
theorem ofLp_nums : ∀ (R : List Run) (last : Int) (out : List Run), (0 ≤ last ∧ last ≤ 4294967295) → (∀ r ∈ R, right r = true ∧ 0 ≤ r.Drive ∧ r.Drive ≤ 4294967295) → ofLp (runN last R) last out = (true, out ++ R)
  | [], last, out, _, _ => by simp [ofLp, runN]
  | r :: R, last, out, hl, h => by
    obtain ⟨hr, hd⟩ := h r (by simp)
    have hN := right_N hr
    have hx := ixor_range r.Drive last
    rw [runN, ofLp, if_neg (by omega)]
    have e4 : (((ixor .u32 r.Drive last).toNat : Nat) : Int) = ixor .u32 r.Drive last := by omega
    have e5 : ((r.N.toNat : Nat) : Int) = r.N := by omega
    rw [e4, e5, ixor_comm hl hx, ixor_cancel hd hl]
    have hb : (if r.Drive = 4294967295 then (1 : Int) else 0) = r.Bus := by
      simp only [right, Bool.and_eq_true, decide_eq_true_eq] at hr
      exact hr.2.symm
    rw [hb, ofLp_nums R r.Drive _ hd fun x hx => h x (by simp [hx])]
    simp
theorem of_nums {f : Int} {R : List Run} (hc : chkB f R = 0) (hd : ∀ r ∈ R, 0 ≤ r.Drive ∧ r.Drive ≤ 4294967295) : ofR (numsN f R) = (f, R) := by
  obtain ⟨h1, h2, h3, h4, h5, h6⟩ := chkB_ok hc
  have hall := chk_all h4
  have hl := runN_length R 4294967295
  unfold numsN
  rw [ofR, if_neg (by simp [hl]; omega), ofLp_nums R 4294967295 [] (by omega) fun r hr => ⟨hall r hr, hd r hr⟩, if_pos rfl]
  simp; omega
theorem ofLp_drive : ∀ (d : Nat) (l : List Nat) (last : Int) (out : List Run), l.length ≤ d → (∀ r ∈ out, (0 ≤ r.Drive ∧ r.Drive ≤ 4294967295) ∧ 0 ≤ r.N ∧ r.N ≤ 1073741824) → ∀ r ∈ (ofLp l last out).2, (0 ≤ r.Drive ∧ r.Drive ≤ 4294967295) ∧ 0 ≤ r.N ∧ r.N ≤ 1073741824
  | _, [], _, _, _, h => h
  | _, [_], _, _, _, h => h
  | 0, _ :: _ :: _, _, _, hl, _ => by simp at hl
  | d + 1, n :: y :: l, last, out, hl, h => by
    rw [ofLp]
    split
    · exact h
    · refine ofLp_drive d l _ _ (by simp at hl; omega) fun r hr => ?_
      rcases List.mem_append.1 hr with hr | hr
      · exact h r hr
      · simp at hr; subst hr; exact ⟨ixor_range _ _, by simp, by simp; omega⟩
theorem of_drive (l : List Nat) : ∀ r ∈ (ofR l).2, (0 ≤ r.Drive ∧ r.Drive ≤ 4294967295) ∧ 0 ≤ r.N ∧ r.N ≤ 1073741824 := by
  match l with
  | [] => simp [ofR]
  | [_] => simp [ofR]
  | a :: c :: r =>
    rw [ofR]
    split
    · simp
    · split
      · exact ofLp_drive r.length r _ _ (by omega) (by simp)
      · exact ofLp_drive r.length r _ _ (by omega) (by simp)
theorem ofLp_length : ∀ (d : Nat) (l : List Nat) (last : Int) (out : List Run), l.length ≤ d → (ofLp l last out).2.length ≤ out.length + l.length
  | _, [], _, _, _ => by simp [ofLp]
  | _, [_], _, _, _ => by simp [ofLp]
  | 0, _ :: _ :: _, _, _, hl => by simp at hl
  | d + 1, n :: y :: l, last, out, hl => by
    rw [ofLp]
    split
    · simp
    · have := ofLp_length d l (ixor .u32 last (y : Nat)) (out ++ [⟨(n : Nat), if ixor .u32 last (y : Nat) = 4294967295 then 1 else 0, ixor .u32 last (y : Nat)⟩]) (by simp at hl; omega)
      simp at this ⊢; omega
theorem of_length (l : List Nat) : (ofR l).2.length ≤ l.length := by
  match l with
  | [] => simp [ofR]
  | [_] => simp [ofR]
  | a :: c :: r =>
    rw [ofR]
    have := ofLp_length r.length r 4294967295 [] (by omega)
    split
    · simp
    · split <;> simp at this ⊢ <;> omega
/-- The two ways to a block agree. -/
theorem of_ins (l : List Nat) : (chkB (ofR l).1 (ofR l).2 = 0 ∧ numsN (ofR l).1 (ofR l).2 = l) ↔ insOk l = true := by
  constructor
  · rintro ⟨h1, h2⟩
    have := ins_nums h1 fun r hr => (of_drive l r hr).1
    rw [h2] at this
    exact this.2.2.1
  · intro h
    obtain ⟨h1, h2, h3⟩ := ins_good h
    have := of_nums h1 h3
    rw [h2] at this
    rw [this]
    exact ⟨h1, h2⟩
theorem of_ins_eq {l : List Nat} (h : insOk l = true) : ofR l = (((insA l).1 : Int), (insR l).2) := by
  obtain ⟨h1, h2, h3⟩ := ins_good h
  have := of_nums h1 h3
  rwa [h2] at this
theorem ins_locked {l : List Nat} (h : insOk l = true) : insL l = true := by
  obtain ⟨h1, h2, h3⟩ := ins_good h
  have := (ins_nums h1 h3).2.2.2
  rwa [h2] at this
end Go.AM.R1
open Go Go.AM
namespace Go.AM.R1

/-! ### Get -/
theorem size_ok {b : List Nat} (hb : ∀ c ∈ b, c < 256) (h : (sizeB b).2 = 0) :
    (getN b).2.2 = 0 ∧ (getN b).1 ≤ 65536 ∧ sizeB b = ((((getN b).2.1 + (getN b).1 + 4 : Nat) : Int), 0) ∧ 1 ≤ (getN b).2.1 ∧ (getN b).2.1 ≤ 10 := by
  unfold sizeB at h ⊢
  split at h
  · rename_i h1; simp at h; exact absurd h h1
  · rename_i h1
    have h1' : (getN b).2.2 = 0 := by simpa using h1
    split at h
    · simp at h
    · rename_i h2
      have hk := get_k_le hb h1'
      exact ⟨h1', by omega, by rw [if_neg h1, if_neg h2], hk.1, hk.2.1⟩
/-- What the whole of a block, without its sum, begins with. -/
theorem get_whole {b : List Nat} (hb : ∀ c ∈ b, c < 256) (h : (getN b).2.2 = 0) (m : Nat) (hm : (getN b).2.1 ≤ m) : getN (b.take m) = ((getN b).1, (getN b).2.1, 0) := by
  obtain ⟨e1, e2, e3⟩ := get_ok hb h
  have : b.take m = putN (getN b).1 ++ (b.drop (getN b).2.1).take (m - (getN b).2.1) := by
    conv => lhs; rw [e1]
    rw [List.take_append, List.take_of_length_le (by omega), ← e2]
  rw [this, get_put e3, ← e2]
def getB (b : List Nat) : (Int × List Run) × Int × Int :=
  if (sizeB b).2 ≠ 0 then ((0, []), 0, (sizeB b).2)
  else if (b.length : Int) < (sizeB b).1 then ((0, []), 0, 13)
  else if openE (b.take (sizeB b).1.toNat) ≠ 0 then ((0, []), 0, openE (b.take (sizeB b).1.toNat))
  else if (allN ((b.take ((sizeB b).1.toNat - 4)).drop (getN b).2.1)).2.2 = 0 ∧ insOk (allN ((b.take ((sizeB b).1.toNat - 4)).drop (getN b).2.1)).1 = true then
    (((insA (allN ((b.take ((sizeB b).1.toNat - 4)).drop (getN b).2.1)).1).1, (insR (allN ((b.take ((sizeB b).1.toNat - 4)).drop (getN b).2.1)).1).2), (sizeB b).1, 0)
  else ((0, []), 0, 11)
theorem bget_spec (b : List Nat) (hb : ∀ c ∈ b, c < 256) (hl : b.length ≤ 1099511627) (nl fu : Bool) (hnl : nl = false ∨ b = []) :
    call E (.func (.func 133) [] []) [.imm nl fu true (b.map encB)] []
      = some (.tup [.agg [.lit (.int .i64 (getB b).1.1), resV 0 ((getB b).1.2.map encRun)], .lit (.int .i64 (getB b).2.1), .lit (.int .i64 (getB b).2.2)], resHl true ((getB b).1.2.map encRun)) := by
  rw [call_func E E133]
  have hS := size_spec b hb (by omega) nl fu
  by_cases h1 : (sizeB b).2 = 0
  · obtain ⟨g1, g2, g3, g4, g5⟩ := size_ok hb h1
    by_cases h2 : (b.length : Int) < (sizeB b).1
    · have e : getB b = ((0, []), 0, 13) := by unfold getB; rw [if_neg (by simp [h1]), if_pos h2]
      rw [h1] at hS
      simp [go_sem, ir133, hS, e, h2, resV, resHl, purse_eq]
    · have hnl' : nl = false := by
        rcases hnl with h | h
        · exact h
        · subst h; exfalso; simp [getN, getGo] at g1
      subst hnl'
      generalize hn : (getN b).2.1 + (getN b).1 + 4 = n at *
      rw [g3] at hS h2
      simp only [] at hS h2
      have hnle : n ≤ b.length := by omega
      have hr := rowsB b
      have hbt : ∀ c ∈ b.take n, c < 256 := fun c hc => hb c (List.mem_of_mem_take hc)
      have hO := open_spec (b.take n) hbt (by simp; omega) (fu && decide (n = b.length))
      have htl : (b.take n).length = n := by simp; omega
      have htt : (b.take n).take (n - 4) = b.take (n - 4) := by rw [List.take_take, Nat.min_eq_left (by omega)]
      rw [htl, htt] at hO
      by_cases h3 : openE (b.take n) = 0
      · rw [if_pos h3] at hO
        have hw := get_whole hb g1 (n - 4) (by omega)
        have hwb : ∀ c ∈ b.take (n - 4), c < 256 := fun c hc => hb c (List.mem_of_mem_take hc)
        have hG := vget_spec (b.take (n - 4)) hwb (by simp; omega) false false
        have hA := all_spec ((b.take (n - 4)).drop (getN b).2.1) (fun c hc => hwb c (List.mem_of_mem_drop hc)) (by simp; omega) false false
        have hI := fun nl fu => inside_spec (allN ((b.take (n - 4)).drop (getN b).2.1)).1 nl fu
        have e : getB b = if (allN ((b.take (n - 4)).drop (getN b).2.1)).2.2 = 0 ∧ insOk (allN ((b.take (n - 4)).drop (getN b).2.1)).1 = true then
            ((((insA (allN ((b.take (n - 4)).drop (getN b).2.1)).1).1 : Int), (insR (allN ((b.take (n - 4)).drop (getN b).2.1)).1).2), (n : Int), 0) else ((0, []), 0, 11) := by
          unfold getB
          rw [g3, if_neg (by simp), if_neg (by simpa using h2)]
          simp only [Int.toNat_natCast]
          rw [if_neg (by simp [h3])]
        have hwl : (b.take (n - 4)).length = n - 4 := by simp; omega
        have hwe : (b.take (n - 4)).isEmpty = false := by
          cases hq : b.take (n - 4) with
          | nil => rw [hq] at hwl; simp at hwl; omega
          | cons x xs => rfl
        rw [hw] at hG
        rw [hwe] at hO
        have hcut : cutE ((b.take (n - 4)).map encB) (getN b).2.1 (n - 4 - (getN b).2.1) = ((b.take (n - 4)).drop (getN b).2.1).map encB := by
          unfold cutE
          rw [List.take_of_length_le (by simp; omega), List.map_drop]
        have hil := fun h => ins_locked (l := (allN ((b.take (n - 4)).drop (getN b).2.1)).1) h
        generalize allN ((b.take (n - 4)).drop (getN b).2.1) = a at hA hI e hil
        have hkn : (getN b).2.1 ≤ n - 4 := by omega
        have hkn2 : (getN b).2.1 + (n - 4 - (getN b).2.1) = n - 4 := by omega
        have hrw := rowsB (b.take (n - 4))
        clear htt hw hwb hwe
        generalize b.take (n - 4) = w at *
        rw [List.map_take] at hO
        have hle : w.length + 4 = n := by omega
        by_cases ha : a.2.2 = 0
        · rw [if_pos ha] at hA
          by_cases ha1 : a.1 = []
          · rw [if_pos ha1] at hA
            have hI1 := hI true true
            rw [ha1] at hI1
            have hok : insOk a.1 = false := by rw [ha1]; rfl
            rw [ha1] at hok
            have e2 : getB b = ((0, []), 0, 11) := by rw [e, if_neg (by rw [ha1, hok]; simp)]
            rw [hok] at hI1
            rw [show (insA []).1 = 0 from rfl, show (insR []).2 = [] from rfl] at hI1
            simp [resV, resHl] at hI1
            simp [hle] at hO hA hG
            simp [go_sem, ir133, hS, e2, h2, hnle, hr, hO, h3, hG, hkn, hkn2, hwl, hrw, hcut, hA, hI1, resV, resHl, purse_eq]
          · rw [if_neg ha1] at hA
            have hI1 := hI false false
            cases hok : insOk a.1 with
            | true =>
              obtain ⟨g6, g7, g8⟩ := ins_good hok
              have hRne := (chkB_ok g6).2.1
              have e2 : getB b = ((((insA a.1).1 : Int), (insR a.1).2), (n : Int), 0) := by rw [e, if_pos ⟨ha, hok⟩]
              rw [hok, hil hok] at hI1
              simp [resV, resHl, hRne] at hI1
              simp [hle] at hO hA hG
              simp [go_sem, ir133, hS, e2, h2, hnle, hr, hO, h3, hG, hkn, hkn2, hwl, hrw, hcut, hA, hI1, resV, resHl, hRne, purse_eq]
            | false =>
              have e2 : getB b = ((0, []), 0, 11) := by rw [e, if_neg (by rw [hok]; simp)]
              rw [hok] at hI1
              by_cases hR : (insR a.1).2 = []
              · simp [resV, resHl, hR] at hI1
                simp [hle] at hO hA hG
                simp [go_sem, ir133, hS, e2, h2, hnle, hr, hO, h3, hG, hkn, hkn2, hwl, hrw, hcut, hA, hI1, resV, resHl, hR, purse_eq]
              · simp [resV, resHl, hR] at hI1
                simp [hle] at hO hA hG
                simp [go_sem, ir133, hS, e2, h2, hnle, hr, hO, h3, hG, hkn, hkn2, hwl, hrw, hcut, hA, hI1, resV, resHl, hR, purse_eq]
        · rw [if_neg ha] at hA
          have hI1 := inside_spec [] true true
          have hok : insOk [] = false := rfl
          have e2 : getB b = ((0, []), 0, 11) := by rw [e, if_neg (fun h => ha h.1)]
          rw [hok, show (insA []).1 = 0 from rfl, show (insR []).2 = [] from rfl] at hI1
          simp [resV, resHl] at hI1
          simp [hle] at hO hA hG
          simp [go_sem, ir133, hS, e2, h2, hnle, hr, hO, h3, hG, hkn, hkn2, hwl, hrw, hcut, hA, hI1, ha, resV, resHl, purse_eq]
      · rw [if_neg h3] at hO
        have e : getB b = ((0, []), 0, openE (b.take n)) := by
          unfold getB
          rw [g3, if_neg (by simp), if_neg (by simpa using h2)]
          simp only [Int.toNat_natCast]
          rw [if_pos h3]
        rw [List.map_take] at hO
        simp [go_sem, ir133, hS, e, h2, hnle, hr, hO, h3, resV, resHl, purse_eq]
  · have e : getB b = ((0, []), 0, (sizeB b).2) := by unfold getB; rw [if_pos h1]
    simp [go_sem, ir133, hS, e, h1, resV, resHl, purse_eq]
end Go.AM.R1
open Go Go.AM
namespace Go.AM.R1

theorem sealB_inj {x y : List Nat} (h : sealB x = sealB y) : x = y := by
  have hl := congrArg List.length h
  rw [sealB_length, sealB_length] at hl
  exact (List.append_inj h (by omega)).1
theorem wholeB_inj {l m : List Nat} (hl : ∀ n ∈ l, n < 18446744073709551616) (hm : ∀ n ∈ m, n < 18446744073709551616) (hll : (bytesN l).length < 18446744073709551616) (hml : (bytesN m).length < 18446744073709551616) (h : wholeB l = wholeB m) : l = m := by
  have h1 := sealB_inj h
  have g1 := get_put hll (bytesN l)
  have g2 := get_put hml (bytesN m)
  rw [h1, g2] at g1
  simp only [Prod.mk.injEq] at g1
  rw [g1.1] at h1
  exact bytesN_inj hl hm (List.append_cancel_left h1)
/-- Bytes that open are those of their numbers. -/
theorem whole_take {b : List Nat} (hb : ∀ c ∈ b, c < 256) (h1 : (getN b).2.2 = 0) {n : Nat} (hn : (getN b).2.1 + (getN b).1 + 4 = n) (hle : n ≤ b.length) (h3 : openE (b.take n) = 0)
    (ha : (allN ((b.take (n - 4)).drop (getN b).2.1)).2.2 = 0) : b.take n = wholeB (allN ((b.take (n - 4)).drop (getN b).2.1)).1 ∧ (∀ m ∈ (allN ((b.take (n - 4)).drop (getN b).2.1)).1, m < 18446744073709551616) ∧
      (bytesN (allN ((b.take (n - 4)).drop (getN b).2.1)).1).length = (getN b).1 := by
  have htl : (b.take n).length = n := by simp; omega
  have htt : (b.take n).take (n - 4) = b.take (n - 4) := by rw [List.take_take, Nat.min_eq_left (by omega)]
  have hk := get_k_le hb h1
  have hs := (seal_take (b.take n) (by omega)).1 h3
  rw [htl, htt] at hs
  have hw := get_whole hb h1 (n - 4) (by omega)
  have hwb : ∀ c ∈ b.take (n - 4), c < 256 := fun c hc => hb c (List.mem_of_mem_take hc)
  obtain ⟨e1, e2, e3⟩ := get_ok hwb (by rw [hw])
  rw [hw] at e1 e2 e3
  simp only [] at e1 e2 e3
  have hwl : (b.take (n - 4)).length = n - 4 := by simp; omega
  generalize hwg : b.take (n - 4) = w at *
  obtain ⟨l', f1, f2, f3, f4⟩ := all_ok (w.drop (getN b).2.1).length (w.drop (getN b).2.1) 0 [] (allN (w.drop (getN b).2.1)).1 (allN (w.drop (getN b).2.1)).2.1 (fun c hc => hwb c (List.mem_of_mem_drop hc)) (by omega) (by
    show allN (w.drop (getN b).2.1) = _
    rw [← ha])
  rw [List.nil_append] at f1
  rw [List.drop_zero] at f2
  rw [f1]
  have hbl : (bytesN l').length = (getN b).1 := by rw [← f2, List.length_drop]; omega
  refine ⟨?_, f3, hbl⟩
  rw [← hs, wholeB, hbl, ← f2, ← e1]
theorem nums_lt64 {f : Int} {R : List Run} (hc : chkB f R = 0) : ∀ n ∈ numsN f R, n < 18446744073709551616 := fun n hn => by
  obtain ⟨h1, h2, h3, h4, h5, h6⟩ := chkB_ok hc
  have := nums_lt h1 h3 (chk_right h4).1 n hn
  omega
theorem nums_bytes {f : Int} {R : List Run} (hc : chkB f R = 0) : (bytesN (numsN f R)).length ≤ 82000 := by
  obtain ⟨h1, h2, h3, h4, h5, h6⟩ := chkB_ok hc
  exact inside_len h1 h3 (chk_right h4).1
theorem wholeB_byte (l : List Nat) (hl : ∀ n ∈ l, n < 18446744073709551616) (hll : (bytesN l).length < 18446744073709551616) : ∀ c ∈ wholeB l, c < 256 := by
  intro c hc
  simp only [wholeB, sealB, List.mem_append] at hc
  rcases hc with (hc | hc) | hc
  · exact putN_byte 9 _ (by omega) c hc
  · exact bytes_byte l hl c hc
  · exact tail_byte _ c hc
theorem allN_length : ∀ (d : Nat) (b : List Nat) (p : Nat) (acc : List Nat), (∀ c ∈ b, c < 256) → acc.length ≤ p → p ≤ b.length → (allGo d b p acc).1.length ≤ b.length
  | 0, b, p, acc, _, h, hp => by simp [allGo]; omega
  | d + 1, b, p, acc, hb, h, hp => by
    rw [allGo]
    split
    · simp; omega
    · split
      · rename_i h1 h2
        have hk := get_k_le (fun c hc => hb c (List.mem_of_mem_drop hc)) h2
        simp at hk
        exact allN_length d b _ _ hb (by simp; omega) (by omega)
      · simp
theorem rget15_spec (b : List Nat) (hb : ∀ c ∈ b, c < 256) (hl : b.length ≤ 1000000) (nl fu : Bool) :
    call E (.func (.func 110) [] []) [.imm nl fu true (b.map encB)] []
      = some (.tup [.agg [.lit (.int .i64 (getB b).1.1), resV 0 ((getB b).1.2.map encRun)], .lit (.int .i64 (getB b).2.1), .lit (.int .i64 (getB b).2.2)], resHl true ((getB b).1.2.map encRun)) := by
  rw [call_func E E110]
  have hS := rsize_spec b hb (by omega) nl fu
  by_cases h1 : (sizeB b).2 = 0
  · obtain ⟨g1, g2, g3, g4, g5⟩ := size_ok hb h1
    by_cases h2 : (b.length : Int) < (sizeB b).1
    · have e : getB b = ((0, []), 0, 13) := by unfold getB; rw [if_neg (by simp [h1]), if_pos h2]
      rw [h1] at hS
      simp [go_sem, ir110, hS, e, h2, resV, resHl, purse_eq]
    · generalize hn : (getN b).2.1 + (getN b).1 + 4 = n at *
      rw [g3] at hS h2
      simp only [] at hS h2
      have hnle : n ≤ b.length := by omega
      have hr := rowsB b
      have hbt : ∀ c ∈ b.take n, c < 256 := fun c hc => hb c (List.mem_of_mem_take hc)
      have hO := ropen_spec (b.take n) hbt (by simp; omega) nl (fu && decide (n = b.length))
      have htl : (b.take n).length = n := by simp; omega
      have htt : (b.take n).take (n - 4) = b.take (n - 4) := by rw [List.take_take, Nat.min_eq_left (by omega)]
      have hdn : decide (n - 4 = n) = false := decide_eq_false (by omega)
      rw [htl, htt, hdn, Bool.and_false] at hO
      by_cases h3 : openE (b.take n) = 0
      · rw [if_pos h3] at hO
        have hw := get_whole hb g1 (n - 4) (by omega)
        have hwb : ∀ c ∈ b.take (n - 4), c < 256 := fun c hc => hb c (List.mem_of_mem_take hc)
        have hG := rget_spec (b.take (n - 4)) hwb (by simp; omega) nl false
        have hA := rall_spec ((b.take (n - 4)).drop (getN b).2.1) (fun c hc => hwb c (List.mem_of_mem_drop hc)) (by simp; omega) nl false
        have hWT := whole_take hb g1 hn hnle h3
        have hal := allN_length ((b.take (n - 4)).drop (getN b).2.1).length ((b.take (n - 4)).drop (getN b).2.1) 0 [] (fun c hc => hwb c (List.mem_of_mem_drop hc)) (by simp) (by omega)
        rw [show allGo ((b.take (n - 4)).drop (getN b).2.1).length ((b.take (n - 4)).drop (getN b).2.1) 0 [] = allN ((b.take (n - 4)).drop (getN b).2.1) from rfl] at hal
        have e : getB b = if (allN ((b.take (n - 4)).drop (getN b).2.1)).2.2 = 0 ∧ insOk (allN ((b.take (n - 4)).drop (getN b).2.1)).1 = true then
            ((((insA (allN ((b.take (n - 4)).drop (getN b).2.1)).1).1 : Int), (insR (allN ((b.take (n - 4)).drop (getN b).2.1)).1).2), (n : Int), 0) else ((0, []), 0, 11) := by
          unfold getB
          rw [g3, if_neg (by simp), if_neg (by simpa using h2)]
          simp only [Int.toNat_natCast]
          rw [if_neg (by simp [h3])]
        have hwl : (b.take (n - 4)).length = n - 4 := by simp; omega
        rw [hw] at hG
        rw [List.map_drop] at hA
        have hrw := rowsB (b.take (n - 4))
        have htw := take_allB (b.take (n - 4))
        have hkn : (getN b).2.1 ≤ n - 4 := by omega
        have hdl : ((b.take (n - 4)).drop (getN b).2.1).length ≤ b.length := by simp; omega
        clear htt hw hwb
        generalize b.take (n - 4) = w at *
        have hle : w.length + 4 = n := by omega
        rw [hwl] at htw
        rw [List.map_take] at hO
        generalize allN (w.drop (getN b).2.1) = a at *
        have hOf := of_spec a.1 (by omega) false (a.1.isEmpty)
        have hon := of_ins a.1
        have hof := of_ins_eq (l := a.1)
        have hod := of_drive a.1
        have hol := of_length a.1
        by_cases ha : a.2.2 = 0
        · rw [if_pos ha] at hA
          obtain ⟨w1, w2, w3⟩ := hWT ha
          have hCk := fun nl fu => rcheck_spec (ofR a.1).1 (by
            have : ∀ l : List Nat, -1 ≤ (ofR l).1 ∧ (ofR l).1 ≤ 1073741824 := by
              intro l
              match l with
              | [] => simp [ofR]
              | [_] => simp [ofR]
              | x :: y :: r =>
                rw [ofR]
                split
                · simp
                · split <;> simp; omega
            have := this a.1
            omega) (ofR a.1).2 (by omega) nl fu
          have hlt64 : ∀ m, m = ofR a.1 → chkB m.1 m.2 = 0 → (wholeB (numsN m.1 m.2) = b.take n ↔ numsN m.1 m.2 = a.1) := by
            intro m hm hc
            constructor
            · intro hW
              rw [w1] at hW
              exact wholeB_inj (nums_lt64 hc) w2 (by have := nums_bytes hc; omega) (by omega) hW
            · intro hN
              rw [hN, w1]
          generalize hx : ofR a.1 = x at *
          obtain ⟨f, R⟩ := x
          simp only [] at hOf hon hCk hol
          by_cases hc : chkB f R = 0
          · have hRne := (chkB_ok hc).2.1
            have hP := rput15_spec f R false false hc
            have hCk1 := hCk false false
            rw [hc] at hCk1
            have hw64 := hlt64 (f, R) rfl hc
            have hwby := wholeB_byte (numsN f R) (nums_lt64 hc) (by have := nums_bytes hc; omega)
            simp only [] at hw64
            generalize wholeB (numsN f R) = W at hP hw64 hwby
            have hb1 := bytesOf_map W
            have hb2 : bytesOf (List.take n (List.map encB b)) = some ((b.take n).map UInt8.ofNat) := by rw [← List.map_take, bytesOf_map]
            have hWm : (W.map UInt8.ofNat == (b.take n).map UInt8.ofNat) = decide (W = b.take n) := by
              by_cases hq : W = b.take n
              · rw [hq]; simp
              · rw [decide_eq_false hq, beq_eq_false_iff_ne]
                exact fun e => hq (map_ofNat_inj hwby hbt e)
            generalize W.map UInt8.ofNat = S1 at hb1 hWm
            generalize (b.take n).map UInt8.ofNat = S2 at hb2 hWm
            by_cases hW : W = b.take n
            · have hok : insOk a.1 = true := hon.1 ⟨hc, hw64.1 hW⟩
              have e3 := hof hok
              simp only [Prod.mk.injEq] at e3
              have e2 : getB b = ((f, R), (n : Int), 0) := by rw [e, if_pos ⟨ha, hok⟩, ← e3.1, ← e3.2]
              simp [hle] at hO hA hG
              simp [resV, resH, hRne] at hOf
              simp [encBlk] at hCk1 hP
              rw [decide_eq_true hW] at hWm
              simp at hWm
              subst hWm
              simp [go_sem, ir110, hS, e2, h2, hnle, hr, hO, h3, hG, hkn, hwl, hrw, htw, hA, hOf, hCk1, hP, hb1, hb2, resV, resHl, hRne, purse_eq]
            · have hok : insOk a.1 = false := by
                cases hq : insOk a.1 with
                | false => rfl
                | true => exact absurd (hw64.2 (hon.2 hq).2) hW
              have e2 : getB b = ((0, []), 0, 11) := by rw [e, if_neg (by rw [hok]; simp)]
              simp [hle] at hO hA hG
              simp [resV, resH, hRne] at hOf
              simp [encBlk] at hCk1 hP
              rw [decide_eq_false hW] at hWm
              simp at hWm
              simp [go_sem, ir110, hS, e2, h2, hnle, hr, hO, h3, hG, hkn, hwl, hrw, htw, hA, hOf, hCk1, hP, hb1, hb2, hWm, resV, resHl, hRne, purse_eq]
          · have hok : insOk a.1 = false := by
              cases hq : insOk a.1 with
              | false => rfl
              | true => exact absurd (hon.2 hq).1 hc
            have e2 : getB b = ((0, []), 0, 11) := by rw [e, if_neg (by rw [hok]; simp)]
            simp [hle] at hO hA hG
            by_cases hR : R = []
            · subst hR
              have hCk1 := hCk true true
              simp [resV, resH] at hOf
              simp [encBlk] at hCk1
              simp [go_sem, ir110, hS, e2, h2, hnle, hr, hO, h3, hG, hkn, hwl, hrw, htw, hA, hOf, hCk1, hc, resV, resHl, purse_eq]
            · have hCk1 := hCk false false
              simp [resV, resH, hR] at hOf
              simp [encBlk] at hCk1
              simp [go_sem, ir110, hS, e2, h2, hnle, hr, hO, h3, hG, hkn, hwl, hrw, htw, hA, hOf, hCk1, hc, hR, resV, resHl, purse_eq]
        · rw [if_neg ha] at hA
          have hOf0 := of_spec [] (by simp) true true
          have e2 : getB b = ((0, []), 0, 11) := by rw [e, if_neg (fun h => ha h.1)]
          rw [show ofR [] = (-1, []) from rfl] at hOf0
          simp [resV, resH] at hOf0
          simp [hle] at hO hA hG
          simp [go_sem, ir110, hS, e2, h2, hnle, hr, hO, h3, hG, hkn, hwl, hrw, htw, hA, hOf0, ha, resV, resHl, purse_eq]
      · rw [if_neg h3] at hO
        have e : getB b = ((0, []), 0, openE (b.take n)) := by
          unfold getB
          rw [g3, if_neg (by simp), if_neg (by simpa using h2)]
          simp only [Int.toNat_natCast]
          rw [if_pos h3]
        rw [List.map_take] at hO
        simp [go_sem, ir110, hS, e, h2, hnle, hr, hO, h3, resV, resHl, purse_eq]
  · have e : getB b = ((0, []), 0, (sizeB b).2) := by unfold getB; rw [if_pos h1]
    simp [go_sem, ir110, hS, e, h1, resV, resHl, purse_eq]
end Go.AM.R1
open Go Go.AM
namespace Go.AM.R1

/-! ### A block that is put is got, and what is got was put -/
theorem bytes_len5 (l : List Nat) (h : ∀ n ∈ l, n < 4294967296) : (bytesN l).length ≤ 5 * l.length := by
  induction l with
  | nil => simp [bytesN]
  | cons n l ih =>
    have h1 := putN_length 4 n (by have := h n (by simp); omega)
    have h2 := ih fun m hm => h m (by simp [hm])
    simp only [bytesN, List.flatMap_cons, List.length_append, List.length_cons] at h2 ⊢
    omega
theorem inside_65536 {f : Int} {R : List Run} (hc : chkB f R = 0) : (bytesN (numsN f R)).length ≤ 41000 := by
  obtain ⟨h1, h2, h3, h4, h5, h6⟩ := chkB_ok hc
  have := bytes_len5 (numsN f R) (nums_lt h1 h3 (chk_right h4).1)
  have e : (numsN f R).length = 2 * R.length + 2 := by simp only [numsN, List.length_cons, runN_length]
  omega
theorem whole_len (l : List Nat) : (wholeB l).length = (putN (bytesN l).length).length + (bytesN l).length + 4 := whole_length l
theorem size_put {l : List Nat} (hl : (bytesN l).length ≤ 65536) (r : List Nat) : getN (wholeB l ++ r) = ((bytesN l).length, (putN (bytesN l).length).length, 0) ∧ sizeB (wholeB l ++ r) = (((wholeB l).length : Int), 0) := by
  have e : wholeB l ++ r = putN (bytesN l).length ++ (bytesN l ++ (tailN (crc (putN (bytesN l).length ++ bytesN l)).toNat ++ r)) := by
    simp [wholeB, sealB]
  have hg : getN (wholeB l ++ r) = ((bytesN l).length, (putN (bytesN l).length).length, 0) := by rw [e]; exact get_put (by omega) _
  refine ⟨hg, ?_⟩
  unfold sizeB
  rw [hg, if_neg (by simp), if_neg (by simp; omega), whole_len]
theorem get_of_put {f : Int} {R : List Run} (hc : chkB f R = 0) (hd : ∀ r ∈ R, 0 ≤ r.Drive ∧ r.Drive ≤ 4294967295) (r : List Nat) :
    getB (wholeB (numsN f R) ++ r) = ((f, R), ((wholeB (numsN f R)).length : Int), 0) := by
  have hlen := inside_65536 hc
  obtain ⟨hg, hs⟩ := size_put (l := numsN f R) (by omega) r
  have hn64 := nums_lt64 hc
  have hwl := whole_len (numsN f R)
  have hW4 : (wholeB (numsN f R)).take ((wholeB (numsN f R)).length - 4) = putN (bytesN (numsN f R)).length ++ bytesN (numsN f R) := by
    rw [whole_len]
    unfold wholeB sealB
    rw [List.take_append_of_le_length (by simp <;> omega), List.take_of_length_le (by simp)]
  have hT : (wholeB (numsN f R) ++ r).take (wholeB (numsN f R)).length = wholeB (numsN f R) := by rw [List.take_append_of_le_length (by omega), List.take_length]
  have hO : openE (wholeB (numsN f R)) = 0 := by
    rw [seal_take _ (by omega), hW4]; rfl
  have hT4 : (wholeB (numsN f R) ++ r).take ((wholeB (numsN f R)).length - 4) = putN (bytesN (numsN f R)).length ++ bytesN (numsN f R) := by
    rw [List.take_append_of_le_length (by omega), hW4]
  have hA : allN (bytesN (numsN f R)) = (numsN f R, 0, 0) := by
    have := all_bytes (numsN f R) (bytesN (numsN f R)).length (bytesN (numsN f R)) 0 [] rfl hn64 (by omega)
    simpa [allN] using this
  obtain ⟨i1, i2, i3, i4⟩ := ins_nums hc hd
  unfold getB
  rw [hs, if_neg (by simp), if_neg (by simp; omega)]
  simp only [Int.toNat_natCast]
  rw [hT, if_neg (by simp [hO]), hT4, hg]
  simp only []
  rw [List.drop_left, hA]
  simp only []
  rw [if_pos ⟨trivial, i3⟩, i1, i2]
/-- What is got. -/
theorem put_of_get {b : List Nat} (hb : ∀ c ∈ b, c < 256) (h : (getB b).2.2 = 0) :
    ∃ (f : Int) (R : List Run) (n : Nat), getB b = ((f, R), (n : Int), 0) ∧ chkB f R = 0 ∧ (∀ r ∈ R, 0 ≤ r.Drive ∧ r.Drive ≤ 4294967295) ∧ b.take n = wholeB (numsN f R) ∧ 1 ≤ n ∧ n ≤ b.length := by
  unfold getB at h
  split at h
  · rename_i h1; simp at h; exact absurd h h1
  · rename_i h1
    have h1' : (sizeB b).2 = 0 := by simpa using h1
    obtain ⟨g1, g2, g3, g4, g5⟩ := size_ok hb h1'
    split at h
    · simp at h
    · rename_i h2
      split at h
      · rename_i h3; simp at h; exact absurd h h3
      · rename_i h3
        split at h
        · rename_i h4
          rw [g3] at h2 h3 h4
          simp only [Int.toNat_natCast] at h2 h3 h4
          have hle : (getN b).2.1 + (getN b).1 + 4 ≤ b.length := by omega
          have h3' : openE (b.take ((getN b).2.1 + (getN b).1 + 4)) = 0 := by simpa using h3
          obtain ⟨w1, w2, w3⟩ := whole_take hb g1 rfl hle h3' h4.1
          obtain ⟨i1, i2, i3⟩ := ins_good h4.2
          refine ⟨_, _, (getN b).2.1 + (getN b).1 + 4, ?_, i1, i3, ?_, by omega, hle⟩
          · unfold getB
            rw [g3, if_neg (by simp)]
            simp only [Int.toNat_natCast]
            rw [if_neg h2, if_neg h3, if_pos h4]
          · rw [w1, i2]
        · simp at h
theorem get_bad {b : List Nat} (h : (getB b).2.2 ≠ 0) : (getB b).1 = (0, []) ∧ (getB b).2.1 = 0 := by
  unfold getB at h ⊢
  split
  · exact ⟨rfl, rfl⟩
  · rename_i h1
    rw [if_neg h1] at h
    split
    · exact ⟨rfl, rfl⟩
    · rename_i h2
      rw [if_neg h2] at h
      split
      · exact ⟨rfl, rfl⟩
      · rename_i h3
        rw [if_neg h3] at h
        split
        · rename_i h4
          rw [if_pos h4] at h; simp at h
        · exact ⟨rfl, rfl⟩
theorem chkB_Ok {f : Int} {R : List Run} (hc : chkB f R = 0) : ∀ r ∈ R, r.Ok := fun r hr => by
  have := (chk_right (chkB_ok hc).2.2.2.1).1 r hr
  exact ⟨by omega, by omega⟩
end Go.AM.R1
open Go Go.AM Go.Proofs
namespace Go.AM.R1

section
variable {H : Type} {P : Program}
theorem decV_int {n : Nat} {t : TypeId} {ik : IntKind} (hu : P.underlying t = some (.int ik)) {d : DataW H} {a : AVal} (h : DecV P (n + 1) t d a) :
    ∃ v, d = .lit (.int ik v) ∧ (Lit.int ik v).wf = true ∧ a = .lit (.int ik v) := by
  unfold DecV at h
  rw [if_neg (by simp [isAggT, hu])] at h
  simp only [Dec, hu] at h
  obtain ⟨v, h1, h2, h3⟩ := h
  exact ⟨v, h1, h2, by simpa using h3⟩
theorem all2_forall {α β : Type} {R : α → β → Prop} {Q : β → Prop} (h : ∀ a b, R a b → Q b) : ∀ {l : List α} {m : List β}, All2 R l m → ∀ b ∈ m, Q b
  | [], [], _, b, hb => by cases hb
  | [], _ :: _, h', _, _ => h'.elim
  | _ :: _, [], h', _, _ => h'.elim
  | a :: r, c :: s, h', b, hb => by
    rcases List.mem_cons.1 hb with rfl | hb
    · exact h _ _ h'.1
    · exact all2_forall h h'.2 b hb
theorem all2_length {α β : Type} {R : α → β → Prop} : ∀ {l : List α} {m : List β}, All2 R l m → l.length = m.length
  | [], [], _ => rfl
  | [], _ :: _, h' => h'.elim
  | _ :: _, [], h' => h'.elim
  | a :: r, c :: s, h' => by simp [all2_length h'.2]
/-- Rows that are all of a form. -/
theorem rows_map {α : Type} (f : α → List AVal) (Q : α → Prop) : ∀ {rows : List (List AVal)}, (∀ r ∈ rows, ∃ x, r = f x ∧ Q x) → ∃ l : List α, rows = l.map f ∧ ∀ x ∈ l, Q x
  | [], _ => ⟨[], rfl, by simp⟩
  | r :: s, h => by
    obtain ⟨x, hx, hq⟩ := h r (by simp)
    obtain ⟨l, hl, hl2⟩ := rows_map f Q (rows := s) fun y hy => h y (by simp [hy])
    exact ⟨x :: l, by rw [hx, hl]; rfl, fun y hy => by rcases List.mem_cons.1 hy with rfl | hy <;> simp_all⟩

theorem wf64 {v : Int} (h : (Lit.int .i64 v).wf = true) : -9223372036854775808 ≤ v ∧ v ≤ 9223372036854775807 := by
  simpa [Lit.wf, IntKind.min, IntKind.max, IntKind.signed, IntKind.bits] using h
theorem wfu32 {v : Int} (h : (Lit.int .u32 v).wf = true) : 0 ≤ v ∧ v ≤ 4294967295 := by
  simpa [Lit.wf, IntKind.min, IntKind.max, IntKind.signed, IntKind.bits] using h

theorem fieldsR_cons {α β : Type} {R : TypeId → α → β → Prop} {f : Field} {fs : List Field} : ∀ {l : List α} {m : List β}, FieldsR R (f :: fs) l m → ∃ a r b s, l = a :: r ∧ m = b :: s ∧ R f.type a b ∧ FieldsR R fs r s
  | [], _, h => h.elim
  | _ :: _, [], h => h.elim
  | a :: r, b :: s, h => ⟨a, r, b, s, rfl, rfl, h.1, h.2⟩
theorem fieldsR_nil {α β : Type} {R : TypeId → α → β → Prop} : ∀ {l : List α} {m : List β}, FieldsR R [] l m → l = [] ∧ m = []
  | [], [], _ => ⟨rfl, rfl⟩
  | [], _ :: _, h => h.elim
  | _ :: _, _, h => h.elim
theorem decArgs_cons {k : Nat} {t : TypeId} {ts : List TypeId} : ∀ {ds : List (DataW H)} {cs : List AVal}, DecArgs P k (t :: ts) ds cs → ∃ d r b s, ds = d :: r ∧ cs = b :: s ∧ DecV P k t d b ∧ DecArgs P k ts r s
  | [], _, h => h.elim
  | _ :: _, [], h => h.elim
  | d :: r, b :: s, h => ⟨d, r, b, s, rfl, rfl, h.1, h.2⟩
theorem decArgs_nil {k : Nat} : ∀ {ds : List (DataW H)} {cs : List AVal}, DecArgs P k [] ds cs → ds = [] ∧ cs = []
  | [], [], _ => ⟨rfl, rfl⟩
  | [], _ :: _, h => h.elim
  | _ :: _, _, h => h.elim
structure IsRun (P : Program) (t : TypeId) where
  f1 : Field
  f2 : Field
  f3 : Field
  hu : P.underlying t = some (.struct #[f1, f2, f3])
  h1 : P.underlying f1.type = some (.int .i64)
  h2 : P.underlying f2.type = some (.int .i64)
  h3 : P.underlying f3.type = some (.int .u32)
def Run.Fit (r : Run) : Prop := (-9223372036854775808 ≤ r.N ∧ r.N ≤ 9223372036854775807) ∧ (-9223372036854775808 ≤ r.Bus ∧ r.Bus ≤ 9223372036854775807) ∧ (0 ≤ r.Drive ∧ r.Drive ≤ 4294967295)
theorem dec_run {n : Nat} {t : TypeId} (i : IsRun P t) {d : DataW H} {cs : List AVal} (h : Dec P (n + 2) t d cs) : ∃ r : Run, cs = encRun r ∧ r.Fit := by
  simp only [Dec, i.hu] at h
  obtain ⟨parts, ass, -, rfl, hf⟩ := h
  obtain ⟨p1, ps1, a1, as1, rfl, rfl, r1, hf⟩ := fieldsR_cons hf
  obtain ⟨p2, ps2, a2, as2, rfl, rfl, r2, hf⟩ := fieldsR_cons hf
  obtain ⟨p3, ps3, a3, as3, rfl, rfl, r3, hf⟩ := fieldsR_cons hf
  obtain ⟨rfl, rfl⟩ := fieldsR_nil hf
  simp only [Dec, i.h1, i.h2, i.h3] at r1 r2 r3
  obtain ⟨v1, -, w1, rfl⟩ := r1
  obtain ⟨v2, -, w2, rfl⟩ := r2
  obtain ⟨v3, -, w3, rfl⟩ := r3
  exact ⟨⟨v1, v2, v3⟩, rfl, wf64 w1, wf64 w2, wfu32 w3⟩
theorem dec_runs {n : Nat} {t e : TypeId} (hu : P.underlying t = some (.slice e)) (i : IsRun P e) {d : DataW H} {a : AVal} (h : DecV P (n + 3) t d a) :
    ∃ (nl fu : Bool) (l : List Run), a = .imm nl fu true (l.map encRun) ∧ ∀ r ∈ l, r.Fit := by
  unfold DecV at h
  rw [if_neg (by simp [isAggT, hu])] at h
  rw [Dec, hu] at h
  rcases h with ⟨-, h⟩ | ⟨elems, spare, rows, -, h, h2⟩
  · exact ⟨true, true, [], by simpa [nilS] using h, by simp⟩
  · obtain ⟨l, rfl, hl⟩ := rows_map encRun Run.Fit (all2_forall (Q := fun b => ∃ r : Run, b = encRun r ∧ r.Fit) (fun a b hab => dec_run i hab) h2)
    exact ⟨false, false, l, by simpa using h, hl⟩
theorem all2_flat {α : Type} (f : α → List AVal) (Q : α → Prop) {R : DataW H → List AVal → Prop} (h : ∀ d a, R d a → ∃ x, a = f x ∧ Q x) :
    ∀ {ds : List (DataW H)} {ass : List (List AVal)}, All2 R ds ass → ∃ l : List α, l.length = ds.length ∧ ass = l.map f ∧ ∀ x ∈ l, Q x
  | [], [], _ => ⟨[], rfl, rfl, by simp⟩
  | [], _ :: _, h' => h'.elim
  | _ :: _, [], h' => h'.elim
  | d :: ds, a :: ass, h' => by
    obtain ⟨x, hx, hq⟩ := h _ _ h'.1
    obtain ⟨l, h1, h2, h3⟩ := all2_flat f Q h h'.2
    exact ⟨x :: l, by simp [h1], by rw [hx, h2]; rfl, fun y hy => by rcases List.mem_cons.1 hy with rfl | hy <;> simp_all⟩
theorem decV_ints {n m : Nat} {t e : TypeId} {ik : IntKind} (hu : P.underlying t = some (.array m e)) (he : P.underlying e = some (.int ik)) {d : DataW H} {a : AVal} (h : DecV P (n + 2) t d a) :
    ∃ l : List Int, l.length = m ∧ a = .agg (l.map fun v => .lit (.int ik v)) ∧ ∀ v ∈ l, (Lit.int ik v).wf = true := by
  unfold DecV at h
  rw [if_pos (by simp [isAggT, hu])] at h
  obtain ⟨cs, rfl, h⟩ := h
  rw [Dec, hu] at h
  obtain ⟨parts, ass, -, rfl, hm, h2⟩ := h
  obtain ⟨l, h3, rfl, h5⟩ := all2_flat (fun v => [AVal.lit (.int ik v)]) (fun v => (Lit.int ik v).wf = true) (fun d a hda => by
    simp only [Dec, he] at hda
    obtain ⟨v, -, hw, rfl⟩ := hda
    exact ⟨v, rfl, hw⟩) h2
  refine ⟨l, by omega, ?_, h5⟩
  congr 1
  clear h5 h3 h2
  induction l with
  | nil => rfl
  | cons x r ih => simp [ih]
end
end Go.AM.R1
open Go Go.AM Go.Proofs
namespace Go.AM.R1
section
variable {H : Type} {P : Program}
theorem dec_runs' {n : Nat} {t e : TypeId} (hu : P.underlying t = some (.slice e)) (i : IsRun P e) {d : DataW H} {cs : List AVal} (h : Dec P (n + 3) t d cs) :
    ∃ (nl fu : Bool) (l : List Run), cs = [.imm nl fu true (l.map encRun)] ∧ ∀ r ∈ l, r.Fit := by
  rw [Dec, hu] at h
  rcases h with ⟨-, h⟩ | ⟨elems, spare, rows, -, h, h2⟩
  · exact ⟨true, true, [], by simpa [nilS] using h, by simp⟩
  · obtain ⟨l, rfl, hl⟩ := rows_map encRun Run.Fit (all2_forall (Q := fun b => ∃ r : Run, b = encRun r ∧ r.Fit) (fun a b hab => dec_run i hab) h2)
    exact ⟨false, false, l, h, hl⟩
theorem decV_block {n : Nat} {t e : TypeId} {f1 f2 : Field} (hu : P.underlying t = some (.struct #[f1, f2])) (h1 : P.underlying f1.type = some (.int .i64)) (h2 : P.underlying f2.type = some (.slice e)) (i : IsRun P e)
    {d : DataW H} {a : AVal} (h : DecV P (n + 4) t d a) : ∃ (first : Int) (nl fu : Bool) (l : List Run), a = .agg (encBlk first l nl fu) ∧ (Lit.int .i64 first).wf = true ∧ ∀ r ∈ l, r.Fit := by
  unfold DecV at h
  rw [if_pos (by simp [isAggT, hu])] at h
  obtain ⟨cs, rfl, h⟩ := h
  rw [Dec, hu] at h
  obtain ⟨parts, ass, -, rfl, hf⟩ := h
  obtain ⟨p1, ps1, a1, as1, rfl, rfl, r1, hf⟩ := fieldsR_cons hf
  obtain ⟨p2, ps2, a2, as2, rfl, rfl, r2, hf⟩ := fieldsR_cons hf
  obtain ⟨rfl, rfl⟩ := fieldsR_nil hf
  simp only [Dec, h1] at r1
  obtain ⟨v1, -, w1, rfl⟩ := r1
  obtain ⟨nl, fu, l, rfl, hl⟩ := dec_runs' h2 i r2
  exact ⟨v1, nl, fu, l, rfl, w1, hl⟩
/-- Bytes. -/
theorem decV_bytes {n : Nat} {t e : TypeId} (hu : P.underlying t = some (.slice e)) (he : P.underlying e = some (.int .u8)) {d : DataW H} {a : AVal} (h : DecV P (n + 2) t d a) :
    ∃ (nl fu : Bool) (l : List Nat), a = .imm nl fu true (l.map encB) ∧ (nl = false ∨ l = []) ∧ ∀ c ∈ l, c < 256 := by
  unfold DecV at h
  rw [if_neg (by simp [isAggT, hu])] at h
  rw [Dec, hu] at h
  rcases h with ⟨-, h⟩ | ⟨elems, spare, rows, -, h, h2⟩
  · exact ⟨true, true, [], by simpa [nilS] using h, .inr rfl, by simp⟩
  · obtain ⟨l, rfl, hl⟩ := rows_map encB (fun c => c < 256) (all2_forall (Q := fun b => ∃ c : Nat, b = encB c ∧ c < 256) (fun a b hab => by
      simp only [Dec, he] at hab
      obtain ⟨v, -, hw, rfl⟩ := hab
      have hv : 0 ≤ v ∧ v ≤ 255 := by simpa [Lit.wf, IntKind.min, IntKind.max, IntKind.signed, IntKind.bits] using hw
      refine ⟨v.toNat, ?_, by omega⟩
      unfold encB
      rw [show ((v.toNat : Nat) : Int) = v from by omega]) h2)
    exact ⟨false, false, l, by simpa using h, .inl rfl, hl⟩
end
end Go.AM.R1
open Go Go.AM
namespace Go.AM.R1

/-! ### Scripts -/
def encScr (node first : Int) (l : List Run) (nl fu : Bool) : List AVal := [.lit (.int .i64 node), .lit (.int .i64 first), .imm nl fu true (l.map encRun)]
def okR (r : Run) : Bool := decide (1 ≤ r.N) && decide (r.N ≤ 1073741824) && (decide (0 ≤ r.Bus) && decide (r.Bus ≤ 1))
def okP (node first : Int) : Bool := decide (0 ≤ node) && decide (node ≤ 31) && (decide (0 ≤ first) && decide (first ≤ 1073741824))
/-- How a script is wrong. -/
def chkS (node first : Int) (l : List Run) : Int := if okP node first = true ∧ l.all okR = true then (if 1073741824 < sumN l then 12 else 0) else 10
theorem okR_N {r : Run} (h : okR r = true) : (1 ≤ r.N ∧ r.N ≤ 1073741824) ∧ (0 ≤ r.Bus ∧ r.Bus ≤ 1) := by
  simp [okR] at h; omega
/-- The place of the first one that is so. -/
def findI {α : Type} (p : α → Bool) : Nat → List α → Int
  | _, [] => -1
  | i, r :: l => if p r = true then (i : Int) else findI p (i + 1) l
theorem findI_ge {α : Type} (p : α → Bool) : ∀ (l : List α) (i : Nat), (decide ((0 : Int) ≤ findI p i l)) = l.any p
  | [], i => by simp [findI]
  | r :: l, i => by
    rw [findI, List.any_cons]
    cases hp : p r with
    | true => simp
    | false => simp [findI_ge p l]
theorem any_not {α : Type} (p : α → Bool) (l : List α) : (l.any fun x => !p x) = !(l.all p) := by
  induction l with
  | nil => rfl
  | cons x r ih => simp [List.any_cons, List.all_cons, ih, Bool.not_and]
end Go.AM.R1
open Go Go.AM Go.Proofs
namespace Go.AM.R1
section
variable {H : Type} {P : Program}
structure IsScr (P : Program) (t : TypeId) where
  f1 : Field
  f2 : Field
  f3 : Field
  e : TypeId
  hu : P.underlying t = some (.struct #[f1, f2, f3])
  h1 : P.underlying f1.type = some (.int .i64)
  h2 : P.underlying f2.type = some (.int .i64)
  h3 : P.underlying f3.type = some (.slice e)
  i : IsRun P e
structure Scr where
  node : Int
  first : Int
  runs : List Run
  nl : Bool
  fu : Bool
def encS (s : Scr) : List AVal := encScr s.node s.first s.runs s.nl s.fu
def Scr.Fit (s : Scr) : Prop := (-9223372036854775808 ≤ s.node ∧ s.node ≤ 9223372036854775807) ∧ (-9223372036854775808 ≤ s.first ∧ s.first ≤ 9223372036854775807) ∧ ∀ r ∈ s.runs, r.Fit
theorem dec_scr {n : Nat} {t : TypeId} (i : IsScr P t) {d : DataW H} {cs : List AVal} (h : Dec P (n + 4) t d cs) : ∃ s : Scr, cs = encS s ∧ s.Fit := by
  rw [Dec, i.hu] at h
  obtain ⟨parts, ass, -, rfl, hf⟩ := h
  obtain ⟨p1, ps1, a1, as1, rfl, rfl, r1, hf⟩ := fieldsR_cons hf
  obtain ⟨p2, ps2, a2, as2, rfl, rfl, r2, hf⟩ := fieldsR_cons hf
  obtain ⟨p3, ps3, a3, as3, rfl, rfl, r3, hf⟩ := fieldsR_cons hf
  obtain ⟨rfl, rfl⟩ := fieldsR_nil hf
  simp only [Dec, i.h1, i.h2] at r1 r2
  obtain ⟨v1, -, w1, rfl⟩ := r1
  obtain ⟨v2, -, w2, rfl⟩ := r2
  obtain ⟨nl, fu, l, rfl, hl⟩ := dec_runs' i.h3 i.i r3
  exact ⟨⟨v1, v2, l, nl, fu⟩, rfl, wf64 w1, wf64 w2, hl⟩
theorem decV_scr {n : Nat} {t : TypeId} (i : IsScr P t) {d : DataW H} {a : AVal} (h : DecV P (n + 4) t d a) : ∃ s : Scr, a = .agg (encS s) ∧ s.Fit := by
  unfold DecV at h
  rw [if_pos (by simp [isAggT, i.hu])] at h
  obtain ⟨cs, rfl, h⟩ := h
  obtain ⟨s, rfl, hs⟩ := dec_scr i h
  exact ⟨s, rfl, hs⟩
/-- Rows of scripts. -/
theorem decV_scrs {n : Nat} {t e : TypeId} (hu : P.underlying t = some (.slice e)) (i : IsScr P e) {d : DataW H} {a : AVal} (h : DecV P (n + 5) t d a) :
    ∃ (nl fu : Bool) (l : List Scr), a = .imm nl fu true (l.map encS) ∧ ∀ r ∈ l, r.Fit := by
  unfold DecV at h
  rw [if_neg (by simp [isAggT, hu])] at h
  rw [Dec, hu] at h
  rcases h with ⟨-, h⟩ | ⟨elems, spare, rows, -, h, h2⟩
  · exact ⟨true, true, [], by simpa [nilS] using h, by simp⟩
  · obtain ⟨l, rfl, hl⟩ := rows_map encS Scr.Fit (all2_forall (Q := fun b => ∃ r : Scr, b = encS r ∧ r.Fit) (fun a b hab => dec_scr i hab) h2)
    exact ⟨false, false, l, by simpa using h, hl⟩
end
end Go.AM.R1
open Go Go.AM
namespace Go.AM.R1

/-! ### log.Scan: the walk -/
abbrev Bk := Int × List Run
def encBk (x : Bk) : List AVal := [.lit (.int .i64 x.1), .imm false false true (x.2.map encRun)]
/-- The blocks from a place, and a tick, on; and where they end. -/
def scanGo : Nat → List Nat → Nat → Int → List Bk → List Bk × Nat × Int
  | 0, _, p, t, acc => (acc, p, t)
  | d + 1, b, p, t, acc =>
    if (getB (b.drop p)).2.2 = 0 ∧ (getB (b.drop p)).1.1 = t then
      scanGo d b (p + (getB (b.drop p)).2.1.toNat) (t + sumN (getB (b.drop p)).1.2) (acc ++ [(getB (b.drop p)).1])
    else (acc, p, t)
def scanB (b : List Nat) : List Bk × Nat × Int := scanGo (b.length + 1) b 0 0 []

def scH (acc : List Bk) (n : Nat) : Heap :=
  if acc = [] then [.loop 0 none [(4, .ptr 1 0), (5, .ptr 2 0)] [10, 11] A48_0 B48_0, .box [nilS], .box [.lit (.int .i64 n)]]
  else [.loop 0 none [(4, .ptr 1 0), (5, .ptr 3 0)] [10, 11] A48_0 B48_0, .box [.own 2 acc.length 2 0 acc.length], .arr true false false 2 (acc.map encBk), .box [.lit (.int .i64 n)]]
theorem scY0 (n : Nat) (x : Bk) (p : Nat) (t : Int) :
    call E (.yld 0) [.agg (encBk x), .agg [.lit (.int .i64 p), .lit (.int .i64 t)]] (scH [] n)
      = some (.lit (.bool true), [.loop 0 none [(4, .ptr 1 0), (5, .ptr 2 0)] [10, 11] A48_0 B48_0, .box [.own 3 1 2 0 1], .box [.lit (.int .i64 p)], .arr true false false 2 [encBk x]]) := by
  simp [go_sem, scH, encBk, run_codeL E A48_0.eq_1, run_codeL E B48_0.eq_1, purse_eq, List.range_succ]
theorem scY1 (acc : List Bk) (ha : acc.length ≤ 1099511627) (h : acc ≠ []) (n : Nat) (x : Bk) (p : Nat) (t : Int) :
    call E (.yld 0) [.agg (encBk x), .agg [.lit (.int .i64 p), .lit (.int .i64 t)]] (scH acc n)
      = some (.lit (.bool true), scH (acc ++ [x]) p) := by
  have hb : ¬ (70368744177664 < (acc.length + 1) * 32) := by omega
  simp [go_sem, scH, h, encBk, run_codeL E A48_0.eq_1, run_codeL E B48_0.eq_1, purse_eq, List.range_succ, hb]

theorem get_good {b : List Nat} (hb : ∀ c ∈ b, c < 256) (h : (getB b).2.2 = 0) :
    chkB (getB b).1.1 (getB b).1.2 = 0 ∧ (∀ r ∈ (getB b).1.2, 0 ≤ r.Drive ∧ r.Drive ≤ 4294967295) ∧ 1 ≤ (getB b).2.1 ∧ (getB b).2.1 ≤ b.length ∧ b.take (getB b).2.1.toNat = wholeB (numsN (getB b).1.1 (getB b).1.2) := by
  obtain ⟨f, R, n, e, h1, h2, h3, h4, h5⟩ := put_of_get hb h
  rw [e]
  exact ⟨h1, h2, by simp; omega, by simp; omega, by simpa using h3⟩

/-- The heap at the head of the loop of blocks. -/
def scB (nl fu : Bool) (b : List Nat) (acc : List Bk) (p : Nat) (t : Int) (n : Nat) : Heap :=
  if acc = [] then [.box [.imm nl fu true (b.map encB)], .loop 0 none [(4, .ptr 2 0), (5, .ptr 3 0)] [10, 11] A48_0 B48_0, .box [nilS], .box [.lit (.int .i64 n)], .box [.lit (.int .i64 p), .lit (.int .i64 t)]]
  else [.box [.imm nl fu true (b.map encB)], .loop 0 none [(4, .ptr 2 0), (5, .ptr 3 0)] [10, 11] A48_0 B48_0, .box [.own 7 acc.length 2 0 acc.length], .box [.lit (.int .i64 n)], .box [.lit (.int .i64 p), .lit (.int .i64 t)], .dead, .dead, .arr true false false 2 (acc.map encBk)]
def scF (nl fu : Bool) (b : List Nat) (acc : List Bk) (n : Nat) : Heap :=
  if acc = [] then [.box [.imm nl fu true (b.map encB)], .loop 0 none [(4, .ptr 2 0), (5, .ptr 3 0)] [10, 11] A48_0 B48_0, .box [nilS], .box [.lit (.int .i64 n)]]
  else [.box [.imm nl fu true (b.map encB)], .loop 0 none [(4, .ptr 2 0), (5, .ptr 3 0)] [10, 11] A48_0 B48_0, .box [.own 4 acc.length 2 0 acc.length], .box [.lit (.int .i64 n)], .arr true false false 2 (acc.map encBk)]

theorem scan_loop (b : List Nat) (hb : ∀ c ∈ b, c < 256) (hl : b.length ≤ 1000000) (nl fu : Bool) (hnl : nl = false ∨ b = []) :
    ∀ (d p : Nat) (t : Int) (acc : List Bk), b.length + 1 ≤ p + d → p ≤ b.length → acc.length ≤ p → (0 ≤ t ∧ t ≤ 1073741824) →
   finK 4 [] (run E 4 [.code L145_0, .inLoop [0, 1, 3] L145_0, .inBlock 0]
     [(0, .yld 1), (1, .ptr 0 0), (3, .ptr 4 0)] (scB nl fu b acc p t p))
    = some (.tup [], scF nl fu b (scanGo d b p t acc).1 (scanGo d b p t acc).2.1) := by
  intro d
  induction d with
  | zero => intro p t acc hd hp; omega
  | succ d ih =>
    intro p t acc hd hp ha ht
    have hG := bget_spec (b.drop p) (fun c hc => hb c (List.mem_of_mem_drop hc)) (by simp; omega) nl (fu) (by rcases hnl with h | h; exact .inl h; subst h; exact .inr (by simp))
    rw [List.map_drop] at hG
    have hr := rowsB b
    by_cases h : (getB (b.drop p)).2.2 = 0
    · obtain ⟨g1, g2, g3, g4, g5⟩ := get_good (fun c hc => hb c (List.mem_of_mem_drop hc)) h
      have gk := chkB_ok g1
      simp at g4
      by_cases h2 : (getB (b.drop p)).1.1 = t
      · have hn : scanGo (d + 1) b p t acc = scanGo d b (p + (getB (b.drop p)).2.1.toNat) (t + sumN (getB (b.drop p)).1.2) (acc ++ [(getB (b.drop p)).1]) := by
          rw [scanGo, if_pos ⟨h, h2⟩]
        rw [hn]
        clear hn
        have hT := ticks_spec (getB (b.drop p)).1.2 (by omega) (chkB_Ok g1) false false
        rw [ticks_eq, if_pos gk.2.2.2.1, gk.2.2.2.1] at hT
        have hs := (chk_right gk.2.2.2.1).2
        rw [h] at hG
        have ih2 := ih (p + (getB (b.drop p)).2.1.toNat) (t + sumN (getB (b.drop p)).1.2) (acc ++ [(getB (b.drop p)).1]) (by omega) (by omega) (by simp; omega) (by omega)
        have wp : IntKind.wrap .i64 ((p : Int) + (getB (b.drop p)).2.1) = ((p + (getB (b.drop p)).2.1.toNat : Nat) : Int) := by rw [wrap64 (by omega) (by omega)]; omega
        have wt : IntKind.wrap .i64 (t + sumN (getB (b.drop p)).1.2) = t + sumN (getB (b.drop p)).1.2 := by rw [wrap64 (by omega) (by omega)]
        have hR := gk.2.1
        have hY0 := scY0 p (getB (b.drop p)).1 (p + (getB (b.drop p)).2.1.toNat) (t + sumN (getB (b.drop p)).1.2)
        have hY1 := fun ha0 => scY1 acc (by omega) ha0 p (getB (b.drop p)).1 (p + (getB (b.drop p)).2.1.toNat) (t + sumN (getB (b.drop p)).1.2)
        generalize scanGo d b _ _ _ = Q at ih2 ⊢
        clear g5
        generalize getB (b.drop p) = g at *
        obtain ⟨⟨f, R⟩, m, e⟩ := g
        simp only [] at *
        subst h2
        simp [resV, resHl, hR] at hG
        by_cases ha0 : acc = []
        · subst ha0
          simp [scH, encBk, nilS] at hY0
          simp [scB, nilS, encBk] at ih2
          generalize scF nl fu b Q.1 Q.2.1 = F at *
          simp [go_sem, run_codeL E L145_0.eq_1, hp, hr, take_allB, hG, hT, wp, wt, scB, purse_eq, hY0, nilS]
          rw [run_inLoop']
          simp [go_sem, purse_eq, List.range_succ]
          simpa using ih2
        · have hY := hY1 ha0
          simp [scH, ha0, encBk, nilS] at hY
          simp [scB, nilS, encBk] at ih2
          generalize scF nl fu b Q.1 Q.2.1 = F at *
          simp [go_sem, run_codeL E L145_0.eq_1, hp, hr, take_allB, hG, hT, wp, wt, scB, ha0, purse_eq, hY, nilS]
          rw [run_inLoop']
          simp [go_sem, purse_eq, List.range_succ]
          simpa using ih2
      · have hn : scanGo (d + 1) b p t acc = (acc, p, t) := by
          rw [scanGo, if_neg (by intro q; exact h2 q.2)]
        rw [hn]
        clear hn
        rw [h] at hG
        have hR := gk.2.1
        clear g5
        generalize getB (b.drop p) = g at *
        obtain ⟨⟨f, R⟩, m, e⟩ := g
        simp only [] at *
        simp [resV, resHl, hR] at hG
        by_cases ha0 : acc = []
        · subst ha0
          simp [go_sem, run_codeL E L145_0.eq_1, hp, hr, take_allB, hG, scB, scF, purse_eq, List.range_succ, h2]
        · simp [go_sem, run_codeL E L145_0.eq_1, hp, hr, take_allB, hG, scB, scF, ha0, purse_eq, List.range_succ, h2]
    · have hn : scanGo (d + 1) b p t acc = (acc, p, t) := by
        rw [scanGo, if_neg (by intro q; exact h q.1)]
      rw [hn]
      clear hn
      obtain ⟨g1, g2⟩ := get_bad h
      generalize getB (b.drop p) = g at *
      obtain ⟨⟨f, R⟩, m, e⟩ := g
      simp only [Prod.mk.injEq] at *
      obtain ⟨g1, g3⟩ := g1
      subst g1 g2 g3
      simp [resV, resHl] at hG
      by_cases ha0 : acc = []
      · subst ha0
        simp [go_sem, run_codeL E L145_0.eq_1, hp, hr, take_allB, hG, scB, scF, purse_eq, List.range_succ, h]
      · simp [go_sem, run_codeL E L145_0.eq_1, hp, hr, take_allB, hG, scB, scF, ha0, purse_eq, List.range_succ, h]
end Go.AM.R1
open Go Go.AM
namespace Go.AM.R1

theorem blocks1_spec (b : List Nat) (hb : ∀ c ∈ b, c < 256) (hl : b.length ≤ 1000000) (nl fu : Bool) (hnl : nl = false ∨ b = []) :
    call E (.func (.func 145) [] [.ptr 0 0]) [.yld 1] [.box [.imm nl fu true (b.map encB)], .loop 0 none [(4, .ptr 2 0), (5, .ptr 3 0)] [10, 11] A48_0 B48_0, .box [nilS], .box [.lit (.int .i64 0)]]
     = some (.tup [], scF nl fu b (scanB b).1 (scanB b).2.1) := by
  rw [call_func E E145]
  have h := scan_loop b hb hl nl fu hnl (b.length + 1) 0 0 [] (by omega) (by omega) (by simp) (by omega)
  rw [show scanGo (b.length + 1) b 0 0 [] = scanB b from rfl] at h
  generalize scF nl fu b (scanB b).1 (scanB b).2.1 = F at h ⊢
  simp [scB, nilS] at h
  simp [go_sem, ir145, purse_eq, nilS]
  rw [run_inLoop']
  simp [go_sem, purse_eq, List.range_succ]
  exact h
theorem blocks_spec (nl fu : Bool) (rows : List (List AVal)) : call E (.func (.func 105) [] []) [.imm nl fu true rows] [] = some (.func (.func 145) [] [.ptr 0 0], [.box [.imm nl fu true rows]]) := by
  rw [call_func E E105]
  simp [go_sem, ir105, purse_eq]
def bkV (i : Nat) (l : List Bk) : AVal := if l = [] then nilS else .own i l.length 2 0 l.length
def bkH (l : List Bk) : Heap := if l = [] then [] else [.arr true false false 2 (l.map encBk)]
theorem scan_spec (b : List Nat) (hb : ∀ c ∈ b, c < 256) (hl : b.length ≤ 1000000) (nl fu : Bool) (hnl : nl = false ∨ b = []) :
    call E (.func (.func 48) [] []) [.imm nl fu true (b.map encB)] []
      = some (.tup [bkV 0 (scanB b).1, .lit (.int .i64 (scanB b).2.1)], bkH (scanB b).1) := by
  rw [call_func E E48]
  have hS := blocks_spec nl fu (b.map encB)
  have hN := blocks1_spec b hb hl nl fu hnl
  generalize scanB b = g at *
  simp [nilS] at hN
  by_cases h : g.1 = []
  · simp [scF, h, nilS] at hN
    simp [go_sem, ir48, hS, hN, h, bkV, bkH, purse_eq, nilS]
  · simp [scF, h, nilS] at hN
    simp [go_sem, ir48, hS, hN, h, bkV, bkH, purse_eq, nilS]
end Go.AM.R1
open Go Go.AM
namespace Go.AM.R1

/-! ### The document's Scan -/
theorem get_nil : (getB []).2.2 ≠ 0 := by decide
theorem rscan_loop (b : List Nat) (hb : ∀ c ∈ b, c < 256) (hl : b.length ≤ 1000000) (nl fu : Bool) (k : List Item) (R : List Bk × Nat × Int → Option (AVal × Heap))
    (hk : ∀ (acc : List Bk) (p : Nat) (t : Int) τ H, lk 4 τ = .own 0 acc.length 2 0 acc.length → lk 5 τ = .lit (.int .i64 p) → finK 0 [.tmp 2, .tmp 3] (run E 0 k τ (.arr true false acc.isEmpty 2 (acc.map encBk) :: H)) = R (acc, p, t)) :
    ∀ (d p : Nat) (t : Int) (acc : List Bk), b.length + 1 ≤ p + d → p ≤ b.length → acc.length ≤ p → (0 ≤ t ∧ t ≤ 1073741824) →
   finK 0 [.tmp 2, .tmp 3] (run E 0 (.code L54_0 :: .inLoop [0, 4, 5, 6] L54_0 :: .inBlock 0 :: k)
     [(0, .imm nl fu true (b.map encB)), (4, .own 0 acc.length 2 0 acc.length), (5, .lit (.int .i64 p)), (6, .lit (.int .i64 t))] [.arr true false acc.isEmpty 2 (acc.map encBk)])
    = R (scanGo d b p t acc) := by
  intro d
  induction d with
  | zero => intro p t acc hd hp; omega
  | succ d ih =>
    intro p t acc hd hp ha ht
    have hr := rowsB b
    by_cases hlt : p < b.length
    · have hG := rget15_spec (b.drop p) (fun c hc => hb c (List.mem_of_mem_drop hc)) (by simp; omega) nl fu
      rw [List.map_drop] at hG
      by_cases h : (getB (b.drop p)).2.2 = 0
      · obtain ⟨g1, g2, g3, g4, g5⟩ := get_good (fun c hc => hb c (List.mem_of_mem_drop hc)) h
        have gk := chkB_ok g1
        simp at g4
        by_cases h2 : (getB (b.drop p)).1.1 = t
        · rw [scanGo, if_pos ⟨h, h2⟩]
          have hT := count_spec (getB (b.drop p)).1.2 (by omega) (chk_right gk.2.2.2.1).1 false false
          have hs := (chk_right gk.2.2.2.1).2
          rw [h] at hG
          have ih2 := ih (p + (getB (b.drop p)).2.1.toNat) (t + sumN (getB (b.drop p)).1.2) (acc ++ [(getB (b.drop p)).1]) (by omega) (by omega) (by simp; omega) (by omega)
          have wp : IntKind.wrap .i64 ((p : Int) + (getB (b.drop p)).2.1) = ((p + (getB (b.drop p)).2.1.toNat : Nat) : Int) := by rw [wrap64 (by omega) (by omega)]; omega
          have wt : IntKind.wrap .i64 (t + sumN (getB (b.drop p)).1.2) = t + sumN (getB (b.drop p)).1.2 := by rw [wrap64 (by omega) (by omega)]
          have hR := gk.2.1
          generalize R (scanGo d b _ _ _) = Q at ih2 ⊢
          clear g5
          generalize getB (b.drop p) = g at *
          obtain ⟨⟨f, R⟩, m, e⟩ := g
          simp only [] at *
          subst h2
          simp [resV, resHl, hR] at hG
          simp [encBk] at ih2
          rcases snoc_cases acc with rfl | ⟨o, x, rfl⟩
          · simp at ih2
            simp [go_sem, run_codeL E L54_0.eq_1, hlt, hp, hr, take_allB, hG, hT, wp, wt, purse_eq]
            rw [run_inLoop']
            simp [go_sem, purse_eq, List.range_succ]
            simpa [isEmpty_snoc, Nat.add_assoc] using ih2
          · have hbb : ¬ (70368744177664 < (o.length + 1 + 1) * 32) := by simp at ha; omega
            simp [isEmpty_snoc] at ih2
            simp [go_sem, run_codeL E L54_0.eq_1, hlt, hp, hr, take_allB, hG, hT, wp, wt, purse_eq, encBk, hbb]
            rw [run_inLoop']
            simp [go_sem, purse_eq, List.range_succ]
            simpa [isEmpty_snoc, Nat.add_assoc, encBk] using ih2
        · rw [scanGo, if_neg (by intro q; exact h2 q.2)]
          rw [h] at hG
          have hR := gk.2.1
          clear g5
          generalize getB (b.drop p) = g at *
          obtain ⟨⟨f, R⟩, m, e⟩ := g
          simp only [] at *
          simp [resV, resHl, hR] at hG
          simp [go_sem, run_codeL E L54_0.eq_1, hlt, hp, hr, take_allB, hG, purse_eq, h2]
          exact hk acc p t _ _ rfl rfl
      · rw [scanGo, if_neg (by intro q; exact h q.1)]
        obtain ⟨g1, g2⟩ := get_bad h
        generalize getB (b.drop p) = g at *
        obtain ⟨⟨f, R⟩, m, e⟩ := g
        simp only [Prod.mk.injEq] at *
        obtain ⟨g1, g3⟩ := g1
        subst g1 g2 g3
        simp [resV, resHl] at hG
        simp [go_sem, run_codeL E L54_0.eq_1, hlt, hp, hr, take_allB, hG, purse_eq, h]
        exact hk acc p t _ _ rfl rfl
    · have hp' : b.drop p = [] := List.drop_eq_nil_of_le (by omega)
      rw [scanGo, if_neg (by intro q; rw [hp'] at q; exact get_nil q.1)]
      simp [go_sem, run_codeL E L54_0.eq_1, hlt]
      exact hk acc p t _ _ rfl rfl
theorem rscan_spec (b : List Nat) (hb : ∀ c ∈ b, c < 256) (hl : b.length ≤ 1000000) (nl fu : Bool) :
    call E (.func (.func 54) [] []) [.imm nl fu true (b.map encB)] []
      = some (.tup [.own 0 (scanB b).1.length 2 0 (scanB b).1.length, .lit (.int .i64 (scanB b).2.1)], [.arr true false (scanB b).1.isEmpty 2 ((scanB b).1.map encBk)]) := by
  rw [call_func E E54]
  simp [go_sem, ir54, purse_eq]
  rw [run_inLoop']
  simp [go_sem, purse_eq, List.range_succ]
  have h := rscan_loop b hb hl nl fu [.code (.seq (.reg [⟨none, some 43, .copy (.t 4)⟩, ⟨none, some 44, .copy (.t 5)⟩, ⟨none, some 2, .copy (.t 43)⟩, ⟨none, some 3, .copy (.t 44)⟩] [] []) .ret)] (fun r => some (.tup [.own 0 r.1.length 2 0 r.1.length, .lit (.int .i64 r.2.1)], [.arr true false r.1.isEmpty 2 (r.1.map encBk)])) ?_ (b.length + 1) 0 0 [] (by omega) (by omega) (by simp) (by omega)
  · simpa [scanB] using h
  · intro acc p t τ H h4 h5
    simp [go_sem, h4, h5, purse_eq, List.range_succ]
end Go.AM.R1
open Go Go.AM
namespace Go.AM.R1

/-! ### The blocks of bytes -/
def putBk (x : Bk) : List Nat := wholeB (numsN x.1 x.2)
def blksB (l : List Bk) : List Nat := l.flatMap putBk
def totB (l : List Bk) : Int := match l with | [] => 0 | x :: r => sumN x.2 + totB r
def Good : Int → List Bk → Prop
  | _, [] => True
  | t, x :: r => x.1 = t ∧ chkB x.1 x.2 = 0 ∧ (∀ r ∈ x.2, 0 ≤ r.Drive ∧ r.Drive ≤ 4294967295) ∧ Good (t + sumN x.2) r
theorem blksB_cons (x : Bk) (l : List Bk) : blksB (x :: l) = putBk x ++ blksB l := rfl
theorem blksB_append (l m : List Bk) : blksB (l ++ m) = blksB l ++ blksB m := by simp [blksB]
theorem totB_append : ∀ (l m : List Bk), totB (l ++ m) = totB l + totB m
  | [], m => by simp [totB]
  | x :: l, m => by simp only [List.cons_append, totB]; rw [totB_append l m]; omega
theorem good_append : ∀ (l m : List Bk) (t : Int), Good t (l ++ m) ↔ Good t l ∧ Good (t + totB l) m
  | [], m, t => by simp [Good, totB]
  | x :: l, m, t => by
    simp only [List.cons_append, Good, totB]
    rw [good_append l m (t + sumN x.2), Int.add_assoc]
    simp only [and_assoc]
theorem good_tot : ∀ (l : List Bk) (t : Int), 0 ≤ t → t ≤ 1073741824 → Good t l → 0 ≤ totB l ∧ t + totB l ≤ 1073741824
  | [], t, h0, h, _ => by simp [totB]; omega
  | x :: l, t, h0, h, g => by
    obtain ⟨g1, g2, g3, g4⟩ := g
    have gk := chkB_ok g2
    have hs := (chk_right gk.2.2.2.1).2
    have := good_tot l (t + sumN x.2) (by omega) (by omega) g4
    simp only [totB]
    omega
theorem putBk_len {x : Bk} (h : chkB x.1 x.2 = 0) : 6 ≤ (putBk x).length ∧ (putBk x).length ≤ 42000 := by
  have h1 := inside_65536 h
  have h2 := whole_len (numsN x.1 x.2)
  have h3 := putN_len64 (n := (bytesN (numsN x.1 x.2)).length) (by omega)
  have h4 := List.length_pos_iff.2 (putN_pos (bytesN (numsN x.1 x.2)).length)
  have h5 : 1 ≤ (bytesN (numsN x.1 x.2)).length := by
    simp only [numsN, bytesN, List.flatMap_cons, List.length_append]
    have := List.length_pos_iff.2 (putN_pos x.1.toNat)
    omega
  unfold putBk
  omega
theorem good_len : ∀ (l : List Bk) (t : Int), Good t l → 6 * l.length ≤ (blksB l).length
  | [], _, _ => by simp
  | x :: l, t, g => by
    have := putBk_len g.2.1
    have := good_len l _ g.2.2.2
    rw [blksB_cons, List.length_append, List.length_cons]
    omega
theorem scan_facts (b : List Nat) (hb : ∀ c ∈ b, c < 256) : ∀ (d p : Nat) (t : Int) (acc : List Bk), p ≤ b.length →
    ∃ l, (scanGo d b p t acc).1 = acc ++ l ∧ Good t l ∧ (scanGo d b p t acc).2.1 = p + (blksB l).length ∧ p + (blksB l).length ≤ b.length ∧ (b.drop p).take (blksB l).length = blksB l ∧ (scanGo d b p t acc).2.2 = t + totB l := by
  intro d
  induction d with
  | zero => intro p t acc hp; exact ⟨[], by simp [scanGo, Good, blksB, totB, hp]⟩
  | succ d ih =>
    intro p t acc hp
    rw [scanGo]
    split
    · rename_i h
      obtain ⟨g1, g2, g3, g4, g5⟩ := get_good (fun c hc => hb c (List.mem_of_mem_drop hc)) h.1
      simp at g4
      generalize hg : getB (b.drop p) = g at *
      obtain ⟨⟨f, R⟩, m, e⟩ := g
      simp only [] at *
      obtain ⟨l, e1, e2, e3, e4, e5, e6⟩ := ih (p + m.toNat) (t + sumN R) (acc ++ [(f, R)]) (by omega)
      have hlen : (wholeB (numsN f R)).length = m.toNat := by rw [← g5]; simp; omega
      refine ⟨(f, R) :: l, by rw [e1]; simp, ⟨h.2, g1, g2, e2⟩, ?_, ?_, ?_, ?_⟩
      · rw [e3, blksB_cons, List.length_append]; show _ = p + ((wholeB (numsN f R)).length + _); omega
      · rw [blksB_cons, List.length_append]; show p + ((wholeB (numsN f R)).length + _) ≤ _; omega
      · rw [blksB_cons, List.length_append, List.take_add]
        show List.take (wholeB (numsN f R)).length _ ++ List.take _ (List.drop (wholeB (numsN f R)).length _) = wholeB (numsN f R) ++ _
        rw [hlen, g5, List.drop_drop, e5]
      · rw [e6]; simp only [totB]; omega
    · exact ⟨[], by simp [Good, blksB, totB, hp]⟩
theorem scanB_facts {b : List Nat} (hb : ∀ c ∈ b, c < 256) : Good 0 (scanB b).1 ∧ (scanB b).2.1 = (blksB (scanB b).1).length ∧ (scanB b).2.1 ≤ b.length ∧ b.take (scanB b).2.1 = blksB (scanB b).1 ∧ (scanB b).2.2 = totB (scanB b).1 := by
  obtain ⟨l, e1, e2, e3, e4, e5, e6⟩ := scan_facts b hb (b.length + 1) 0 0 [] (by omega)
  rw [show scanGo (b.length + 1) b 0 0 [] = scanB b from rfl] at *
  simp at e1 e3 e4 e5 e6
  rw [e1, e3]
  exact ⟨e2, rfl, e4, e5, e6⟩
/-- Blocks that are put one behind the other are found. -/
theorem scan_put (b : List Nat) : ∀ (l : List Bk) (d p : Nat) (t : Int) (acc : List Bk), l.length + 1 ≤ d → Good t l → (b.drop p) = blksB l → scanGo d b p t acc = (acc ++ l, p + (blksB l).length, t + totB l) := by
  intro l
  induction l with
  | nil =>
    intro d p t acc hd hg hp
    obtain ⟨d, rfl⟩ : ∃ e, d = e + 1 := ⟨d - 1, by simp at hd; omega⟩
    rw [scanGo, hp, if_neg (by intro q; exact get_nil q.1)]
    simp [blksB, totB]
  | cons x l ih =>
    intro d p t acc hd hg hp
    obtain ⟨d, rfl⟩ : ∃ e, d = e + 1 := ⟨d - 1, by simp at hd; omega⟩
    obtain ⟨g1, g2, g3, g4⟩ := hg
    have hG := get_of_put g2 g3 (blksB l)
    rw [scanGo, hp, blksB_cons]
    show (if (getB (wholeB (numsN x.1 x.2) ++ blksB l)).2.2 = 0 ∧ (getB (wholeB (numsN x.1 x.2) ++ blksB l)).1.1 = t then _ else _) = _
    rw [show putBk x = wholeB (numsN x.1 x.2) from rfl, hG]
    simp only []
    rw [if_pos ⟨trivial, g1⟩]
    rw [ih d (p + ((wholeB (numsN x.1 x.2)).length : Int).toNat) (t + sumN x.2) _ (by simp at hd; omega) g4 (by
      rw [Int.toNat_natCast, ← List.drop_drop, hp, blksB_cons]; show List.drop (wholeB (numsN x.1 x.2)).length (wholeB (numsN x.1 x.2) ++ _) = _; rw [List.drop_left])]
    simp [totB, List.length_append]
    omega
theorem scanB_put {l : List Bk} (h : Good 0 l) : scanB (blksB l) = (l, (blksB l).length, totB l) := by
  have := good_len l 0 h
  have := scan_put (blksB l) l ((blksB l).length + 1) 0 0 [] (by omega) h rfl
  simpa [scanB] using this
end Go.AM.R1
open Go Go.AM
namespace Go.AM.R1

/-! ### seek.Of -/
abbrev Ent := Int × Nat
def encEnt (e : Ent) : List AVal := [.lit (.int .i64 e.1), .lit (.int .i64 e.2)]
def entGo : Int → Nat → List Bk → List Ent
  | _, _, [] => []
  | t, p, x :: r => (t, p) :: entGo (t + sumN x.2) (p + (putBk x).length) r
theorem entGo_length : ∀ (l : List Bk) (t : Int) (p : Nat), (entGo t p l).length = l.length
  | [], _, _ => rfl
  | x :: l, t, p => by simp only [entGo, List.length_cons, entGo_length l]
/-- An index in the heap. -/
def ixH (nl lb le : Bool) (b : List Nat) (es : List Ent) (t : Int) : Heap :=
  if b = [] then (if nl = true then [.box [nilS, nilS, .lit (.int .i64 0)]] else [.box [.own 1 0 1 0 0, nilS, .lit (.int .i64 0)], .arr true lb true 1 []])
  else [.box [.own 1 b.length 1 0 b.length, .own 2 es.length 2 0 es.length, .lit (.int .i64 t)], .arr true lb false 1 (b.map encB), .arr true le false 2 (es.map encEnt)]

theorem of_loop18 (b : List Nat) (hb : ∀ c ∈ b, c < 256) (hl : b.length ≤ 1000000) (fu : Bool) (l : List Bk) (hl2 : l.length ≤ 1000000) (k : List Item) (R : List Ent × Int → Option (AVal × Heap))
    (hk : ∀ (out : List Ent) (t : Int) τ, out ≠ [] → lk 6 τ = .ptr 2 0 → finK 0 [.tmp 2, .tmp 3] (run E 0 k τ [.arr true false false 2 (l.map encBk), .arr true false false 1 (b.map encB), .box [.own 1 b.length 1 0 b.length, .own 4 out.length 2 0 out.length, .lit (.int .i64 t)], .dead, .arr true false false 2 (out.map encEnt)]) = R (out, t)) :
    ∀ (d i : Nat) (out : List Ent) (t : Int) (p : Nat), i + d = l.length → out ≠ [] → out.length ≤ i → p ≤ b.length → (0 ≤ t ∧ t ≤ 1073741824) → Good t (l.drop i) → b.drop p = blksB (l.drop i) →
   finK 0 [.tmp 2, .tmp 3] (run E 0 (.code L16_0 :: .inLoop [0, 4, 6, 7, 27, 28] L16_0 :: .inBlock 0 :: k)
     [(0, .imm false fu true (b.map encB)), (4, .own 0 l.length 2 0 l.length), (6, .ptr 2 0), (7, .lit (.int .i64 p)), (27, .lit (.int .i64 l.length)), (28, .lit (.int .i64 i))]
     [.arr true false false 2 (l.map encBk), .arr true false false 1 (b.map encB), .box [.own 1 b.length 1 0 b.length, .own 4 out.length 2 0 out.length, .lit (.int .i64 t)], .dead, .arr true false false 2 (out.map encEnt)])
    = R (out ++ entGo t p (l.drop i), t + totB (l.drop i)) := by
  intro d
  induction d with
  | zero =>
    intro i out t p hi ho hol hp ht hg hd
    have : i = l.length := by omega
    subst this
    simp [go_sem, run_codeL E L16_0.eq_1, entGo, totB]
    exact hk out t _ ho rfl
  | succ d ih =>
    intro i out t p hi ho hol hp ht hg hd
    have hlt : i < l.length := by omega
    rw [List.drop_eq_getElem_cons hlt] at hg hd
    rw [List.drop_eq_getElem_cons hlt, entGo, totB]
    obtain ⟨g1, g2, g3, g4⟩ := hg
    have gk := chkB_ok g2
    have hs := (chk_right gk.2.2.2.1).2
    rw [blksB_cons] at hd
    have hlen : p + (putBk l[i]).length + (blksB (l.drop (i + 1))).length = b.length := by
      have := congrArg List.length hd
      simp at this
      omega
    have hS := size_spec (b.drop p) (fun c hc => hb c (List.mem_of_mem_drop hc)) (by simp; omega) false fu
    have hsz : sizeB (b.drop p) = (((putBk l[i]).length : Int), 0) := by
      rw [hd]; exact (size_put (by have := inside_65536 g2; omega) _).2
    rw [hsz, List.map_drop] at hS
    have hT := ticks_spec l[i].2 (by omega) (chkB_Ok g2) false false
    rw [ticks_eq, if_pos gk.2.2.2.1, gk.2.2.2.1] at hT
    have hr := rowsB b
    have ih2 := ih (i + 1) (out ++ [(t, p)]) (t + sumN l[i].2) (p + (putBk l[i]).length) (by omega) (by simp) (by simp; omega) (by omega) (by omega) g4 (by rw [← List.drop_drop, hd, List.drop_left])
    rw [List.append_assoc, List.singleton_append, Int.add_assoc] at ih2
    have wp : IntKind.wrap .i64 ((p : Int) + ((putBk l[i]).length : Int)) = ((p + (putBk l[i]).length : Nat) : Int) := by rw [wrap64 (by omega) (by omega)]; omega
    have wt : IntKind.wrap .i64 (t + sumN l[i].2) = t + sumN l[i].2 := by rw [wrap64 (by omega) (by omega)]
    have wi := wrapIdx (i := i) (by omega)
    generalize R _ = Q at ih2 ⊢
    clear hd hlen hsz g1 g4
    generalize (putBk l[i]).length = m at *
    obtain ⟨o, e, rfl⟩ : ∃ o e, out = o ++ [e] := by rcases snoc_cases out with h | h; exact absurd h ho; exact h
    simp [encEnt] at ih2
    have hbb : ¬ (70368744177664 < (o.length + 1 + 1) * 16) := by simp at hol; omega
    simp [go_sem, run_codeL E L16_0.eq_1, hlt, hp, hr, take_allB, hS, hT, wp, wt, wi, purse_eq, List.getElem?_eq_getElem hlt, encBk, encEnt, hbb]
    rw [run_inLoop']
    simp [go_sem, purse_eq, List.range_succ]
    simpa [Nat.add_assoc] using ih2

theorem sof_spec (b : List Nat) (hb : ∀ c ∈ b, c < 256) (hl : b.length ≤ 1000000) (nl fu : Bool) (hnl : nl = false ∨ b = []) :
    call E (.func (.func 16) [] []) [.imm nl fu true (b.map encB)] []
      = some (if (scanB b).2.1 = b.length then (.tup [.ptr 0 0, .lit (.int .i64 0)], ixH nl false false b (entGo 0 0 (scanB b).1) (totB (scanB b).1)) else (.tup [.lit (.pointer none), .lit (.int .i64 11)], [])) := by
  rw [call_func E E16]
  have hN := scan_spec b hb hl nl fu hnl
  obtain ⟨f1, f2, f3, f4, f5⟩ := scanB_facts hb
  by_cases h : (scanB b).2.1 = b.length
  · rw [if_pos h]
    rw [h] at hN f2 f4
    rw [List.take_length] at f4
    generalize scanB b = g at *
    by_cases hb0 : b = []
    · have hg0 : g.1 = [] := by
        have := good_len g.1 0 f1
        rw [← f4, hb0] at this
        cases hq : g.1 with
        | nil => rfl
        | cons x r => rw [hq] at this; simp at this
      subst hb0
      rw [hg0] at hN ⊢
      simp [bkV, bkH] at hN
      have hC := clone_spec [] fu (by simp)
      simp at hC
      have hC2 : call E (.func (.func 79) [] []) [.imm true fu true []] [] = some (nilS, []) := by
        rw [call_func E E79]
        simp [go_sem, ir79, purse_eq]
      cases nl
      · simp [go_sem, ir16, hN, hC, purse_eq]
        rw [run_inLoop']
        simp [go_sem, purse_eq, List.range_succ, run_codeL E L16_0.eq_1, ixH, entGo, totB]
      · simp [go_sem, ir16, hN, hC2, purse_eq, nilS]
        rw [run_inLoop']
        simp [go_sem, purse_eq, List.range_succ, run_codeL E L16_0.eq_1, ixH, entGo, totB, nilS]
    · have hnl' : nl = false := by rcases hnl with q | q; exact q; exact absurd q hb0
      subst hnl'
      have hg0 : g.1 ≠ [] := by
        intro q
        rw [q] at f4
        exact hb0 f4
      have hlen := good_len g.1 0 f1
      rw [← f4] at hlen
      simp [bkV, bkH, hg0] at hN
      have hC := clone_spec b fu (by omega)
      have hbe : b.isEmpty = false := by cases b with | nil => exact absurd rfl hb0 | cons x xs => rfl
      rw [hbe] at hC
      obtain ⟨l, p, t⟩ := g
      simp only [] at *
      obtain ⟨x, r, rfl⟩ : ∃ x r, l = x :: r := by cases l with | nil => exact absurd rfl hg0 | cons x r => exact ⟨x, r, rfl⟩
      obtain ⟨g1, g2, g3, g4⟩ := f1
      have gk := chkB_ok g2
      have hs := (chk_right gk.2.2.2.1).2
      rw [blksB_cons] at f4
      have hlen2 : (putBk x).length + (blksB r).length = b.length := by rw [f4]; simp
      have hS := size_spec b hb (by omega) false fu
      have hsz : sizeB b = (((putBk x).length : Int), 0) := by rw [f4]; exact (size_put (by have := inside_65536 g2; omega) _).2
      rw [hsz] at hS
      have hT := ticks_spec x.2 (by omega) (chkB_Ok g2) false false
      rw [ticks_eq, if_pos gk.2.2.2.1, gk.2.2.2.1] at hT
      have hr := rowsB b
      have wp : IntKind.wrap .i64 ((putBk x).length : Int) = ((putBk x).length : Int) := by rw [wrap64 (by omega) (by omega)]
      have wt : IntKind.wrap .i64 (sumN x.2) = sumN x.2 := by rw [wrap64 (by omega) (by omega)]
      have w1 : IntKind.wrap .i64 1 = 1 := rfl
      have hd1 : b.drop (putBk x).length = blksB ((x :: r).drop 1) := by rw [List.drop_one, List.tail_cons, f4, List.drop_left]
      have hL := of_loop18 b hb hl fu (x :: r) (by simp at hlen ⊢; omega) [.code (.seq (.reg [⟨none, some 74, .copy (.t 6)⟩, ⟨none, some 2, .copy (.t 74)⟩, ⟨none, some 3, .copy (.c (.lit (.int .i64 0)))⟩] [] []) .ret)] (fun o => some (.tup [.ptr 0 0, .lit (.int .i64 0)], ixH false false false b o.1 o.2)) ?_ r.length 1 [(0, 0)] (sumN x.2) (putBk x).length (by simp; omega) (by simp) (by simp) (by omega) (by omega) (by simpa using g4) hd1
      · simp only [entGo, totB]
        simp [encEnt] at hL
        simp only [Int.zero_add, Nat.zero_add]
        generalize ixH false false false b _ _ = Q at hL ⊢
        clear hlen2 hsz g1 g4 f4 hlen
        generalize (putBk x).length = m at *
        simp [go_sem, ir16, hN, hC, purse_eq]
        rw [run_inLoop']
        simp [go_sem, purse_eq, List.range_succ]
        simp [go_sem, run_codeL E L16_0.eq_1, hr, take_allB, hS, hT, wp, wt, w1, purse_eq, encBk, nilS]
        rw [run_inLoop']
        simp [go_sem, purse_eq, List.range_succ]
        simpa [encBk] using hL
      · intro out t τ ho h6
        simp [go_sem, h6, purse_eq, ixH, hb0, List.range_succ]
  · rw [if_neg h]
    generalize scanB b = g at *
    have h' : ¬ ((g.2.1 : Int) = (b.length : Int)) := by omega
    by_cases hg : g.1 = []
    · simp [bkV, bkH, hg] at hN
      simp [go_sem, ir16, hN, h', h, purse_eq]
    · simp [bkV, bkH, hg] at hN
      simp [go_sem, ir16, hN, h', h, purse_eq]
end Go.AM.R1
open Go Go.AM
namespace Go.AM.R1

/-! ### The document's entries -/
abbrev REnt := Int × Nat × Int × Nat
def encREnt (e : REnt) : List AVal := [.lit (.int .i64 e.1), .lit (.int .i64 e.2.1), .lit (.int .i64 e.2.2.1), .lit (.int .i64 e.2.2.2)]
def rentGo : Int → Nat → List Bk → List REnt
  | _, _, [] => []
  | t, p, x :: r => (t, p, sumN x.2, (putBk x).length) :: rentGo (t + sumN x.2) (p + (putBk x).length) r
theorem rentGo_length : ∀ (l : List Bk) (t : Int) (p : Nat), (rentGo t p l).length = l.length
  | [], _, _ => rfl
  | x :: l, t, p => by simp only [rentGo, List.length_cons, rentGo_length l]
theorem rents_loop (l : List Bk) (hl2 : l.length ≤ 1000000) (fe : Bool) (H0 : Heap) (k : List Item) (R : List REnt → Option (AVal × Heap))
    (hk : ∀ (out : List REnt) τ H, lk 6 τ = .own 1 out.length 4 0 out.length → finK 0 [.tmp 2, .tmp 3] (run E 0 k τ (.arr true false fe 2 (l.map encBk) :: .arr true false out.isEmpty 4 (out.map encREnt) :: H)) = R out) :
    ∀ (d i : Nat) (out : List REnt) (t : Int) (p : Nat), i + d = l.length → out.length ≤ i → (p ≤ 42000 * i) → (0 ≤ t ∧ t ≤ 1073741824) → Good t (l.drop i) →
   finK 0 [.tmp 2, .tmp 3] (run E 0 (.code L17_0 :: .inLoop [4, 6, 7, 8, 9] L17_0 :: .inBlock 0 :: k)
     [(4, .own 0 l.length 2 0 l.length), (6, .own 1 out.length 4 0 out.length), (7, .lit (.int .i64 t)), (8, .lit (.int .i64 p)), (9, .lit (.int .i64 i))]
     [.arr true false fe 2 (l.map encBk), .arr true false out.isEmpty 4 (out.map encREnt)])
    = R (out ++ rentGo t p (l.drop i)) := by
  intro d
  induction d with
  | zero =>
    intro i out t p hi hol hp ht hg
    have : i = l.length := by omega
    subst this
    simp [go_sem, run_codeL E L17_0.eq_1, rentGo]
    exact hk out _ _ rfl
  | succ d ih =>
    intro i out t p hi hol hp ht hg
    have hlt : i < l.length := by omega
    rw [List.drop_eq_getElem_cons hlt] at hg
    rw [List.drop_eq_getElem_cons hlt, rentGo]
    obtain ⟨g1, g2, g3, g4⟩ := hg
    have gk := chkB_ok g2
    have hs := (chk_right gk.2.2.2.1).2
    have hlen := putBk_len g2
    have hT := count_spec l[i].2 (by omega) (chk_right gk.2.2.2.1).1 false false
    have hP := rput15_spec l[i].1 l[i].2 false false g2
    rw [show wholeB (numsN l[i].1 l[i].2) = putBk l[i] from rfl] at hP
    simp only [encBlk] at hP
    have ih2 := ih (i + 1) (out ++ [(t, p, sumN l[i].2, (putBk l[i]).length)]) (t + sumN l[i].2) (p + (putBk l[i]).length) (by omega) (by simp; omega) (by omega) (by omega) g4
    rw [List.append_assoc, List.singleton_append] at ih2
    have wp : IntKind.wrap .i64 ((p : Int) + ((putBk l[i]).length : Int)) = ((p + (putBk l[i]).length : Nat) : Int) := by rw [wrap64 (by omega) (by omega)]; omega
    have wt : IntKind.wrap .i64 (t + sumN l[i].2) = t + sumN l[i].2 := by rw [wrap64 (by omega) (by omega)]
    have wi := wrapIdx (i := i) (by omega)
    generalize R _ = Q at ih2 ⊢
    clear g1 g4
    rcases snoc_cases out with rfl | ⟨o, e, rfl⟩
    · simp [encREnt] at ih2
      simp [go_sem, run_codeL E L17_0.eq_1, hlt, hT, hP, wp, wt, wi, purse_eq, List.getElem?_eq_getElem hlt, encBk, encREnt]
      rw [run_inLoop']
      simp [go_sem, purse_eq, List.range_succ]
      simpa [Nat.add_assoc, encBk] using ih2
    · have hbb : ¬ (70368744177664 < (o.length + 1 + 1) * 32) := by simp at hol; omega
      simp [encREnt, isEmpty_snoc] at ih2
      simp [go_sem, run_codeL E L17_0.eq_1, hlt, hT, hP, wp, wt, wi, purse_eq, List.getElem?_eq_getElem hlt, encBk, encREnt, hbb]
      rw [run_inLoop']
      simp [go_sem, purse_eq, List.range_succ]
      simpa [Nat.add_assoc, encBk, isEmpty_snoc] using ih2
theorem rents_spec (b : List Nat) (hb : ∀ c ∈ b, c < 256) (hl : b.length ≤ 1000000) (nl fu : Bool) :
    call E (.func (.func 17) [] []) [.imm nl fu true (b.map encB)] []
      = some (if (scanB b).2.1 = b.length then (.tup [.own 0 (scanB b).1.length 4 0 (scanB b).1.length, .lit (.bool true)], [.arr true false (rentGo 0 0 (scanB b).1).isEmpty 4 ((rentGo 0 0 (scanB b).1).map encREnt)]) else (.tup [nilS, .lit (.bool false)], [])) := by
  rw [call_func E E17]
  have hN := rscan_spec b hb hl nl fu
  obtain ⟨f1, f2, f3, f4, f5⟩ := scanB_facts hb
  by_cases h : (scanB b).2.1 = b.length
  · rw [if_pos h]
    have hlen := good_len _ 0 f1
    rw [h] at hN
    rw [h] at f2
    clear f3 f4 f5 h
    generalize scanB b = g at *
    obtain ⟨l, p, t⟩ := g
    simp only [] at *
    have hL := rents_loop l (by omega) l.isEmpty [] [.code (.seq (.reg [⟨none, some 54, .copy (.t 6)⟩, ⟨none, some 2, .copy (.t 54)⟩, ⟨none, some 3, .copy (.c (.lit (.bool true)))⟩] [] []) .ret)] (fun o => some (.tup [.own 0 o.length 4 0 o.length, .lit (.bool true)], [.arr true false o.isEmpty 4 (o.map encREnt)])) ?_ l.length 0 [] 0 0 (by omega) (by simp) (by omega) (by omega) (by simpa using f1)
    · simp [go_sem, ir17, hN, purse_eq]
      rw [run_inLoop']
      simp [go_sem, purse_eq, List.range_succ]
      simpa [rentGo_length] using hL
    · intro out τ H h6
      simp [go_sem, h6, purse_eq, List.range_succ]
  · rw [if_neg h]
    have h' : ¬ (((scanB b).2.1 : Int) = (b.length : Int)) := by omega
    simp [go_sem, ir17, hN, h', h, purse_eq]
end Go.AM.R1
open Go Go.AM
namespace Go.AM.R1

/-! ### The bytes of an index -/
def idxRow (x : Bk) : List Nat := putN (sumN x.2).toNat ++ putN (putBk x).length
def idxB (l : List Bk) : List Nat := sealB (putN l.length ++ l.flatMap idxRow)
theorem entGo_get : ∀ (l : List Bk) (t : Int) (p i : Nat), i < l.length → (entGo t p l)[i]? = some (t + totB (l.take i), p + (blksB (l.take i)).length)
  | [], _, _, i, h => by simp at h
  | x :: l, t, p, 0, h => by simp [entGo, totB, blksB]
  | x :: l, t, p, i + 1, h => by
    simp only [entGo, List.getElem?_cons_succ, List.take_succ_cons, totB, blksB_cons, List.length_append]
    rw [entGo_get l _ _ i (by simpa using h)]
    simp
    omega
theorem take_succ_tot (l : List Bk) (i : Nat) (h : i < l.length) : totB (l.take (i + 1)) = totB (l.take i) + sumN l[i].2 ∧ (blksB (l.take (i + 1))).length = (blksB (l.take i)).length + (putBk l[i]).length := by
  rw [List.take_succ_eq_append_getElem h, totB_append, blksB_append]
  simp [totB, blksB]
theorem good_get : ∀ (l : List Bk) (t : Int) (i : Nat) (h : i < l.length), Good t l → chkB l[i].1 l[i].2 = 0 ∧ (∀ r ∈ l[i].2, 0 ≤ r.Drive ∧ r.Drive ≤ 4294967295) ∧ l[i].1 = t + totB (l.take i)
  | [], _, i, h, _ => by simp at h
  | x :: l, t, 0, h, g => ⟨g.2.1, g.2.2.1, by simp [g.1, totB]⟩
  | x :: l, t, i + 1, h, g => by
    have := good_get l _ i (by simpa using h) g.2.2.2
    simp only [List.getElem_cons_succ, List.take_succ_cons, totB]
    exact ⟨this.1, this.2.1, by rw [this.2.2]; omega⟩
theorem good_take (l : List Bk) (t : Int) (i : Nat) (h : Good t l) : Good t (l.take i) := by
  have := (good_append (l.take i) (l.drop i) t).1 (by rw [List.take_append_drop]; exact h)
  exact this.1
theorem blks_take_le (l : List Bk) (i : Nat) : (blksB (l.take i)).length ≤ (blksB l).length := by
  conv => rhs; rw [← List.take_append_drop i l]
  rw [blksB_append, List.length_append]; omega
theorem tot_take_le (l : List Bk) (i : Nat) (h : Good 0 l) : 0 ≤ totB (l.take i) ∧ totB (l.take i) ≤ 1073741824 := by
  have := good_tot (l.take i) 0 (by omega) (by omega) (good_take l 0 i h)
  omega
theorem putN_lt256 (n : Nat) : ∀ c ∈ putN n, c < 256 := by
  induction n using Nat.strongRecOn with
  | _ n ih =>
    intro c h
    by_cases hn : 128 ≤ n
    · rw [putN_big hn] at h
      rcases List.mem_cons.1 h with rfl | h
      · omega
      · exact ih (n / 128) (by omega) c h
    · rw [putN_small (by omega)] at h
      simp at h; omega
theorem idxRow_byte (x : Bk) : ∀ c ∈ idxRow x, c < 256 := by
  intro c hc
  rcases List.mem_append.1 hc with h | h
  · exact putN_lt256 _ _ h
  · exact putN_lt256 _ _ h
theorem idxRow_len (x : Bk) (hg : chkB x.1 x.2 = 0) : (idxRow x).length ≤ 20 := by
  have gk := chkB_ok hg
  have hs := (chk_right gk.2.2.2.1).2
  have hlen := putBk_len hg
  have h1 := putN_len64 (n := (sumN x.2).toNat) (by omega)
  have h2 := putN_len64 (n := (putBk x).length) (by omega)
  simp only [idxRow, List.length_append]; omega

theorem sput_loop (b : List Nat) (hl : b.length ≤ 1000000) (l : List Bk) (hg : Good 0 l) (hbl : (blksB l).length = b.length) (lb le : Bool) (k : List Item) (R : List Nat → Option (AVal × Heap))
    (hk : ∀ (out : List Nat) τ H, (∀ c ∈ out, c < 256) → out.length ≤ 20 + 20 * l.length → lk 3 τ = .own 3 out.length 1 0 out.length → finK 3 [.tmp 2] (run E 3 k τ (.box [.own 1 b.length 1 0 b.length, .own 2 l.length 2 0 l.length, .lit (.int .i64 (totB l))] :: .arr true lb false 1 (b.map encB) :: .arr true le false 2 ((entGo 0 0 l).map encEnt) :: .arr true false false 1 (out.map encB) :: H)) = R out) :
    ∀ (d i : Nat) (out : List Nat), i + d = l.length → out ≠ [] → out.length ≤ 20 + 20 * i → (∀ c ∈ out, c < 256) →
   finK 3 [.tmp 2] (run E 3 (.code L19_0 :: .inLoop [0, 3, 19, 20, 21] L19_0 :: .inBlock 0 :: k)
     [(0, .ptr 0 0), (3, .own 3 out.length 1 0 out.length), (19, .own 2 l.length 2 0 l.length), (20, .lit (.int .i64 l.length)), (21, .lit (.int .i64 i))]
     [.box [.own 1 b.length 1 0 b.length, .own 2 l.length 2 0 l.length, .lit (.int .i64 (totB l))], .arr true lb false 1 (b.map encB), .arr true le false 2 ((entGo 0 0 l).map encEnt), .arr true false false 1 (out.map encB)])
    = R (out ++ (l.drop i).flatMap idxRow) := by
  have hln := good_len l 0 hg
  intro d
  induction d with
  | zero =>
    intro i out hi ho hol hob
    have : i = l.length := by omega
    subst this
    simp [go_sem, run_codeL E L19_0.eq_1]
    exact hk out _ _ hob hol rfl
  | succ d ih =>
    intro i out hi ho hol hob
    have hlt : i < l.length := by omega
    rw [List.drop_eq_getElem_cons hlt, List.flatMap_cons]
    obtain ⟨g2, g3, g1⟩ := good_get l 0 i hlt hg
    have gk := chkB_ok g2
    have hs := (chk_right gk.2.2.2.1).2
    have hlen := putBk_len g2
    have hrl := idxRow_len l[i] g2
    obtain ⟨k1, k2⟩ := take_succ_tot l i hlt
    have hT := tot_take_le l i hg
    have hP := blks_take_le l i
    have hT1 := tot_take_le l (i + 1) hg
    have hP1 := blks_take_le l (i + 1)
    have he := entGo_get l 0 0 i hlt
    simp only [Int.zero_add, Nat.zero_add] at he
    have hel := entGo_length l 0 0
    have hi' : i < (entGo 0 0 l).length := by omega
    have hx : (entGo 0 0 l)[i] = (totB (l.take i), (blksB (l.take i)).length) := by simpa [List.getElem?_eq_getElem hi'] using he
    have h0 : (0 : Int) ≤ (i : Int) + 1 := by omega
    have ih2 := ih (i + 1) (out ++ idxRow l[i]) (by omega) (by simp [ho]) (by simp; omega) (by
      intro c hc
      rcases List.mem_append.1 hc with h | h
      · exact hob c h
      · exact idxRow_byte _ c h)
    rw [List.append_assoc] at ih2
    have hV1 := vput_spec (sumN l[i].2).toNat (by omega)
    have hV2 := vput_spec (putBk l[i]).length (by omega)
    have hr1 := rowsB (putN (sumN l[i].2).toNat)
    have hr2 := rowsB (putN (putBk l[i]).length)
    have hrow : idxRow l[i] = putN (sumN l[i].2).toNat ++ putN (putBk l[i]).length := rfl
    rw [hrow] at ih2 ⊢
    have hpl1 := putN_len64 (n := (sumN l[i].2).toNat) (by omega)
    have hpl2 := putN_len64 (n := (putBk l[i]).length) (by omega)
    have hpn1 := putN_pos (sumN l[i].2).toNat
    have hpn2 := putN_pos (putBk l[i]).length
    generalize R _ = Q at ih2 ⊢
    generalize putN (sumN l[i].2).toNat = A at *
    generalize putN (putBk l[i]).length = B at *
    generalize hj : (sumN l[i].2).toNat = j at *
    have hj' : sumN l[i].2 = (j : Int) := by omega
    have ws : IntKind.wrap .i64 (totB (l.take (i + 1)) - totB (l.take i)) = (j : Int) := by rw [wrap64 (by omega) (by omega)]; omega
    have wq : IntKind.wrap .i64 (((blksB (l.take (i + 1))).length : Int) - ((blksB (l.take i)).length : Int)) = ((putBk l[i]).length : Int) := by rw [wrap64 (by omega) (by omega)]; omega
    have wu1 := wrap_u64 (n := j) (by omega)
    have wu2 := wrap_u64 (n := (putBk l[i]).length) (by omega)
    have wi := wrapIdx (i := i) (by omega)
    have hb1 : ¬ (70368744177664 < out.length + A.length) := by omega
    have hb2 : ¬ (70368744177664 < out.length + A.length + B.length) := by omega
    have hb2' : ¬ (70368744177664 < out.length + (A.length + B.length)) := by omega
    by_cases hl1 : i + 1 < l.length
    · have he1 := entGo_get l 0 0 (i + 1) hl1
      simp only [Int.zero_add, Nat.zero_add] at he1
      have hi1' : i + 1 < (entGo 0 0 l).length := by omega
      have hx1 : (entGo 0 0 l)[i + 1] = (totB (l.take (i + 1)), (blksB (l.take (i + 1))).length) := by simpa [List.getElem?_eq_getElem hi1'] using he1
      have hl1' : (i : Int) + 1 < (l.length : Int) := by omega
      generalize totB (l.take (i + 1)) = T1 at *
      generalize totB (l.take i) = T0 at *
      generalize (blksB (l.take (i + 1))).length = P1 at *
      generalize (blksB (l.take i)).length = P0 at *
      generalize (putBk l[i]).length = m at *
      generalize entGo 0 0 l = es at *
      simp [go_sem, run_codeL E L19_0.eq_1, hlt, hx, hx1, h0, hel, hl1, hl1', wi, ws, wq, wu1, wu2, hV1, hV2, hr1, hr2, hb1, hb2, hb2', hpn1, hpn2, purse_eq, encEnt, ho]
      rw [run_inLoop']
      simp [go_sem, purse_eq, List.range_succ]
      simpa [Nat.add_assoc] using ih2
    · have hl1' : ¬ ((i : Int) + 1 < (l.length : Int)) := by omega
      have hend : i + 1 = l.length := by omega
      have ht1 : l.take (i + 1) = l := List.take_of_length_le (by omega)
      rw [ht1] at ws wq
      rw [hbl] at wq
      generalize totB (l.take i) = T0 at *
      generalize (blksB (l.take i)).length = P0 at *
      generalize (putBk l[i]).length = m at *
      generalize entGo 0 0 l = es at *
      generalize totB l = T1 at *
      simp [go_sem, run_codeL E L19_0.eq_1, hlt, hx, h0, hel, hl1, hl1', wi, ws, wq, wu1, wu2, hV1, hV2, hr1, hr2, hb1, hb2, hb2', hpn1, hpn2, purse_eq, encEnt, ho]
      rw [run_inLoop']
      simp [go_sem, purse_eq, List.range_succ]
      simpa [Nat.add_assoc] using ih2
end Go.AM.R1
open Go Go.AM
namespace Go.AM.R1

theorem idxIn_byte (l : List Bk) : ∀ c ∈ putN l.length ++ l.flatMap idxRow, c < 256 := by
  intro c hc
  rcases List.mem_append.1 hc with h | h
  · exact putN_lt256 _ _ h
  · obtain ⟨x, _, h⟩ := List.mem_flatMap.1 h
    exact idxRow_byte x c h
theorem idxIn_len (l : List Bk) (hg : Good 0 l) : l.length < 18446744073709551616 → (putN l.length ++ l.flatMap idxRow).length ≤ 20 + 20 * l.length := by
  intro hl
  have h1 := putN_len64 hl
  have h2 : ∀ (l : List Bk) (t : Int), Good t l → (l.flatMap idxRow).length ≤ 20 * l.length := by
    intro l
    induction l with
    | nil => simp
    | cons x l ih =>
      intro t g
      have := idxRow_len x g.2.1
      have := ih _ g.2.2.2
      simp only [List.flatMap_cons, List.length_append, List.length_cons]; omega
  have := h2 l 0 hg
  rw [List.length_append]; omega
theorem sput_spec (b : List Nat) (hl : b.length ≤ 1000000) (l : List Bk) (hg : Good 0 l) (hbl : blksB l = b) (nl lb le : Bool) :
    call E (.func (.func 19) [] []) [.ptr 0 0] (ixH nl lb le b (entGo 0 0 l) (totB l))
      = some (.own (ixH nl lb le b (entGo 0 0 l) (totB l)).length (idxB l).length 1 0 (idxB l).length, ixH nl lb le b (entGo 0 0 l) (totB l) ++ [.arr true false false 1 ((idxB l).map encB)]) := by
  rw [call_func E E19]
  have hln := good_len l 0 hg
  rw [hbl] at hln
  have hb1 := idxIn_byte l
  have hb2 := idxIn_len l hg (by omega)
  have hS := seal_spec (putN l.length ++ l.flatMap idxRow) hb1 false (by omega)
  rw [show sealB (putN l.length ++ l.flatMap idxRow) = idxB l from rfl] at hS
  have hV := vput_spec l.length (by omega)
  have hpn := putN_pos l.length
  have hp64 := putN_len64 (n := l.length) (by omega)
  by_cases hb0 : b = []
  · subst hb0
    have hl0 : l = [] := by cases l with | nil => rfl | cons x r => simp at hln
    subst hl0
    simp [putN_small (show 0 < 128 by omega), encB] at hV hS
    have w0 : IntKind.wrap .u64 0 = 0 := rfl
    cases nl
    · simp [go_sem, ir19, ixH, hV, hS, w0, purse_eq, nilS]
      rw [run_inLoop']
      simp [go_sem, purse_eq, List.range_succ, run_codeL E L19_0.eq_1, encB, hS]
    · simp [go_sem, ir19, ixH, hV, hS, w0, purse_eq, nilS]
      rw [run_inLoop']
      simp [go_sem, purse_eq, List.range_succ, run_codeL E L19_0.eq_1, encB, hS]
  · have hel := entGo_length l 0 0
    have wu := wrap_u64 (n := l.length) (by omega)
    have hL := sput_loop b hl l hg (by rw [hbl]) lb le [.code (.seq (.reg [⟨none, some 71, .copy (.t 3)⟩, ⟨none, some 72, .call 83 [.t 71]⟩, ⟨none, some 2, .copy (.t 72)⟩] [] []) .ret)]
      (fun out => some (.own 3 (sealB out).length 1 0 (sealB out).length, ixH nl lb le b (entGo 0 0 l) (totB l) ++ [.arr true false false 1 ((sealB out).map encB)])) ?_ l.length 0 (putN l.length) (by omega) hpn (by omega) (fun c hc => putN_lt256 _ _ hc)
    · rw [List.drop_zero, show sealB (putN l.length ++ l.flatMap idxRow) = idxB l from rfl] at hL
      have hlen3 : (ixH nl lb le b (entGo 0 0 l) (totB l)).length = 3 := by simp [ixH, hb0]
      rw [hlen3]
      generalize some (AVal.own 3 (idxB l).length 1 0 (idxB l).length, _) = Q at hL ⊢
      simp [go_sem, ir19, ixH, hb0, hel, hV, wu, purse_eq]
      rw [run_inLoop']
      simp [go_sem, purse_eq, List.range_succ]
      exact hL
    · intro out τ H h1 h2 h3
      have hS2 := seal_spec out h1 false (by omega)
      simp [go_sem, h3, hS2, ixH, hb0, hel, purse_eq, List.range_succ]
end Go.AM.R1
open Go Go.AM
namespace Go.AM.R1

def entV (i : Nat) (es : List Ent) : AVal := if es = [] then nilS else .own i es.length 2 0 es.length
def entH (es : List Ent) : Heap := if es = [] then [] else [.arr true false false 2 (es.map encEnt)]
theorem rows2 (es : List Ent) : rowsOk 2 (es.map encEnt) = true := rowsOk_map (f := encEnt) (fun _ => rfl) es
theorem sents_spec (b : List Nat) (es : List Ent) (hl : es.length ≤ 1000000) (hbe : es = [] ↔ b = []) (t : Int) (nl lb le : Bool) :
    call E (.func (.func 21) [] []) [.ptr 0 0] (ixH nl lb le b es t)
      = some (entV 3 es, ixH nl lb true b es t ++ entH es) := by
  rw [call_func E E21]
  by_cases hb0 : b = []
  · have he := hbe.2 hb0
    subst hb0 he
    have hC : call E (.func (.func 85) [] []) [.imm true true true []] [] = some (nilS, []) := by
      rw [call_func E E85]
      simp [go_sem, ir85, purse_eq]
    cases nl
    · simp [go_sem, ir21, ixH, hC, entV, entH, purse_eq, nilS, List.range_succ]
    · simp [go_sem, ir21, ixH, hC, entV, entH, purse_eq, nilS, List.range_succ]
  · have he : es ≠ [] := fun h => hb0 (hbe.1 h)
    have hC : call E (.func (.func 85) [] []) [.imm false false true (es.map encEnt)] [] = some (.own 0 es.length 2 0 es.length, [.arr true false false 2 (es.map encEnt)]) := by
      rw [call_func E E85]
      have hr := rows2 es
      have hbb : ¬ (70368744177664 < es.length * 16) := by omega
      have hpos := List.length_pos_iff.2 he
      simp [go_sem, ir85, hr, hbb, he, purse_eq]
    simp [go_sem, ir21, ixH, hb0, hC, entV, entH, he, purse_eq, nilS, List.range_succ]
theorem rput18_loop (l : List Bk) (hg : Good 0 l) (hl : l.length ≤ 1000000) (nl fu : Bool) (k : List Item) (R : List Nat → Option (AVal × Heap))
    (hk : ∀ (out : List Nat) τ, (∀ c ∈ out, c < 256) → out.length ≤ 20 + 20 * l.length → lk 3 τ = .own 0 out.length 1 0 out.length → finK 0 [.tmp 2] (run E 0 k τ [.arr true false false 1 (out.map encB)]) = R out) :
    ∀ (d i : Nat) (out : List Nat), i + d = l.length → out ≠ [] → out.length ≤ 20 + 20 * i → (∀ c ∈ out, c < 256) →
   finK 0 [.tmp 2] (run E 0 (.code L20_0 :: .inLoop [0, 3, 4] L20_0 :: .inBlock 0 :: k)
     [(0, .imm nl fu true ((rentGo 0 0 l).map encREnt)), (3, .own 0 out.length 1 0 out.length), (4, .lit (.int .i64 i))] [.arr true false false 1 (out.map encB)])
    = R (out ++ (l.drop i).flatMap idxRow) := by
  have hel := rentGo_length l 0 0
  intro d
  induction d with
  | zero =>
    intro i out hi ho hol hob
    have : i = l.length := by omega
    subst this
    simp [go_sem, run_codeL E L20_0.eq_1, hel]
    exact hk out _ hob hol rfl
  | succ d ih =>
    intro i out hi ho hol hob
    have hlt : i < l.length := by omega
    rw [List.drop_eq_getElem_cons hlt, List.flatMap_cons]
    obtain ⟨g2, g3, g1⟩ := good_get l 0 i hlt hg
    have gk := chkB_ok g2
    have hs := (chk_right gk.2.2.2.1).2
    have hlen := putBk_len g2
    have hrl := idxRow_len l[i] g2
    have hi' : i < (rentGo 0 0 l).length := by omega
    have hx : ((rentGo 0 0 l)[i]).2.2.1 = sumN l[i].2 ∧ ((rentGo 0 0 l)[i]).2.2.2 = (putBk l[i]).length := by
      have : ∀ (l : List Bk) (t : Int) (p i : Nat) (h : i < l.length) (h' : i < (rentGo t p l).length), ((rentGo t p l)[i]).2.2.1 = sumN l[i].2 ∧ ((rentGo t p l)[i]).2.2.2 = (putBk l[i]).length := by
        intro l
        induction l with
        | nil => intro t p i h; simp at h
        | cons x l ih =>
          intro t p i h h'
          cases i with
          | zero => simp [rentGo]
          | succ i => simp only [rentGo, List.getElem_cons_succ]; exact ih _ _ i (by simpa using h) _
      exact this l 0 0 i hlt hi'
    have ih2 := ih (i + 1) (out ++ idxRow l[i]) (by omega) (by simp [ho]) (by simp; omega) (by
      intro c hc
      rcases List.mem_append.1 hc with h | h
      · exact hob c h
      · exact idxRow_byte _ c h)
    rw [List.append_assoc] at ih2
    have hV1 := rput_spec (sumN l[i].2).toNat (by omega)
    have hV2 := rput_spec (putBk l[i]).length (by omega)
    have hr1 := rowsB (putN (sumN l[i].2).toNat)
    have hr2 := rowsB (putN (putBk l[i]).length)
    have hrow : idxRow l[i] = putN (sumN l[i].2).toNat ++ putN (putBk l[i]).length := rfl
    rw [hrow] at ih2 ⊢
    have hpl1 := putN_len64 (n := (sumN l[i].2).toNat) (by omega)
    have hpl2 := putN_len64 (n := (putBk l[i]).length) (by omega)
    have hpn1 := putN_pos (sumN l[i].2).toNat
    have hpn2 := putN_pos (putBk l[i]).length
    generalize R _ = Q at ih2 ⊢
    generalize putN (sumN l[i].2).toNat = A at *
    generalize putN (putBk l[i]).length = B at *
    generalize hj : (sumN l[i].2).toNat = j at *
    have hj' : sumN l[i].2 = (j : Int) := by omega
    rw [hj'] at hx
    obtain ⟨hx1, hx2⟩ := hx
    have wu1 := wrap_u64 (n := j) (by omega)
    have wu2 := wrap_u64 (n := (putBk l[i]).length) (by omega)
    have wi := wrapIdx (i := i) (by omega)
    have hb1 : ¬ (70368744177664 < out.length + A.length) := by omega
    have hb2 : ¬ (70368744177664 < out.length + A.length + B.length) := by omega
    have hb2' : ¬ (70368744177664 < out.length + (A.length + B.length)) := by omega
    generalize (putBk l[i]).length = m at *
    generalize rentGo 0 0 l = es at *
    simp [go_sem, run_codeL E L20_0.eq_1, hlt, hx1, hx2, hel, wi, wu1, wu2, hV1, hV2, hr1, hr2, hb1, hb2, hb2', hpn1, hpn2, purse_eq, encREnt, ho]
    rw [run_inLoop']
    simp [go_sem, purse_eq, List.range_succ]
    simpa [Nat.add_assoc, encREnt] using ih2
theorem rput18_spec (l : List Bk) (hg : Good 0 l) (hl : l.length ≤ 1000000) (nl fu : Bool) :
    call E (.func (.func 20) [] []) [.imm nl fu true ((rentGo 0 0 l).map encREnt)] []
      = some (.own 0 (idxB l).length 1 0 (idxB l).length, [.arr true false false 1 ((idxB l).map encB)]) := by
  rw [call_func E E20]
  have hV := rput_spec l.length (by omega)
  have hpn := putN_pos l.length
  have hp64 := putN_len64 (n := l.length) (by omega)
  have hel := rentGo_length l 0 0
  have wu := wrap_u64 (n := l.length) (by omega)
  have hL := rput18_loop l hg hl nl fu [.code (.seq (.reg [⟨none, some 33, .copy (.t 3)⟩, ⟨none, some 34, .call 78 [.t 33]⟩, ⟨none, some 2, .copy (.t 34)⟩] [] []) .ret)]
      (fun out => some (.own 0 (sealB out).length 1 0 (sealB out).length, [.arr true false false 1 ((sealB out).map encB)])) ?_ l.length 0 (putN l.length) (by omega) hpn (by omega) (fun c hc => putN_lt256 _ _ hc)
  · rw [List.drop_zero, show sealB (putN l.length ++ l.flatMap idxRow) = idxB l from rfl] at hL
    generalize idxB l = Q at hL ⊢
    simp [go_sem, ir20, hel, hV, wu, purse_eq]
    rw [run_inLoop']
    simp [go_sem, purse_eq, List.range_succ]
    simpa using hL
  · intro out τ h1 h2 h3
    have hS2 := rseal_spec out h1 false false (by omega)
    simp [go_sem, h3, hS2, purse_eq, List.range_succ]
end Go.AM.R1
open Go Go.AM Go.Proofs
namespace Go.AM.R1
theorem awake18 : call E (.func (.func 15) [] []) [] [] = some (.lit (.bool true), []) :=
  (call_iff E).2 ⟨3000, by kernel_rfl⟩
end Go.AM.R1
open Go Go.AM Go.Proofs
namespace Go.AM.R1
theorem ents_same : ∀ (l : List Bk) (t : Int) (p i : Nat) (h : i < l.length) (h1 : i < (entGo t p l).length) (h2 : i < (rentGo t p l).length), ((rentGo t p l)[i]).1 = ((entGo t p l)[i]).1 ∧ ((rentGo t p l)[i]).2.1 = ((entGo t p l)[i]).2
  | [], t, p, i, h, h1, h2 => by simp at h
  | x :: l, t, p, 0, h, h1, h2 => by simp [entGo, rentGo]
  | x :: l, t, p, i + 1, h, h1, h2 => by
    simp only [entGo, rentGo, List.getElem_cons_succ]
    exact ents_same l _ _ i (by simpa using h) _ _
theorem ofs_loop (l : List Bk) (hl : l.length ≤ 1000000) (k : List Item) (R : Option (AVal × Heap))
    (hk : ∀ τ H, finK 0 [.tmp 2] (run E 0 k τ H) = R) :
    ∀ (d i : Nat), i + d = l.length →
   finK 0 [.tmp 2] (run E 0 (.code L3_0 :: .inLoop [5, 7, 8] L3_0 :: .inBlock 0 :: k)
     [(5, .own 3 l.length 4 0 l.length), (7, .own 6 l.length 2 0 l.length), (8, .lit (.int .i64 i))]
     [.dead, .dead, .dead, .arr true true false 4 ((rentGo 0 0 l).map encREnt), .dead, .dead, .arr true false false 2 ((entGo 0 0 l).map encEnt)]) = R := by
  have he := entGo_length l 0 0
  have hr := rentGo_length l 0 0
  intro d
  induction d with
  | zero =>
    intro i hi
    have : i = l.length := by omega
    subst this
    simp [go_sem, run_codeL E L3_0.eq_1]
    exact hk _ _
  | succ d ih =>
    intro i hi
    have hlt : i < l.length := by omega
    have hx := ents_same l 0 0 i hlt (by omega) (by omega)
    have ih2 := ih (i + 1) (by omega)
    have wi := wrapIdx (i := i) (by omega)
    simp [encREnt, encEnt] at ih2
    simp [go_sem, run_codeL E L3_0.eq_1, hlt, hx, he, hr, wi, purse_eq, encREnt, encEnt]
    rw [run_inLoop']
    simp [go_sem, purse_eq, List.range_succ]
    simpa using ih2
theorem seekOfs_spec (b : List Nat) (hb : ∀ c ∈ b, c < 256) (nl fu : Bool) (hnl : nl = false ∨ b = []) :
    call E (.func (.func 3) [] []) [.imm nl fu true (b.map encB)] [] = some (.lit (.bool true), []) := by
  rw [call_func E E3]
  by_cases h1 : 1000 < b.length
  · have h1' : (1000 : Int) < (b.length : Int) := by omega
    simp [go_sem, ir3, h1', awake18]
  have h1' : ¬ (1000 : Int) < (b.length : Int) := by omega
  have hO := sof_spec b hb (by omega) nl fu hnl
  have hE := rents_spec b hb (by omega) nl fu
  obtain ⟨f1, f2, f3, f4, f5⟩ := scanB_facts hb
  by_cases h : (scanB b).2.1 = b.length
  · rw [if_pos h] at hO hE
    rw [h, List.take_length] at f4
    generalize (scanB b).1 = l at *
    have hln := good_len l 0 f1
    rw [← f4] at hln
    have hP := sput_spec b (by omega) l f1 f4.symm nl false false
    have hQ := rput18_spec l f1 (by omega)
    have hbe : entGo 0 0 l = [] ↔ b = [] := by
      have := entGo_length l 0 0
      constructor
      · intro q; rw [q] at this; cases l with | nil => exact f4 | cons x r => simp at this
      · intro q; rw [q] at hln; cases l with | nil => rfl | cons x r => simp at hln
    have hN := sents_spec b (entGo 0 0 l) (by rw [entGo_length]; omega) hbe (totB l) nl false false
    have hil : (idxB l).length ≤ 1000000 := by
      have := idxIn_len l f1 (by omega)
      unfold idxB; rw [sealB_length]; omega
    have hSm := same13_spec (idxB l) (idxB l) (by omega) false false false false
    simp only [decide_true] at hSm
    have hel := entGo_length l 0 0
    have hrl := rentGo_length l 0 0
    by_cases hb0 : b = []
    · have hl0 : l = [] := by cases l with | nil => rfl | cons x r => rw [hb0] at hln; simp at hln
      subst hb0 hl0
      generalize idxB [] = I at *
      cases nl
      · simp [ixH, entGo, rentGo, totB, entV, entH, nilS] at hO hE hP hQ hN
        simp [go_sem, ir3, hO, hE, hP, hQ, hN, hSm, awake18, nilS, purse_eq, List.range_succ]
        rw [run_inLoop']
        simp [go_sem, purse_eq, List.range_succ, run_codeL E L3_0.eq_1, awake18]
      · simp [ixH, entGo, rentGo, totB, entV, entH, nilS] at hO hE hP hQ hN
        simp [go_sem, ir3, hO, hE, hP, hQ, hN, hSm, awake18, nilS, purse_eq, List.range_succ]
        rw [run_inLoop']
        simp [go_sem, purse_eq, List.range_succ, run_codeL E L3_0.eq_1, awake18]
    · have hl0 : l ≠ [] := by intro q; exact hb0 (by rw [f4, q]; rfl)
      have he0 : entGo 0 0 l ≠ [] := fun q => hb0 (hbe.1 q)
      have hr0 : rentGo 0 0 l ≠ [] := by intro q; rw [q] at hrl; cases l with | nil => exact hl0 rfl | cons x r => simp at hrl
      have hL := ofs_loop l (by omega) [.code (.seq (.reg [⟨none, some 85, .call 15 []⟩, ⟨none, some 2, .copy (.t 85)⟩] [] []) .ret)] (some (.lit (.bool true), [])) (by intro τ H; simp [go_sem, awake18, purse_eq]) l.length 0 (by omega)
      have hre : (rentGo 0 0 l).isEmpty = false := by cases hq : rentGo 0 0 l with | nil => exact absurd hq hr0 | cons x r => rfl
      generalize entGo 0 0 l = es at *
      generalize rentGo 0 0 l = rs at *
      generalize idxB l = I at *
      simp [ixH, hb0, entV, entH, he0, hre, hel, nilS] at hO hE hP hQ hN
      simp [go_sem, ir3, h1', hO, hE, hP, hQ, hN, hSm, hel, hrl, awake18, nilS, purse_eq, List.range_succ]
      rw [run_inLoop']
      simp [go_sem, purse_eq, List.range_succ]
      simpa using hL
  · rw [if_neg h] at hO hE
    simp [go_sem, ir3, h1', hO, hE, awake18, nilS]
end Go.AM.R1
open Go Go.AM Go.AM.R1 Go.Proofs
namespace Go.Proofs.Ytppdlldajaihbaa
open Go.ChangeShapes Go.WideShapes Go.ChangeAt Go.RowKit
namespace seekOfs
theorem own : ownKnob Try.prog.godebug = none := by kernel_rfl
theorem laidOut : laidOutB Try.prog = true := by kernel_rfl
theorem mixed : Try.prog.follows .mixedOrders = true := by kernel_rfl
set_option maxRecDepth 100000 in
theorem contract (H : Type) (enc : TypeId × Value → H) (W : World) (base : Nat) (args : Array Value) (ds gs : List (DataW H)) (before : List MemPlace)
    (hval : ∀ (j : Nat) t v, Try.f3.params[j]? = some t → args[j]? = some v → Value.okWide Try.prog W .any base t v)
    (hW : DataW.Whole enc Try.prog Try.f3.params.toList Rows.seekOfsSpec.vars false W args.toList ds gs before) :
    Calls Try.prog 3 args W fun e W' => ∃ v, e = .returned v ∧ Rows.seekOfsSpec.post enc Try.prog Try.f3 false true false false W args v W' := by
  refine law_contract (id := 3) (f := Try.f3) (s := Rows.seekOfsSpec) (k := 6) (nargs := 1) (base := base) (ds := ds) (gs := gs) (before := before) mixed R1.hE laidOut ?e1 ?e2 (tb := 4) ?e3 Try.underlying4 ?e4 ?e5 ?e7 ?e8 ?e6
  case e7 => exact hval
  case e8 => exact hW
  case e1 => rfl
  case e3 => kernel_rfl
  case e4 => rw [Try.params3]; rfl
  · rw [Try.params3]; decide +kernel
  · intro ds h
    match ds, h with
    | [d1], _ => rfl
  · intro cs hA
    rw [Try.params3] at hA
    obtain ⟨d1, r1, a1, s1, rfl, rfl, h1, hA⟩ := decArgs_cons hA
    obtain ⟨rfl, rfl⟩ := decArgs_nil hA
    obtain ⟨nl, fu, b, rfl, hnl, hb⟩ := decV_bytes (n := 4) Try.underlying22 Try.underlying5 h1
    obtain ⟨n, hn⟩ := (call_iff R1.E).1 (seekOfs_spec b hb nl fu hnl)
    exact ⟨n, _, hn⟩

set_option maxRecDepth 100000 in
theorem lifted (os : Os) (started : os.Started) (H : Type) (enc : TypeId × Value → H) :
    ReturnsInHanded {} Try.checked os 3 .any (Rows.seekOfsSpec.pre6 enc Try.prog Try.f3 Rows.seekOfsRow.domain false) (Rows.seekOfsSpec.post enc Try.prog Try.f3 false true false false) := by
  refine returnsInHanded_of_change (C := Try.checked) own started (by kernel_rfl) Try.func3
    (ChangeSpec.witness6 (enc := enc) (C := Try.checked) false ⟨#[], #[.slice none 0 0], []⟩ 8 (by kernel_rfl) (by kernel_rfl) (by kernel_rfl) (by kernel_rfl)) ?_
  intro W base args ds gs before hval hW _ _
  exact contract H enc W base args ds gs before hval hW

theorem proved : Rows.SeekOfsSaid :=
  OpenClaim.holds_of_wide 3 Try.f3 rfl rfl rfl rfl rfl rfl rfl ⟨rfl, rfl, rfl, rfl, rfl⟩ rfl rfl rfl rfl rfl (by kernel_rfl) Try.func3 (by kernel_rfl)
    (of_decide_eq_true (by kernel_rfl)) (by unfold Func.isWrapper; first | (rw [if_pos (by decide +kernel)]; kernel_rfl) | (rw [if_neg (by decide +kernel)]; exact ⟨rfl, rfl⟩))
    (fun os started H enc _ => lifted os started H enc)
end seekOfs
theorem seekOfsProved : Rows.SeekOfsSaid := seekOfs.proved
end Go.Proofs.Ytppdlldajaihbaa
