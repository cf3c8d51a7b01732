/- The law LogScans of package magnetolaw17 returns true for every input, and its arguments read as before. -/
import Derived.Test.YtppdlldajaihbaaLogScans2
import Derived.ProofKit
set_option linter.unusedVariables false
set_option linter.unusedSimpArgs false
open Go Go.AM
namespace Go.AM.R1
theorem fadd_nil (fo ff : Bool) (fb : List Nat) (hfo : fo = false → fb = []) (sure : Nat) (most : Int) (hl : fb.length ≤ 1000000) (nl fu : Bool) : call E (.func (.func 113) [] []) [.ptr 0 0, .imm nl fu true []] (fF fo ff fb sure most false)
    = some (.tup [], fF fo ff fb sure most false) := by
  rw [call_func E E113]
  cases fo
  · have := hfo rfl
    subst this
    simp [go_sem, ir113, fF, fB, fileB, nilS, purse_eq, List.range_succ]
  · simp [go_sem, ir113, fF, fB, fileB, nilS, purse_eq, List.range_succ]
theorem fappend_nil (fo ff : Bool) (fb : List Nat) (hfo : fo = false → fb = []) (sure : Nat) (most : Int) (hm : 0 ≤ most ∧ most ≤ 67108864) (hl : fb.length ≤ 1000000) (hs : (fb.length : Int) ≤ most) (nl fu : Bool) :
    call E (.func (.func 56) [] []) [.ptr 0 0, .imm nl fu true []] (fF fo ff fb sure most false)
      = some (.lit (.int .i64 0), fF fo ff fb sure most false) := by
  rw [call_func E E56]
  have h1 := fcheck fo ff fb sure most false
  have h2 := fsize fo ff fb hfo sure most false
  have h3 := fadd_nil fo ff fb hfo sure most hl nl fu
  have w : IntKind.wrap .i64 (most - (fb.length : Int)) = most - fb.length := by rw [wrap64 (by omega) (by omega)]
  have h5 : ¬ most - (fb.length : Int) < 0 := by omega
  have h6 : ¬ most < (fb.length : Int) := by omega
  cases fo <;> simp [fF, fB, fileB, nilS] at h1 h2 h3 <;> simp [go_sem, ir56, fF, fB, fileB, nilS, h1, h2, h3, w, h5, h6, purse_eq, List.range_succ]
/-- Any bytes put behind what a file has. -/
theorem fapp (fo ff : Bool) (fb : List Nat) (hfo : fo = false → fb = []) (sure : Nat) (most : Int) (hm : 0 ≤ most ∧ most ≤ 67108864) (b : List Nat) (hl : fb.length + b.length ≤ 1000000) (hs : (fb.length : Int) + b.length ≤ most) (nl fu : Bool) (hnl : nl = false ∨ b = []) :
    call E (.func (.func 56) [] []) [.ptr 0 0, .imm nl fu true (b.map encB)] (fF fo ff fb sure most false)
      = some (.lit (.int .i64 0), fF (fo || !b.isEmpty) (ff && b.isEmpty) (fb ++ b) sure most false) := by
  by_cases hb : b = []
  · subst hb
    have := fappend_nil fo ff fb hfo sure most hm (by simpa using hl) (by simpa using hs) nl fu
    simpa using this
  · have hn : nl = false := by rcases hnl with h | h; exact h; exact absurd h hb
    subst hn
    have h := fappend fo ff fb hfo sure most hm false b hb hl fu
    rw [if_neg (by simp), if_neg (by omega)] at h
    have he : b.isEmpty = false := by simpa using hb
    simpa [he] using h
theorem rlsure_loop (most : Int) (a b : Nat) (fx fy fz : Bool) (X Y : List (List AVal)) (L : List Bk) (hg : Good 0 L) (hl : (blksB L).length ≤ 1000000) (k : List Item) (R : Int → Option (AVal × Heap))
    (hk : ∀ τ t, lk 4 τ = .lit (.int .i64 t) → finK 5 [.tmp 2] (run E 5 k τ (rL most a b fx fy fz X Y L)) = R t) :
    ∀ (d i p : Nat) (t : Int), i + d = L.length → p = (blksB (L.take i)).length → 0 ≤ t → t ≤ totB (L.take i) →
    finK 5 [.tmp 2] (run E 5 (.code L67_0 :: .inLoop [0, 3, 4, 5] L67_0 :: .inBlock 0 :: k) [(0, .ptr 0 0), (3, .lit (.int .i64 p)), (4, .lit (.int .i64 t)), (5, .lit (.int .i64 i))] (rL most a b fx fy fz X Y L)) = R (rsG a p t (L.drop i)) := by
  intro d
  induction d with
  | zero =>
    intro i p t hi hp h0 ht
    have : i = L.length := by omega
    subst this
    simp [rL, nilS, rsG] at hk ⊢
    simp [go_sem, run_codeL E L67_0.eq_1, purse_eq, List.range_succ]
    exact hk _ _ rfl
  | succ d ih =>
    intro i p t hi hp h0 ht
    have hlt : i < L.length := by omega
    have hll := good_len L 0 hg
    have wi := wrapIdx (i := i) (by omega)
    have hT : totB (L.take (i + 1)) = totB (L.take i) + sumN L[i].2 := by rw [List.take_succ_eq_append_getElem hlt, totB_append]; simp [totB]
    have hgt : Good 0 (L.take (i + 1) ++ L.drop (i + 1)) := by rw [List.take_append_drop]; exact hg
    have hgi : Good 0 (L.take i ++ L.drop i) := by rw [List.take_append_drop]; exact hg
    have g1 := good_tot _ 0 (by omega) (by omega) ((good_append _ _ 0).1 hgt).1
    have g2 := ((good_append _ _ 0).1 hgi).2
    rw [List.drop_eq_getElem_cons hlt] at g2
    obtain ⟨c1, c2, c3, c4, c5, c6⟩ := chkB_ok g2.2.1
    have hs0 := (chk_right c4).2
    have hC := count_spec L[i].2 (by omega) (chk_right c4).1 false false
    have hP := rput15_spec L[i].1 L[i].2 false false g2.2.1
    rw [show wholeB (numsN L[i].1 L[i].2) = putBk L[i] from rfl] at hP
    have hp2 : p + (putBk L[i]).length = (blksB (L.take (i + 1))).length := by rw [List.take_succ_eq_append_getElem hlt, blksB_append, List.length_append, hp]; simp [blksB]
    have hple : (blksB (L.take (i + 1))).length ≤ 1000000 := by
      have : (blksB (L.take (i + 1) ++ L.drop (i + 1))).length ≤ 1000000 := by rw [List.take_append_drop]; exact hl
      rw [blksB_append, List.length_append] at this
      omega
    have wp : IntKind.wrap .i64 ((p : Int) + (putBk L[i]).length) = ((p + (putBk L[i]).length : Nat) : Int) := by rw [wrap64 (by omega) (by omega)]; omega
    have w : IntKind.wrap .i64 (t + sumN L[i].2) = t + sumN L[i].2 := wrap64 (by omega) (by omega)
    rw [List.drop_eq_getElem_cons hlt, rsG]
    by_cases hx : p + (putBk L[i]).length ≤ a
    · rw [if_pos hx]
      have hx' : ((p + (putBk L[i]).length : Nat) : Int) ≤ (a : Int) := by omega
      have ih2 := ih (i + 1) (p + (putBk L[i]).length) (t + sumN L[i].2) (by omega) hp2 (by omega) (by omega)
      generalize putBk L[i] = pb at *
      generalize R _ = Q at ih2 ⊢
      simp [rL, nilS, encBlk] at ih2 hP ⊢
      simp at wp hx'
      simp [go_sem, run_codeL E L67_0.eq_1, hlt, List.getElem?_eq_getElem hlt, encBk, hC, hP, w, wp, wi, hx, hx', purse_eq, List.range_succ]
      rw [run_inLoop']
      simp [go_sem, purse_eq, List.range_succ]
      exact ih2
    · rw [if_neg hx]
      have hx' : ¬ ((p + (putBk L[i]).length : Nat) : Int) ≤ (a : Int) := by omega
      have ih2 := ih (i + 1) (p + (putBk L[i]).length) t (by omega) hp2 (by omega) (by omega)
      generalize putBk L[i] = pb at *
      generalize R _ = Q at ih2 ⊢
      simp [rL, nilS, encBlk] at ih2 hP ⊢
      simp at wp
      have hx2 : ¬ ((p : Int) + (pb.length : Int) ≤ (a : Int)) := by omega
      simp [go_sem, run_codeL E L67_0.eq_1, hlt, List.getElem?_eq_getElem hlt, encBk, hC, hP, w, wp, wi, hx, hx2, purse_eq, List.range_succ]
      rw [run_inLoop']
      simp [go_sem, purse_eq, List.range_succ]
      exact ih2
theorem rlsure (most : Int) (a b : Nat) (fx fy fz : Bool) (X Y : List (List AVal)) (L : List Bk) (hg : Good 0 L) (hl : (blksB L).length ≤ 1000000) :
    call E (.func (.func 67) [] []) [.ptr 0 0] (rL most a b fx fy fz X Y L) = some (.lit (.int .i64 (sureOf a L)), rL most a b fx fy fz X Y L) := by
  rw [call_func E E67]
  have h := fun k hk => rlsure_loop most a b fx fy fz X Y L hg hl k (fun t => some (.lit (.int .i64 t), rL most a b fx fy fz X Y L)) hk L.length 0 0 0 (by omega) rfl (by omega) (by simp [totB])
  have e : rsG a 0 0 L = sureOf a L := rsG_eq a L 0 0 0 (fun _ => rfl)
  simp [rL, nilS, e] at h ⊢
  simp [go_sem, ir67, purse_eq, List.range_succ]
  rw [run_inLoop']
  simp [go_sem, purse_eq, List.range_succ]
  refine h _ ?_
  intro τ t t3
  simp [go_sem, t3, purse_eq, List.range_succ]
end Go.AM.R1
open Go Go.AM Go.Proofs
namespace Go.AM.R1
theorem awake17 : call E (.func (.func 53) [] []) [] [] = some (.lit (.bool true), []) :=
  (call_iff E).2 ⟨3000, by kernel_rfl⟩
end Go.AM.R1
open Go Go.AM
namespace Go.AM.R1
theorem scans_loop (b : List Nat) (nl fu : Bool) (n : Int) (L : List Bk) (hl : L.length ≤ 1000000) (hg : Good 0 L) (k : List Item) (Q : Option (AVal × Heap))
    (hk : ∀ τ, lk 0 τ = .imm nl fu true (b.map encB) → lk 1 τ = .lit (.int .i64 n) → lk 7 τ = .own 1 L.length 2 0 L.length → finK 0 [.tmp 4] (run E 0 k τ [.arr true false false 2 (L.map encBk), .arr true false false 2 (L.map encBk)]) = Q) :
    ∀ (d i : Nat), i + d = L.length →
    finK 0 [.tmp 4] (run E 0 (.code L12_0 :: .inLoop [1000000, 0, 1, 5, 7, 9] L12_0 :: .inBlock 0 :: k)
      [(0, .imm nl fu true (b.map encB)), (1, .lit (.int .i64 n)), (5, .own 0 L.length 2 0 L.length), (7, .own 1 L.length 2 0 L.length), (9, .lit (.int .i64 i))]
      [.arr true false false 2 (L.map encBk), .arr true false false 2 (L.map encBk)]) = Q := by
  intro d
  induction d with
  | zero =>
    intro i hi
    have : i = L.length := by omega
    subst this
    simp [go_sem, run_codeL E L12_0.eq_1, purse_eq, List.range_succ]
    exact hk _ rfl rfl rfl
  | succ d ih =>
    intro i hi
    have hlt : i < L.length := by omega
    have wi := wrapIdx (i := i) (by omega)
    have hgi : Good 0 (L.take i ++ L.drop i) := by rw [List.take_append_drop]; exact hg
    have g2 := ((good_append _ _ 0).1 hgi).2
    rw [List.drop_eq_getElem_cons hlt] at g2
    obtain ⟨c1, c2, c3, c4, c5, c6⟩ := chkB_ok g2.2.1
    have Sm := same_spec L[i].2 L[i].2 (by omega) false false false false
    rw [decide_eq_true rfl] at Sm
    have ih2 := ih (i + 1) (by omega)
    simp at ih2
    simp [go_sem, run_codeL E L12_0.eq_1, hlt, List.getElem?_eq_getElem hlt, encBk, Sm, wi, purse_eq, List.range_succ]
    rw [run_inLoop']
    simp [go_sem, purse_eq, List.range_succ]
    simpa [encBk] using ih2
theorem scans_loop0 (b : List Nat) (nl fu : Bool) (n : Int) (L : List Bk) (hl : L.length ≤ 1000000) (hg : Good 0 L) (k : List Item) (Q : Option (AVal × Heap))
    (hk : ∀ τ, lk 0 τ = .imm nl fu true (b.map encB) → lk 1 τ = .lit (.int .i64 n) → lk 7 τ = .own 1 L.length 2 0 L.length → finK 0 [.tmp 4] (run E 0 k τ [.arr true false false 2 (L.map encBk), .arr true false false 2 (L.map encBk)]) = Q) :
    finK 0 [.tmp 4] (run E 0 (.code L12_0 :: .inLoop [1000000, 0, 1, 5, 7, 9] L12_0 :: .inBlock 0 :: k)
      [(0, .imm nl fu true (b.map encB)), (1, .lit (.int .i64 n)), (5, .own 0 L.length 2 0 L.length), (7, .own 1 L.length 2 0 L.length), (9, .lit (.int .i64 0))]
      [.arr true false false 2 (L.map encBk), .arr true false false 2 (L.map encBk)]) = Q := by
  have h := scans_loop b nl fu n L hl hg k Q hk L.length 0 (by omega)
  simpa using h
set_option maxHeartbeats 4000000 in
theorem logScans_spec (b : List Nat) (hb : ∀ c ∈ b, c < 256) (nl fu : Bool) (hnl : nl = false ∨ b = []) (n : Int) :
    call E (.func (.func 12) [] []) [.imm nl fu true (b.map encB), .lit (.int .i64 n)] [] = some (.lit (.bool true), []) := by
  rw [call_func E E12]
  by_cases h1 : 1000 < b.length
  · have h1' : (1000 : Int) < (b.length : Int) := by omega
    simp [go_sem, ir12, h1, h1', awake17]
  have h1' : ¬ (1000 : Int) < (b.length : Int) := by omega
  by_cases h2 : n < 0
  · simp [go_sem, ir12, h1, h1', h2, awake17]
  by_cases h3 : (b.length : Int) < n
  · simp [go_sem, ir12, h1, h1', h2, h3, awake17]
  obtain ⟨m, rfl⟩ : ∃ m : Nat, n = m := ⟨n.toNat, by omega⟩
  have hm : m ≤ b.length := by omega
  have hS := scan_spec b hb (by omega) nl fu hnl
  have hR := rscan_spec b hb (by omega) nl fu
  obtain ⟨f1, f2, f3, f4, f5⟩ := scanB_facts hb
  have hN := fnew_spec 2000 (by omega)
  have w0 : IntKind.wrap .i64 0 = 0 := rfl
  by_cases hb0 : b = []
  · subst hb0
    have hm0 : m = 0 := by simpa using hm
    subst hm0
    have hsn : scanB [] = ([], 0, 0) := by decide
    have hA := fappend_nil false false [] (fun _ => rfl) 0 2000 (by omega) (by simp) (by simp) nl fu
    have hF := fflush false false [] (fun _ => rfl) 0 2000 false
    have hO := nopen 2000
    have hLn := flen false false [] (fun _ => rfl) 0 2000 false
    have hRo := r17open 2000 [] [] (by simp) nl fu nl fu (by simp)
    have hRu := gruns false false false false [] [] (fun _ => rfl) (by simp [allR, joined]) (fun h => absurd rfl h) 0 2000 false
    have hBk := gblocks false false false false [] [] (fun _ => rfl) (by simp) 0 2000 false
    have hT := gticks false false false false [] [] (fun _ => rfl) (by simp) (by simp) rfl (by simp [totB]) 0 2000 false
    have hSu := sureG false false false true [] [] (fun _ => rfl) (by simp) 0 2000 false
    have hRr := rruns_spec [] trivial (by simp [blksB]) false true
    have hW := rwritten 2000 0 0 true true false [] [] [] trivial (by simp)
    have hRs := rlsure 2000 0 0 true true false [] [] [] trivial (by simp [blksB])
    have Sm := same_spec [] [] (by simp) true true false true
    have hs0 : sureOf 0 [] = 0 := rfl
    simp [hsn, bkV, bkH, nilS] at hS hR
    simp [hsn] at hRo
    simp [fF, fN, fileB, nilS] at hN hA hF hO hLn
    simp [lS, fileB, nilS, totB, sumN, hs0] at hRu hBk hT hSu
    simp [allR, joined, totB] at hRr hW
    simp [rL, nilS, hs0] at hW hRs
    simp at Sm
    simp [go_sem, ir12, h1, h1', h2, h3, hS, hR, purse_eq, List.range_succ]
    rw [run_inLoop']
    simp [go_sem, purse_eq, List.range_succ]
    simp [go_sem, run_codeL E L12_0.eq_1, hN, hA, hF, hO, hLn, hRo, hRu, hBk, hT, hSu, hRr, hW, hRs, Sm, w0, awake17, fileB, nilS, purse_eq, List.range_succ]
  have hnf : nl = false := by rcases hnl with h | h; exact h; exact absurd h hb0
  subst hnf
  have hbe : b.isEmpty = false := by simpa using hb0
  have hbl := List.length_pos_iff.2 hb0
  have hO := gopen false b hb (by omega) m 2000
  have hln := good_len _ 0 f1
  have hg := acc_facts f1 (by omega)
  have htt := good_tot _ 0 (by omega) (by omega) f1
  have hRo := fun f1 => r17open 2000 (b.take m) (b.drop m) (by rw [List.take_append_drop]; exact hb) false f1 false fu (by simp; omega)
  simp only [List.take_append_drop, List.length_take, Nat.min_eq_left hm] at hRo
  generalize scanB b = sc at *
  obtain ⟨L, p, T⟩ := sc
  simp only [] at *
  subst f2
  subst f5
  have hRu := gruns true true false false L [] (fun h => nomatch h) (by by_cases q : L = []; subst q; simp [allR, joined]; have := hg q; omega) (fun q => (hg q).2.2.1) (min m (blksB L).length) 2000 false
  have hBk := gblocks true true true false L [] (fun h => nomatch h) (by omega) (min m (blksB L).length) 2000 false
  have hT := gticks true true true false L [] (fun h => nomatch h) (by omega) (by simp) rfl (by omega) (min m (blksB L).length) 2000 false
  have hSu := sureG true true true true L [] (fun h => nomatch h) (by omega) (min m (blksB L).length) 2000 false
  have hLn := flen true true (blksB L) (fun h => nomatch h) (min m (blksB L).length) 2000 false
  have hRr := rruns_spec L f1 (by omega) false L.isEmpty
  have wc : IntKind.wrap .i64 ((b.length : Int) - ((b.length : Int) - ((blksB L).length : Int))) = ((blksB L).length : Int) := by rw [wrap64 (by omega) (by omega)]; omega
  simp only [f4] at hO
  simp only [show (b.take m).map encB = (b.map encB).take m from List.map_take .., show (b.drop m).map encB = (b.map encB).drop m from List.map_drop ..] at hRo
  by_cases hm0 : m = 0
  · by_cases hL : L = []
    · subst hm0
      have hA := fappend_nil false false [] (fun _ => rfl) 0 2000 (by omega) (by simp) (by simp) false false
      have hF := fflush false false [] (fun _ => rfl) 0 2000 false
      have hA2 := fappend false false [] (fun _ => rfl) 0 2000 (by omega) false b hb0 (by simp; omega) fu
      rw [if_neg (by simp), if_neg (by simp; omega)] at hA2
      have hRo := hRo false
      have hn0 : ¬ b.length = 0 := by omega
      have hn1 : ¬ 0 = b.length := by omega
      have hn9 : ¬ (b.length : Int) < 0 := by omega
      generalize List.drop (min 0 (blksB L).length) (List.take (blksB L).length b) = Y at hRo
      generalize List.take (min 0 (blksB L).length) b = X at hRo
      have hW := rwritten 2000 (min 0 (blksB L).length) ((blksB L).length - min 0 (blksB L).length) X.isEmpty Y.isEmpty false (X.map encB) (Y.map encB) L f1 (by omega)
      have hRs := rlsure 2000 (min 0 (blksB L).length) ((blksB L).length - min 0 (blksB L).length) X.isEmpty Y.isEmpty false (X.map encB) (Y.map encB) L f1 (by omega)
      generalize X.isEmpty = xe at *
      generalize Y.isEmpty = ye at *
      generalize X.map encB = Xr at *
      generalize Y.map encB = Yr at *
      subst hL
      have Sm := same_spec [] [] (by simp) true true false true
      have e0 : blksB [] = [] := rfl
      have e1 : totB [] = 0 := rfl
      have e2 : ∀ s, sureOf s [] = 0 := fun _ => rfl
      simp [fF, fB, fileB, nilS] at hA hF hA2
      simp [bkV, bkH, nilS] at hS hR
      simp [fB, fF, fileB, nilS, e0] at hO hLn
      simp [e0] at wc
      simp [e0, nilS] at hRo
      simp [fileB, nilS] at hN
      simp [lS, fileB, nilS, e0, e1, e2, sumN, allR, joined] at hRu hBk hT hSu hRr
      simp [rL, nilS, e0, e1, e2] at hW hRs
      simp at Sm
      simp [go_sem, ir12, h1, h1', h2, h3, hS, hR, purse_eq, List.range_succ, hn9]
      rw [run_inLoop']
      simp [go_sem, purse_eq, List.range_succ]
      simp [go_sem, run_codeL E L12_0.eq_1, hN, hA, hF, hA2, hO, hLn, hRo, hRu, hBk, hT, hSu, hRr, hW, hRs, Sm, w0, wc, awake17, fileB, nilS, rowsB, purse_eq, List.range_succ, hn0, hn1, hn9, take_allB]
    · subst hm0
      have hA := fappend_nil false false [] (fun _ => rfl) 0 2000 (by omega) (by simp) (by simp) false false
      have hF := fflush false false [] (fun _ => rfl) 0 2000 false
      have hA2 := fappend false false [] (fun _ => rfl) 0 2000 (by omega) false b hb0 (by simp; omega) fu
      rw [if_neg (by simp), if_neg (by simp; omega)] at hA2
      have hRo := hRo false
      have hn0 : ¬ b.length = 0 := by omega
      have hn1 : ¬ 0 = b.length := by omega
      have hn9 : ¬ (b.length : Int) < 0 := by omega
      generalize List.drop (min 0 (blksB L).length) (List.take (blksB L).length b) = Y at hRo
      generalize List.take (min 0 (blksB L).length) b = X at hRo
      have hW := rwritten 2000 (min 0 (blksB L).length) ((blksB L).length - min 0 (blksB L).length) X.isEmpty Y.isEmpty false (X.map encB) (Y.map encB) L f1 (by omega)
      have hRs := rlsure 2000 (min 0 (blksB L).length) ((blksB L).length - min 0 (blksB L).length) X.isEmpty Y.isEmpty false (X.map encB) (Y.map encB) L f1 (by omega)
      generalize X.isEmpty = xe at *
      generalize Y.isEmpty = ye at *
      generalize X.map encB = Xr at *
      generalize Y.map encB = Yr at *
      obtain ⟨q1, q2, q3, q4⟩ := hg hL
      have Sm := same_spec (joined [] (allR L)) (joined [] (allR L)) (by omega) false false false false
      rw [decide_eq_true rfl] at Sm
      have hLe : L.isEmpty = false := by simpa using hL
      have hJe : (joined [] (allR L)).isEmpty = false := by simpa using q3
      have hLl : L.length ≤ 1000000 := by omega
      rw [hLe, hJe] at hRr
      rw [hLe] at hRo
      simp [fF, fB, fileB, nilS] at hA hF hA2
      simp [bkV, bkH, hL, hLe, nilS] at hS hR
      simp only [lS, hL, if_false, Bool.true_eq_false] at hRu hBk hT hSu
      simp only [rL] at hW hRs
      simp only [hL, if_false] at hO
      generalize hbs : joined [] (allR L) = J at *
      generalize sureOf _ L = so at *
      simp [fB, fF, fileB, nilS] at hO hLn
      simp [nilS] at hRo
      simp [fileB, nilS] at hN
      simp [fileB, nilS, sumN] at hRu hBk hT hSu
      simp [nilS, hLe] at hW hRs
      simp [go_sem, ir12, h1, h1', h2, h3, hS, hR, purse_eq, List.range_succ, hn9]
      rw [run_inLoop']
      simp [go_sem, purse_eq, List.range_succ]
      refine scans_loop0 b false fu _ L hLl f1 _ _ ?_
      intro τ t0 t1 t7
      simp [go_sem, t0, t1, t7, hN, hA, hF, hA2, hO, hLn, hRo, hRu, hBk, hT, hSu, hRr, hW, hRs, Sm, w0, wc, awake17, fileB, nilS, rowsB, purse_eq, List.range_succ, hn0, hn1, hn9, take_allB]
  · by_cases hm1 : m = b.length
    · by_cases hL : L = []
      · subst hm1
        have hA := fappend false false [] (fun _ => rfl) 0 2000 (by omega) false b hb0 (by simp; omega) fu
        rw [if_neg (by simp), if_neg (by simp; omega)] at hA
        have hF := fflush true false b (fun h => nomatch h) 0 2000 false
        have hA2 := fappend_nil true false b (fun h => nomatch h) b.length 2000 (by omega) (by omega) (by omega) false fu
        have hta := take_allB b
        have hda : (b.map encB).drop b.length = [] := by simp
        have hRo := hRo fu
        rw [hta, hda] at hRo
        generalize List.drop (min b.length (blksB L).length) (List.take (blksB L).length b) = Y at hRo
        generalize List.take (min b.length (blksB L).length) b = X at hRo
        have hW := rwritten 2000 (min b.length (blksB L).length) ((blksB L).length - min b.length (blksB L).length) X.isEmpty Y.isEmpty false (X.map encB) (Y.map encB) L f1 (by omega)
        have hRs := rlsure 2000 (min b.length (blksB L).length) ((blksB L).length - min b.length (blksB L).length) X.isEmpty Y.isEmpty false (X.map encB) (Y.map encB) L f1 (by omega)
        generalize X.isEmpty = xe at *
        generalize Y.isEmpty = ye at *
        generalize X.map encB = Xr at *
        generalize Y.map encB = Yr at *
        subst hL
        have Sm := same_spec [] [] (by simp) true true false true
        have e0 : blksB [] = [] := rfl
        have e1 : totB [] = 0 := rfl
        have e2 : ∀ s, sureOf s [] = 0 := fun _ => rfl
        simp [fF, fB, fileB, nilS] at hA hF hA2
        simp [bkV, bkH, nilS] at hS hR
        simp [fB, fF, fileB, nilS, e0] at hO hLn
        simp [e0] at wc
        simp [e0, nilS] at hRo
        simp [fileB, nilS] at hN
        simp [lS, fileB, nilS, e0, e1, e2, sumN, allR, joined] at hRu hBk hT hSu hRr
        simp [rL, nilS, e0, e1, e2] at hW hRs
        simp at Sm
        simp [go_sem, ir12, h1, h1', h2, h3, hS, hR, purse_eq, List.range_succ]
        rw [run_inLoop']
        simp [go_sem, purse_eq, List.range_succ]
        simp [go_sem, run_codeL E L12_0.eq_1, hN, hA, hF, hA2, hO, hLn, hRo, hRu, hBk, hT, hSu, hRr, hW, hRs, Sm, w0, wc, awake17, fileB, nilS, rowsB, purse_eq, List.range_succ, hta, hda]
      · subst hm1
        have hA := fappend false false [] (fun _ => rfl) 0 2000 (by omega) false b hb0 (by simp; omega) fu
        rw [if_neg (by simp), if_neg (by simp; omega)] at hA
        have hF := fflush true false b (fun h => nomatch h) 0 2000 false
        have hA2 := fappend_nil true false b (fun h => nomatch h) b.length 2000 (by omega) (by omega) (by omega) false fu
        have hta := take_allB b
        have hda : (b.map encB).drop b.length = [] := by simp
        have hRo := hRo fu
        rw [hta, hda] at hRo
        generalize List.drop (min b.length (blksB L).length) (List.take (blksB L).length b) = Y at hRo
        generalize List.take (min b.length (blksB L).length) b = X at hRo
        have hW := rwritten 2000 (min b.length (blksB L).length) ((blksB L).length - min b.length (blksB L).length) X.isEmpty Y.isEmpty false (X.map encB) (Y.map encB) L f1 (by omega)
        have hRs := rlsure 2000 (min b.length (blksB L).length) ((blksB L).length - min b.length (blksB L).length) X.isEmpty Y.isEmpty false (X.map encB) (Y.map encB) L f1 (by omega)
        generalize X.isEmpty = xe at *
        generalize Y.isEmpty = ye at *
        generalize X.map encB = Xr at *
        generalize Y.map encB = Yr at *
        obtain ⟨q1, q2, q3, q4⟩ := hg hL
        have Sm := same_spec (joined [] (allR L)) (joined [] (allR L)) (by omega) false false false false
        rw [decide_eq_true rfl] at Sm
        have hLe : L.isEmpty = false := by simpa using hL
        have hJe : (joined [] (allR L)).isEmpty = false := by simpa using q3
        have hLl : L.length ≤ 1000000 := by omega
        rw [hLe, hJe] at hRr
        rw [hLe] at hRo
        simp [fF, fB, fileB, nilS] at hA hF hA2
        simp [bkV, bkH, hL, hLe, nilS] at hS hR
        simp only [lS, hL, if_false, Bool.true_eq_false] at hRu hBk hT hSu
        simp only [rL] at hW hRs
        simp only [hL, if_false] at hO
        generalize hbs : joined [] (allR L) = J at *
        generalize sureOf _ L = so at *
        simp [fB, fF, fileB, nilS] at hO hLn
        simp [nilS] at hRo
        simp [fileB, nilS] at hN
        simp [fileB, nilS, sumN] at hRu hBk hT hSu
        simp [nilS, hLe] at hW hRs
        simp [go_sem, ir12, h1, h1', h2, h3, hS, hR, purse_eq, List.range_succ]
        rw [run_inLoop']
        simp [go_sem, purse_eq, List.range_succ]
        refine scans_loop0 b false fu _ L hLl f1 _ _ ?_
        intro τ t0 t1 t7
        simp [go_sem, t0, t1, t7, hN, hA, hF, hA2, hO, hLn, hRo, hRu, hBk, hT, hSu, hRr, hW, hRs, Sm, w0, wc, awake17, fileB, nilS, rowsB, purse_eq, List.range_succ, hta, hda]
    · by_cases hL : L = []
      · have hAn : b.take m ≠ [] := by intro q; have := congrArg List.length q; rw [List.length_take, Nat.min_eq_left hm] at this; exact hm0 this
        have hBn : b.drop m ≠ [] := by intro q; have := congrArg List.length q; simp at this; omega
        have htl : (b.take m).length = m := by rw [List.length_take]; omega
        have hdl : (b.drop m).length = b.length - m := by simp
        have hA := fappend false false [] (fun _ => rfl) 0 2000 (by omega) false (b.take m) hAn (by simp; omega) false
        rw [if_neg (by simp), if_neg (by rw [htl]; simp; omega)] at hA
        have hF := fflush true false (b.take m) (fun h => nomatch h) 0 2000 false
        have hA2 := fappend true false (b.take m) (fun h => nomatch h) m 2000 (by omega) false (b.drop m) hBn (by rw [htl, hdl]; omega) fu
        rw [if_neg (by simp), if_neg (by rw [htl, hdl]; omega)] at hA2
        have hRo := hRo false
        rw [List.take_append_drop] at hA2
        simp only [htl] at hA hF hA2
        simp only [show (b.take m).map encB = (b.map encB).take m from List.map_take .., show (b.drop m).map encB = (b.map encB).drop m from List.map_drop ..] at hA hF hA2
        generalize List.drop (min m (blksB L).length) (List.take (blksB L).length b) = Y at hRo
        generalize List.take (min m (blksB L).length) b = X at hRo
        have hW := rwritten 2000 (min m (blksB L).length) ((blksB L).length - min m (blksB L).length) X.isEmpty Y.isEmpty false (X.map encB) (Y.map encB) L f1 (by omega)
        have hRs := rlsure 2000 (min m (blksB L).length) ((blksB L).length - min m (blksB L).length) X.isEmpty Y.isEmpty false (X.map encB) (Y.map encB) L f1 (by omega)
        generalize X.isEmpty = xe at *
        generalize Y.isEmpty = ye at *
        generalize X.map encB = Xr at *
        generalize Y.map encB = Yr at *
        subst hL
        have Sm := same_spec [] [] (by simp) true true false true
        have e0 : blksB [] = [] := rfl
        have e1 : totB [] = 0 := rfl
        have e2 : ∀ s, sureOf s [] = 0 := fun _ => rfl
        simp [fF, fB, fileB, nilS, htl] at hA hF hA2
        simp [bkV, bkH, nilS] at hS hR
        simp [fB, fF, fileB, nilS, e0] at hO hLn
        simp [e0] at wc
        simp [e0, nilS] at hRo
        simp [fileB, nilS] at hN
        simp [lS, fileB, nilS, e0, e1, e2, sumN, allR, joined] at hRu hBk hT hSu hRr
        simp [rL, nilS, e0, e1, e2] at hW hRs
        simp at Sm
        simp [go_sem, ir12, h1, h1', h2, h3, hS, hR, purse_eq, List.range_succ]
        rw [run_inLoop']
        simp [go_sem, purse_eq, List.range_succ]
        simp [go_sem, run_codeL E L12_0.eq_1, hN, hA, hF, hA2, hO, hLn, hRo, hRu, hBk, hT, hSu, hRr, hW, hRs, Sm, w0, wc, awake17, fileB, nilS, rowsB, purse_eq, List.range_succ, hm0, hm1, hm, take_allB]
      · have hAn : b.take m ≠ [] := by intro q; have := congrArg List.length q; rw [List.length_take, Nat.min_eq_left hm] at this; exact hm0 this
        have hBn : b.drop m ≠ [] := by intro q; have := congrArg List.length q; simp at this; omega
        have htl : (b.take m).length = m := by rw [List.length_take]; omega
        have hdl : (b.drop m).length = b.length - m := by simp
        have hA := fappend false false [] (fun _ => rfl) 0 2000 (by omega) false (b.take m) hAn (by simp; omega) false
        rw [if_neg (by simp), if_neg (by rw [htl]; simp; omega)] at hA
        have hF := fflush true false (b.take m) (fun h => nomatch h) 0 2000 false
        have hA2 := fappend true false (b.take m) (fun h => nomatch h) m 2000 (by omega) false (b.drop m) hBn (by rw [htl, hdl]; omega) fu
        rw [if_neg (by simp), if_neg (by rw [htl, hdl]; omega)] at hA2
        have hRo := hRo false
        rw [List.take_append_drop] at hA2
        simp only [htl] at hA hF hA2
        simp only [show (b.take m).map encB = (b.map encB).take m from List.map_take .., show (b.drop m).map encB = (b.map encB).drop m from List.map_drop ..] at hA hF hA2
        generalize List.drop (min m (blksB L).length) (List.take (blksB L).length b) = Y at hRo
        generalize List.take (min m (blksB L).length) b = X at hRo
        have hW := rwritten 2000 (min m (blksB L).length) ((blksB L).length - min m (blksB L).length) X.isEmpty Y.isEmpty false (X.map encB) (Y.map encB) L f1 (by omega)
        have hRs := rlsure 2000 (min m (blksB L).length) ((blksB L).length - min m (blksB L).length) X.isEmpty Y.isEmpty false (X.map encB) (Y.map encB) L f1 (by omega)
        generalize X.isEmpty = xe at *
        generalize Y.isEmpty = ye at *
        generalize X.map encB = Xr at *
        generalize Y.map encB = Yr at *
        obtain ⟨q1, q2, q3, q4⟩ := hg hL
        have Sm := same_spec (joined [] (allR L)) (joined [] (allR L)) (by omega) false false false false
        rw [decide_eq_true rfl] at Sm
        have hLe : L.isEmpty = false := by simpa using hL
        have hJe : (joined [] (allR L)).isEmpty = false := by simpa using q3
        have hLl : L.length ≤ 1000000 := by omega
        rw [hLe, hJe] at hRr
        rw [hLe] at hRo
        simp [fF, fB, fileB, nilS, htl] at hA hF hA2
        simp [bkV, bkH, hL, hLe, nilS] at hS hR
        simp only [lS, hL, if_false, Bool.true_eq_false] at hRu hBk hT hSu
        simp only [rL] at hW hRs
        simp only [hL, if_false] at hO
        generalize hbs : joined [] (allR L) = J at *
        generalize sureOf _ L = so at *
        simp [fB, fF, fileB, nilS] at hO hLn
        simp [nilS] at hRo
        simp [fileB, nilS] at hN
        simp [fileB, nilS, sumN] at hRu hBk hT hSu
        simp [nilS, hLe] at hW hRs
        simp [go_sem, ir12, h1, h1', h2, h3, hS, hR, purse_eq, List.range_succ]
        rw [run_inLoop']
        simp [go_sem, purse_eq, List.range_succ]
        refine scans_loop0 b false fu _ L hLl f1 _ _ ?_
        intro τ t0 t1 t7
        simp [go_sem, t0, t1, t7, hN, hA, hF, hA2, hO, hLn, hRo, hRu, hBk, hT, hSu, hRr, hW, hRs, Sm, w0, wc, awake17, fileB, nilS, rowsB, purse_eq, List.range_succ, hm0, hm1, hm, take_allB]
end Go.AM.R1
open Go Go.AM Go.AM.R1 Go.Proofs
namespace Go.Proofs.Ytppdlldajaihbaa
open Go.ChangeShapes Go.WideShapes Go.ChangeAt Go.RowKit
namespace logScans
theorem own : ownKnob Try.prog.godebug = none := by kernel_rfl
theorem laidOut : laidOutB Try.prog = true := by kernel_rfl
theorem mixed : Try.prog.follows .mixedOrders = true := by kernel_rfl
set_option maxRecDepth 100000 in
theorem contract (H : Type) (enc : TypeId × Value → H) (W : World) (base : Nat) (args : Array Value) (ds gs : List (DataW H)) (before : List MemPlace)
    (hval : ∀ (j : Nat) t v, Try.f12.params[j]? = some t → args[j]? = some v → Value.okWide Try.prog W .any base t v)
    (hW : DataW.Whole enc Try.prog Try.f12.params.toList Rows.logScansSpec.vars false W args.toList ds gs before) :
    Calls Try.prog 12 args W fun e W' => ∃ v, e = .returned v ∧ Rows.logScansSpec.post enc Try.prog Try.f12 false true false false W args v W' := by
  refine law_contract (id := 12) (f := Try.f12) (s := Rows.logScansSpec) (k := 7) (nargs := 2) (base := base) (ds := ds) (gs := gs) (before := before) mixed R1.hE laidOut ?e1 ?e2 (tb := 4) ?e3 Try.underlying4 ?e4 ?e5 ?e7 ?e8 ?e6
  case e7 => exact hval
  case e8 => exact hW
  case e1 => rfl
  case e3 => kernel_rfl
  case e4 => rw [Try.params12]; rfl
  · rw [Try.params12]; decide +kernel
  · intro ds h
    match ds, h with
    | [d1, d2], _ => rfl
  · intro cs hA
    rw [Try.params12] at hA
    obtain ⟨d1, r1, a1, s1, rfl, rfl, h1, hA⟩ := decArgs_cons hA
    obtain ⟨d2, r2, a2, s2, rfl, rfl, h2, hA⟩ := decArgs_cons hA
    obtain ⟨rfl, rfl⟩ := decArgs_nil hA
    obtain ⟨nl, fu, b, rfl, hnl, hb⟩ := decV_bytes (n := 5) Try.underlying22 Try.underlying5 h1
    obtain ⟨m, -, hw, rfl⟩ := decV_int (n := 6) Try.underlying3 h2
    obtain ⟨n, hn⟩ := (call_iff R1.E).1 (logScans_spec b hb nl fu hnl m)
    exact ⟨n, _, hn⟩

set_option maxRecDepth 100000 in
theorem lifted (os : Os) (started : os.Started) (H : Type) (enc : TypeId × Value → H) :
    ReturnsInHanded {} Try.checked os 12 .any (Rows.logScansSpec.pre6 enc Try.prog Try.f12 Rows.logScansRow.domain false) (Rows.logScansSpec.post enc Try.prog Try.f12 false true false false) := by
  refine returnsInHanded_of_change (C := Try.checked) own started (by kernel_rfl) Try.func12
    (ChangeSpec.witness6 (enc := enc) (C := Try.checked) false ⟨#[], #[.slice none 0 0, .int .i64 0], []⟩ 8 (by kernel_rfl) (by kernel_rfl) (by kernel_rfl) (by kernel_rfl)) ?_
  intro W base args ds gs before hval hW _ _
  exact contract H enc W base args ds gs before hval hW

theorem proved : Rows.LogScansSaid :=
  OpenClaim.holds_of_wide 12 Try.f12 rfl rfl rfl rfl rfl rfl rfl ⟨rfl, rfl, rfl, rfl, rfl⟩ rfl rfl rfl rfl rfl (by kernel_rfl) Try.func12 (by kernel_rfl)
    (of_decide_eq_true (by kernel_rfl)) (by unfold Func.isWrapper; first | (rw [if_pos (by decide +kernel)]; kernel_rfl) | (rw [if_neg (by decide +kernel)]; exact ⟨rfl, rfl⟩))
    (fun os started H enc _ => lifted os started H enc)
end logScans
theorem logScansProved : Rows.LogScansSaid := logScans.proved
end Go.Proofs.Ytppdlldajaihbaa
