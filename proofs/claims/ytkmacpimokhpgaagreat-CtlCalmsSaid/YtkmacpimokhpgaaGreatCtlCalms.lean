/- The law CtlCalms of package magnetolaw10 returns true for every input, and its arguments read as before. -/
import Derived.Test.YtkmacpimokhpgaaGreatCtl3
import Derived.ProofKit
set_option linter.unusedVariables false
set_option linter.unusedSimpArgs false
open Go Go.AM
namespace Go.AM.R1
/-! ### Turns -/
structure Tn where
  put : Bool
  f : Fr
  lev : Int
def encTn (t : Tn) : List AVal := [.lit (.bool t.put), .lit (.int .i64 t.f.id), .lit (.bool t.f.ext), .lit (.bool t.f.rtr), .lit (.int .i64 t.f.len), .lit (.int .u8 t.f.d0), .lit (.int .u8 t.f.d1), .lit (.int .u8 t.f.d2), .lit (.int .u8 t.f.d3), .lit (.int .u8 t.f.d4), .lit (.int .u8 t.f.d5), .lit (.int .u8 t.f.d6), .lit (.int .u8 t.f.d7), .lit (.int .i64 t.lev)]
def levelP (t : Tn) (d : Bool) : Bool := if t.lev = 0 then false else if t.lev = 1 then true else d
theorem tlevel_spec (t : Tn) (d : Bool) : call E (.func (.func 20) [] []) [.agg (encTn t), .lit (.int .i64 (lv d))] [] = some (.lit (.int .i64 (lv (levelP t d))), []) := by
  rw [call_func E E20]
  unfold levelP
  by_cases h0 : t.lev = 0
  · simp [go_sem, ir20, encTn, h0, lvF, purse_eq, List.range_succ]
  · by_cases h1 : t.lev = 1
    · simp [go_sem, ir20, encTn, h1, lvT, purse_eq, List.range_succ]
    · simp [go_sem, ir20, encTn, h0, h1, purse_eq, List.range_succ]
end Go.AM.R1
open Go Go.AM
namespace Go.AM.R1
/-! ### A node calms: how far it counts in each mode -/
structure KOk (n : Nd) : Prop where
  k0 : n.mode = 0 → n.k ≤ 10
  k3 : n.mode = 3 ∨ n.mode = 5 → n.k ≤ 5
  k4 : n.mode = 4 → n.k ≤ 5
  k7 : n.mode = 7 → 1 ≤ n.k ∧ n.k ≤ 7
  k8 : n.mode = 8 → n.k ≤ 2
  k9 : n.mode = 9 → n.k ≤ 7
  k10 : n.mode = 10 → n.k ≤ 10
theorem KOk.zero {n : Nd} (h : n.k = 0) (h7 : n.mode ≠ 7) : KOk n := ⟨fun _ => by omega, fun _ => by omega, fun _ => by omega, fun q => absurd q h7, fun _ => by omega, fun _ => by omega, fun _ => by omega⟩
theorem KOk.calm {n : Nd} (h : n.mode = 1 ∨ n.mode = 2 ∨ n.mode = 6) : KOk n := ⟨fun _ => by omega, fun _ => by omega, fun _ => by omega, fun _ => by omega, fun _ => by omega, fun _ => by omega, fun _ => by omega⟩
theorem KOk.of {m : Nd} {x y : Nat} (hx : m.mode = x) (hy : m.k = y) (h : (x = 0 → y ≤ 10) ∧ (x = 3 ∨ x = 5 → y ≤ 5) ∧ (x = 4 → y ≤ 5) ∧ (x = 7 → 1 ≤ y ∧ y ≤ 7) ∧ (x = 8 → y ≤ 2) ∧ (x = 9 → y ≤ 7) ∧ (x = 10 → y ≤ 10)) : KOk m := by
  subst hx hy
  obtain ⟨h1, h2, h3, h4, h5, h6, h7⟩ := h
  exact ⟨h1, h2, h3, h4, h5, h6, h7⟩
theorem flag_mk (m : Nd) (st : Int) : ((flagN m st).mode = 3 ∨ (flagN m st).mode = 4 ∨ (flagN m st).mode = 10) ∧ (flagN m st).k = 0 := by
  refine ⟨?_, rfl⟩
  show (if st = 0 then 3 else 4) = 3 ∨ (if st = 0 then 3 else 4) = 4 ∨ (if st = 0 then 3 else 4) = 10
  split
  · exact .inl rfl
  · exact .inr (.inl rfl)
theorem fail_mk' (n : Nd) (kd : Nat) (c : Bool) : ((failN n kd c).2.mode = 3 ∨ (failN n kd c).2.mode = 4 ∨ (failN n kd c).2.mode = 10) ∧ (failN n kd c).2.k = 0 := by
  unfold failN
  rcases ch_cases n 1 with ⟨e, -⟩ | ⟨e, -⟩
  · rw [e]
    split
    · rw [if_neg (by simp)]; exact ⟨.inr (.inr rfl), rfl⟩
    · exact flag_mk _ _
  · rw [e]
    split
    · rw [if_pos rfl]; exact flag_mk _ _
    · exact flag_mk _ _
theorem fail_kok (n : Nd) (kd : Nat) (c : Bool) : KOk (failN n kd c).2 := by
  obtain ⟨h1, h2⟩ := fail_mk' n kd c
  exact KOk.zero h2 (by omega)
theorem in_mk {n : Nd} (hm : n.mode = 2) (b : Bool) : (inN n b).2.2.mode = 2 ∨ ((inN n b).2.2.k = 0 ∧ (inN n b).2.2.mode ≠ 7) := by
  have fk : ∀ kd c, (failN n kd c).2.mode = 2 ∨ ((failN n kd c).2.k = 0 ∧ (failN n kd c).2.mode ≠ 7) := fun kd c => by
    obtain ⟨h1, h2⟩ := fail_mk' n kd c
    exact .inr ⟨h2, by omega⟩
  have tk : ∀ b, (takeN n b).2.mode = 2 := fun b => by rw [(take_same n b).2.2.2.2.1, hm]
  have t2 : (takeN { n with tx := false, sends := false } false).2.mode = 2 := by rw [(take_same _ false).2.2.2.2.1]; exact hm
  have nk : (nackN n).2.mode = 2 ∨ ((nackN n).2.k = 0 ∧ (nackN n).2.mode ≠ 7) := fk 8 _
  have sk : (sentN (takeN n true).2).mode = 2 ∨ ((sentN (takeN n true).2).k = 0 ∧ (sentN (takeN n true).2).mode ≠ 7) := .inr ⟨rfl, by show (8 : Nat) ≠ 7; omega⟩
  have ok : (overN n).2.mode = 2 ∨ ((overN n).2.k = 0 ∧ (overN n).2.mode ≠ 7) := .inr ⟨rfl, by show (5 : Nat) ≠ 7; omega⟩
  unfold inN
  repeat' split
  all_goals first | exact fk _ _ | exact nk | exact sk | exact ok | exact .inl (tk _) | exact .inl t2 | exact .inr ⟨rfl, by show (8 : Nat) ≠ 7; omega⟩
theorem kok_next {n : Nd} (h : KOk n) (hm : n.mode ≤ 10) (b : Bool) : KOk (nxN n b) := by
  have ch : ∀ m : Nd, ∀ w, (chN m w).1 = true ∧ (chN m w).2.mode = m.mode ∧ (chN m w).2.k = m.k ∨ (chN m w).1 = false ∧ (chN m w).2.mode = 10 ∧ (chN m w).2.k = 0 := by
    intro m w
    rcases ch_cases m w with ⟨e, -⟩ | ⟨e, -⟩ <;> rw [e]
    · exact .inr ⟨rfl, rfl, rfl⟩
    · exact .inl ⟨rfl, rfl, rfl⟩
  rcases step_modes n b hm with ⟨h0, e⟩ | ⟨h0, e⟩ | ⟨h0, e⟩ | ⟨h0, e⟩ | ⟨h0, e⟩ | ⟨h0, e⟩ | ⟨h0, e⟩ | ⟨h0, e⟩ | ⟨h0, e⟩ | ⟨h0, e⟩ <;> rw [e]
  · have := h.k0 h0
    unfold joinN; simp only []; repeat' split
    · exact KOk.zero rfl (by simp only [h0]; omega)
    · exact KOk.calm (.inl rfl)
    · exact KOk.of (x := n.mode) (y := n.k + 1) rfl rfl (by omega)
  · unfold idleN; repeat' split
    · exact KOk.calm (.inr (.inl rfl))
    · exact KOk.calm (.inl h0)
    · exact fail_kok _ _ _
  · rcases in_mk h0 b with q | ⟨q, q7⟩
    · exact KOk.calm (.inr (.inl q))
    · exact KOk.zero q q7
  · have hk := h.k3 h0
    unfold domN; repeat' split
    · exact KOk.calm (.inr (.inr rfl))
    · exact KOk.of (x := n.mode) (y := n.k + 1) rfl rfl (by omega)
    · exact KOk.calm (.inr (.inr rfl))
    · rename_i q1 q2
      rcases ch n 8 with ⟨g1, g2, g3⟩ | ⟨g1, g2, g3⟩
      · exact KOk.of (x := n.mode) (y := n.k + 1) g2 rfl (by omega)
      · rw [g1] at q1; cases q1
    · rename_i q1
      rcases ch n 8 with ⟨g1, g2, g3⟩ | ⟨g1, g2, g3⟩
      · exact absurd g1 q1
      · exact KOk.zero g3 (fun q => absurd (g2.symm.trans q) (by decide))
  · have hk := h.k4 h0
    have hp : pasK n b ≤ 6 := by unfold pasK; split <;> omega
    have g := ch { n with k := pasK n b, lvl := b, owed := false } 8
    simp only [] at g
    unfold pasN; repeat' split
    · exact KOk.calm (.inr (.inr rfl))
    · rcases g with ⟨g1, g2, g3⟩ | ⟨g1, g2, g3⟩
      · exact KOk.of (x := n.mode) (y := pasK n b) g2 g3 (by omega)
      · exact KOk.zero g3 (fun q => absurd (g2.symm.trans q) (by decide))
    · rename_i q1
      rcases g with ⟨g1, g2, g3⟩ | ⟨g1, g2, g3⟩
      · exact absurd g1 q1
      · exact KOk.zero g3 (fun q => absurd (g2.symm.trans q) (by decide))
    · exact KOk.calm (.inr (.inr rfl))
    · exact KOk.of (x := n.mode) (y := pasK n b) rfl rfl (by omega)
  · have g := ch { n with k := n.k + 1 } 8
    simp only [] at g
    unfold waitN; repeat' split
    · exact KOk.of (x := 7) (y := 1) rfl rfl (by omega)
    · exact KOk.calm (.inr (.inr h0))
    · rcases g with ⟨g1, g2, g3⟩ | ⟨g1, g2, g3⟩
      · exact KOk.calm (.inr (.inr (g2.trans h0)))
      · exact KOk.zero g3 (fun q => absurd (g2.symm.trans q) (by decide))
    · rename_i q1
      rcases g with ⟨g1, g2, g3⟩ | ⟨g1, g2, g3⟩
      · exact absurd g1 q1
      · exact KOk.zero g3 (fun q => absurd (g2.symm.trans q) (by decide))
    · exact KOk.calm (.inr (.inr h0))
  · have hk := h.k7 h0
    unfold closeN; repeat' split
    · exact KOk.zero rfl (by show (8 : Nat) ≠ 7; omega)
    · exact KOk.of (x := n.mode) (y := n.k + 1) rfl rfl (by omega)
    · exact KOk.zero rfl (by show (5 : Nat) ≠ 7; omega)
    · exact fail_kok _ _ _
  · have hk := h.k8 h0
    unfold pausN pauseN; repeat' split
    · exact KOk.of (x := n.mode) (y := n.k + 1) rfl rfl (by omega)
    · exact KOk.zero rfl (by show (9 : Nat) ≠ 7; omega)
    · exact KOk.zero rfl (by show (1 : Nat) ≠ 7; omega)
    · exact KOk.zero rfl (by show (5 : Nat) ≠ 7; omega)
    · exact KOk.calm (.inr (.inl rfl))
  · have hk := h.k9 h0
    unfold sspN suspN; repeat' split
    · exact KOk.zero rfl (by show (1 : Nat) ≠ 7; omega)
    · exact KOk.of (x := n.mode) (y := n.k + 1) rfl rfl (by omega)
    · exact KOk.calm (.inr (.inl rfl))
  · have hk := h.k10 h0
    have : offK n b ≤ 11 := by unfold offK; split <;> omega
    unfold offN; repeat' split
    · exact KOk.calm (.inl rfl)
    · exact KOk.zero rfl (by show n.mode ≠ 7; omega)
    · exact KOk.calm (.inl rfl)
    · exact KOk.of (x := n.mode) (y := offK n b) rfl rfl (by omega)
theorem kok_nd0 : KOk nd0 := KOk.zero rfl (by decide)
/-- What is in a node's queue, was in it. -/
theorem q_next {n : Nd} (hm : n.mode ≤ 10) (b : Bool) : ∀ g ∈ (nxN n b).q, g ∈ n.q := by
  intro g hg
  rcases step_modes n b hm with ⟨h0, e⟩ | ⟨h0, e⟩ | ⟨h0, e⟩ | ⟨h0, e⟩ | ⟨h0, e⟩ | ⟨h0, e⟩ | ⟨h0, e⟩ | ⟨h0, e⟩ | ⟨h0, e⟩ | ⟨h0, e⟩ <;> rw [e] at hg
  · rwa [(join_keep n b).q] at hg
  · unfold idleN at hg
    split at hg
    · exact hg
    · split at hg
      · exact hg
      · rwa [(fail_keep { n with tx := true } 4 true).q] at hg
  · have t := take_same n true
    unfold inN at hg
    repeat' split at hg
    all_goals first
      | (simp only [] at hg; rwa [(take_same _ _).1] at hg)
      | (simp only [] at hg; rwa [(fail_keep n _ _).q] at hg)
      | skip
    all_goals first
      | (have h1 : g ∈ (failN n 8 (!decide (n.ct.state = 1))).2.q := hg; rwa [(fail_keep n _ _).q] at h1)
      | (have h1 : g ∈ delL (takeN n true).2.own (takeN n true).2.q := hg; have h2 := mem_delL h1; rwa [t.1] at h2)
      | exact hg
  · rwa [(dom_keep n b).q] at hg
  · rwa [(pas_keep n b).q] at hg
  · rwa [(wait_keep n b).q] at hg
  · rwa [(close_keep n b).q] at hg
  · unfold pausN at hg
    split at hg
    · rwa [(pause_keep n).q] at hg
    · split at hg <;> exact hg
  · unfold sspN at hg
    split at hg
    · rwa [(susp_keep n).q] at hg
    · exact hg
  · rwa [(boff_keep n b).q] at hg
theorem q_nil {n : Nd} (hm : n.mode ≤ 10) (hq : n.q = []) (b : Bool) : (nxN n b).q = [] := by
  cases h : (nxN n b).q with
  | nil => rfl
  | cons g r =>
    have := q_next hm b g (by rw [h]; exact List.mem_cons_self ..)
    rw [hq] at this; cases this
end Go.AM.R1
open Go Go.AM
namespace Go.AM.R1
/-! ### .. and how far it is from rest -/
def inM (n : Nd) : Nat := if (nextF n.raw).1 ≤ 4 then (if n.lvl = true then 6 - n.run else 6) + 37 else (if n.run = 5 then 1 else 0) + 25 + (10 - (n.raw.length - (sumF n.raw + 15)))
def calmM (n : Nd) : Nat :=
  if n.mode = 0 then 11 - n.k
  else if n.mode = 2 then inM n
  else if n.mode = 3 ∨ n.mode = 5 then 6 - n.k + 19
  else if n.mode = 4 then (if n.lvl = true ∨ n.k = 0 then 6 - n.k else 6) + 19
  else if n.mode = 6 then 19
  else if n.mode = 7 then 8 - n.k + 11
  else if n.mode = 8 then 3 - n.k + 8
  else if n.mode = 9 then 8 - n.k
  else 0
def settled (n : Nd) : Prop := n.mode = 1 ∨ n.mode = 10
theorem calm0 {n : Nd} (h : n.mode = 0) : calmM n = 11 - n.k := by unfold calmM; rw [if_pos h]
theorem calm2 {n : Nd} (h : n.mode = 2) : calmM n = inM n := by unfold calmM; rw [if_neg (by omega), if_pos h]
theorem calm3 {n : Nd} (h : n.mode = 3 ∨ n.mode = 5) : calmM n = 6 - n.k + 19 := by unfold calmM; rw [if_neg (by omega), if_neg (by omega), if_pos h]
theorem calm4 {n : Nd} (h : n.mode = 4) : calmM n = (if n.lvl = true ∨ n.k = 0 then 6 - n.k else 6) + 19 := by unfold calmM; rw [if_neg (by omega), if_neg (by omega), if_neg (by omega), if_pos h]
theorem calm6 {n : Nd} (h : n.mode = 6) : calmM n = 19 := by unfold calmM; rw [if_neg (by omega), if_neg (by omega), if_neg (by omega), if_neg (by omega), if_pos h]
theorem calm7 {n : Nd} (h : n.mode = 7) : calmM n = 8 - n.k + 11 := by unfold calmM; rw [if_neg (by omega), if_neg (by omega), if_neg (by omega), if_neg (by omega), if_neg (by omega), if_pos h]
theorem calm8 {n : Nd} (h : n.mode = 8) : calmM n = 3 - n.k + 8 := by unfold calmM; rw [if_neg (by omega), if_neg (by omega), if_neg (by omega), if_neg (by omega), if_neg (by omega), if_neg (by omega), if_pos h]
theorem calm9 {n : Nd} (h : n.mode = 9) : calmM n = 8 - n.k := by unfold calmM; rw [if_neg (by omega), if_neg (by omega), if_neg (by omega), if_neg (by omega), if_neg (by omega), if_neg (by omega), if_neg (by omega), if_pos h]
theorem calmS {n : Nd} (h : settled n) : calmM n = 0 := by
  unfold settled at h
  unfold calmM; rw [if_neg (by omega), if_neg (by omega), if_neg (by omega), if_neg (by omega), if_neg (by omega), if_neg (by omega), if_neg (by omega), if_neg (by omega)]
theorem calm_fail (n : Nd) (kd : Nat) (c : Bool) : calmM (failN n kd c).2 ≤ 25 := by
  obtain ⟨h1, h2⟩ := fail_mk' n kd c
  rcases h1 with h | h | h
  · rw [calm3 (.inl h), h2]; omega
  · rw [calm4 h, h2, if_pos (.inr rfl)]; omega
  · rw [calmS (.inr h)]; omega
theorem kind_big {m : List Bool} (h : 4 < (nextF m).1) : dataF m ≤ m.length ∧ sumF m + 15 ≤ m.length := by
  unfold nextF at h
  repeat' split at h
  all_goals first | (simp at h; done) | (constructor <;> omega)
theorem kind_big' {m : List Bool} (h1 : dataF m ≤ m.length) (h2 : sumF m + 15 ≤ m.length) : 4 < (nextF m).1 := by
  have := nextF_gt' h1 h2
  omega
theorem calm_take {n : Nd} (hm : n.mode = 2) (hI : InF n) (h5 : n.run = 5 → n.lvl = false) (hk : (nextF n.raw).1 ≤ 4 ∨ ∃ _ : 4 < (nextF n.raw).1, n.raw.length ≤ sumF n.raw + 24) : calmM (takeN n true).2 < calmM n := by
  have hm2 : (takeN n true).2.mode = 2 := by rw [(take_same n true).2.2.2.2.1, hm]
  have hr := hI.run
  rw [calm2 hm, calm2 hm2]
  unfold takeN
  by_cases r5 : n.run = 5
  · have hl := h5 r5
    rw [if_pos r5, if_neg (by rw [hl]; simp)]
    unfold inM
    show (if (nextF n.raw).1 ≤ 4 then (if true = true then 6 - 1 else 6) + 37 else (if 1 = 5 then 1 else 0) + 25 + (10 - (n.raw.length - (sumF n.raw + 15)))) < _
    rw [hl, if_pos rfl, if_neg (show ¬ false = true by simp), if_neg (show ¬ 1 = 5 by omega), if_pos r5]
    split <;> omega
  · rw [if_neg r5]
    by_cases k4 : 4 < (nextF n.raw).1
    · rw [if_pos k4]
      obtain ⟨b1, b2⟩ := kind_big k4
      have hlen : n.raw.length ≤ sumF n.raw + 24 := by
        rcases hk with q | ⟨-, q⟩
        · omega
        · exact q
      have hs := sumF_ge n.raw
      have e1 : sumF (n.raw ++ [true]) = sumF n.raw := sumF_append b1 [true]
      have e2 : dataF (n.raw ++ [true]) = dataF n.raw := by unfold dataF; rw [extF_append (by omega)]
      have e3 : (n.raw ++ [true]).length = n.raw.length + 1 := by simp
      have k4' : 4 < (nextF (n.raw ++ [true])).1 := kind_big' (by rw [e2, e3]; omega) (by rw [e1, e3]; omega)
      unfold inM
      show (if (nextF (n.raw ++ [true])).1 ≤ 4 then _ else (if 0 = 5 then 1 else 0) + 25 + (10 - ((n.raw ++ [true]).length - (sumF (n.raw ++ [true]) + 15)))) < _
      rw [if_neg (by omega), if_neg (by omega), e1, e3, if_neg (by omega), if_neg r5]
      omega
    · rw [if_neg k4]
      have hk4 : (nextF n.raw).1 ≤ 4 := by omega
      have k5 := kind_next hk4 true
      have big : ∀ (l : Bool) (r : Nat), r ≤ 5 → 1 ≤ r → inM { n with lvl := l, run := r, raw := n.raw ++ [true] } ≤ if l = true ∧ (nextF (n.raw ++ [true])).1 ≤ 4 then 6 - r + 37 else 43 := by
        intro l r h5 h1
        unfold inM
        show (if (nextF (n.raw ++ [true])).1 ≤ 4 then (if l = true then 6 - r else 6) + 37 else (if r = 5 then 1 else 0) + 25 + (10 - _)) ≤ _
        split
        · rename_i q
          cases l
          · simp
          · simp [q]
        · rename_i q
          have e43 : (if l = true ∧ (nextF (n.raw ++ [true])).1 ≤ 4 then 6 - r + 37 else 43) = 43 := if_neg (fun g => q g.2)
          rw [e43]
          split <;> omega
      have small : ∀ (l : Bool) (r : Nat), ¬ (nextF (n.raw ++ [true])).1 ≤ 4 → inM { n with lvl := l, run := r, raw := n.raw ++ [true] } ≤ 36 := by
        intro l r q
        unfold inM
        show (if (nextF (n.raw ++ [true])).1 ≤ 4 then _ else (if r = 5 then 1 else 0) + 25 + (10 - _)) ≤ _
        rw [if_neg q]
        split <;> omega
      have hM : inM n = (if n.lvl = true then 6 - n.run else 6) + 37 := by unfold inM; rw [if_pos hk4]
      have hM38 : 38 ≤ inM n := by rw [hM]; split <;> omega
      by_cases q4 : (nextF (n.raw ++ [true])).1 ≤ 4
      · by_cases q : 0 < n.run ∧ true = n.lvl
        · rw [if_pos q]
          have e : ({ n with run := n.run + 1, raw := n.raw ++ [true] } : Nd) = { n with lvl := true, run := n.run + 1, raw := n.raw ++ [true] } := by rw [q.2]
          show inM { n with run := n.run + 1, raw := n.raw ++ [true] } < _
          rw [e]
          have := big true (n.run + 1) (by omega) (by omega)
          rw [if_pos ⟨rfl, q4⟩] at this
          rw [hM, if_pos q.2.symm]; omega
        · rw [if_neg q]
          show inM { n with lvl := true, run := 1, raw := n.raw ++ [true] } < _
          have := big true 1 (by omega) (by omega)
          rw [if_pos ⟨rfl, q4⟩] at this
          rw [hM]
          split
          · rename_i g
            have : n.run = 0 := by
              rcases Nat.eq_zero_or_pos n.run with z | z
              · exact z
              · exact absurd ⟨z, g.symm⟩ q
            omega
          · omega
      · by_cases q : 0 < n.run ∧ true = n.lvl
        · rw [if_pos q]
          have e : ({ n with run := n.run + 1, raw := n.raw ++ [true] } : Nd) = { n with lvl := true, run := n.run + 1, raw := n.raw ++ [true] } := by rw [q.2]
          show inM { n with run := n.run + 1, raw := n.raw ++ [true] } < _
          rw [e]
          have := small true (n.run + 1) q4
          omega
        · rw [if_neg q]
          show inM { n with lvl := true, run := 1, raw := n.raw ++ [true] } < _
          have := small true 1 q4
          omega
theorem calm_congr {n m : Nd} (h1 : m.mode = n.mode) (h2 : m.k = n.k) (h3 : m.raw = n.raw) (h4 : m.lvl = n.lvl) (h5 : m.run = n.run) : calmM m = calmM n := by
  unfold calmM inM
  rw [h1, h2, h3, h4, h5]
theorem calm_in {n : Nd} (hI : n.Inv) (hm : n.mode = 2) (hq : n.q = []) : calmM (inN n true).2.2 < calmM n := by
  have hf := hI.inf hm
  have hse : n.sends = false := by
    cases h : n.sends
    · rfl
    · have := (hf.se h).mem; rw [hq] at this; cases this
  have h26 : 26 ≤ calmM n := by
    have hr := hf.run
    rw [calm2 hm]; unfold inM
    split
    · split <;> omega
    · rename_i q
      obtain ⟨b1, b2⟩ := kind_big (m := n.raw) (by omega)
      have : n.raw.length ≤ sumF n.raw + 24 := hf.ri b1
      split <;> omega
  have hfail : ∀ kd c, calmM (failN n kd c).2 < calmM n := fun kd c => by have := calm_fail n kd c; omega
  have hkk : (nextF n.raw).1 ≤ 4 ∨ ∃ _ : 4 < (nextF n.raw).1, n.raw.length ≤ sumF n.raw + 24 := by
    by_cases q : (nextF n.raw).1 ≤ 4
    · exact .inl q
    · obtain ⟨b1, b2⟩ := kind_big (m := n.raw) (by omega)
      exact .inr ⟨by omega, hf.ri b1⟩
  have tk : (n.run = 5 → n.lvl = false) → calmM (takeN n true).2 < calmM n := fun h5 => calm_take hm hf h5 hkk
  unfold inN
  rw [if_neg (by rw [hse]; simp)]
  split
  · rw [if_pos rfl]; exact hfail _ _
  · split
    · rename_i r5
      split
      · exact hfail _ _
      · rename_i q
        refine tk (fun _ => ?_)
        cases h : n.lvl
        · rfl
        · exact absurd h.symm q
    · rename_i r5
      have tk' := tk (fun q => absurd q r5)
      split
      · exact tk'
      · rw [if_neg (by simp)]
        split
        · exact hfail _ _
        · split
          · have e : calmM { (takeN n true).2 with ct := n.ct.recv } = calmM (takeN n true).2 := calm_congr rfl rfl rfl rfl rfl
            show calmM { (takeN n true).2 with ct := n.ct.recv } < _
            rw [e]; exact tk'
          · split
            · show calmM { (takeN n true).2 with mode := 8, k := 0 } < _
              rw [calm8 rfl]
              show 3 - 0 + 8 < _
              omega
            · exact tk'
/-- A level 1 brings a node nearer to rest. -/
theorem calm_next {n : Nd} (hI : n.Inv) (hK : KOk n) (hq : n.q = []) (hs : ¬ settled n) : calmM (nxN n true) < calmM n := by
  unfold settled at hs
  have ch : ∀ m : Nd, ∀ w, (chN m w).1 = true ∧ (chN m w).2.mode = m.mode ∧ (chN m w).2.k = m.k ∨ (chN m w).1 = false ∧ (chN m w).2.mode = 10 ∧ (chN m w).2.k = 0 := by
    intro m w
    rcases ch_cases m w with ⟨e, -⟩ | ⟨e, -⟩ <;> rw [e]
    · exact .inr ⟨rfl, rfl, rfl⟩
    · exact .inl ⟨rfl, rfl, rfl⟩
  rcases step_modes n true hI.mode with ⟨h0, e⟩ | ⟨h0, e⟩ | ⟨h0, e⟩ | ⟨h0, e⟩ | ⟨h0, e⟩ | ⟨h0, e⟩ | ⟨h0, e⟩ | ⟨h0, e⟩ | ⟨h0, e⟩ | ⟨h0, e⟩ <;> rw [e]
  · have hk := hK.k0 h0
    rw [calm0 h0]
    unfold joinN
    rw [if_neg (by simp)]
    by_cases q : n.k + 1 = 11
    · rw [if_pos q]; rw [calmS (.inl rfl)]; omega
    · rw [if_neg q]; rw [calm0 (n := { n with k := n.k + 1 }) h0]; show 11 - (n.k + 1) < _; omega
  · exact absurd (.inl h0) hs
  · exact calm_in hI h0 hq
  · have hk := hK.k3 h0
    rw [calm3 h0]
    unfold domN
    rw [if_neg (by simp)]
    rcases ch n 8 with ⟨g1, g2, g3⟩ | ⟨g1, g2, g3⟩
    · rw [if_pos g1]
      by_cases q : n.k + 1 = 6
      · show calmM (if n.k + 1 = 6 then _ else _) < _
        rw [if_pos q]; rw [calm6 rfl]; omega
      · show calmM (if n.k + 1 = 6 then _ else _) < _
        rw [if_neg q]
        rw [calm3 (n := { (chN n 8).2 with k := n.k + 1 }) (by show (chN n 8).2.mode = 3 ∨ (chN n 8).2.mode = 5; rw [g2]; exact h0)]
        show 6 - (n.k + 1) + 19 < _; omega
    · rw [if_neg (by rw [g1]; simp)]
      rw [calmS (n := ([4, 10], (chN n 8).2).2) (.inr g2)]; omega
  · have hk := hK.k4 h0
    rw [calm4 h0]
    unfold pasN
    rw [if_neg (by simp)]
    have hp : pasK n true = if n.lvl = true ∨ n.k = 0 then n.k + 1 else 1 := by
      unfold pasK
      by_cases q : n.lvl = true ∨ n.k = 0
      · rw [if_pos q, if_neg]
        rintro ⟨q1, q2⟩
        rcases q with g | g
        · exact q2 g.symm
        · omega
      · rw [if_neg q, if_pos]
        refine ⟨by rcases Nat.eq_zero_or_pos n.k with z | z; exact absurd (.inr z) q; exact z, fun g => q (.inl g.symm)⟩
    by_cases q6 : pasK n true = 6
    · show calmM (if pasK n true = 6 then _ else _) < _
      rw [if_pos q6]; rw [calm6 rfl]; split <;> omega
    · show calmM (if pasK n true = 6 then _ else _) < _
      rw [if_neg q6]
      rw [calm4 (n := { n with k := pasK n true, lvl := true }) h0]
      show (if true = true ∨ pasK n true = 0 then 6 - pasK n true else 6) + 19 < _
      rw [if_pos (.inl rfl), hp]
      split <;> omega
  · rw [calm6 h0]
    unfold waitN
    rw [if_pos rfl]
    rw [calm7 (n := ([], { n with mode := 7, k := 1 }).2) rfl]
    show 8 - 1 + 11 < 19; omega
  · have hk := hK.k7 h0
    rw [calm7 h0]
    unfold closeN
    rw [if_pos rfl]
    by_cases q : n.k + 1 = 8
    · show calmM (if n.k + 1 = 8 then _ else _) < _
      rw [if_pos q]; rw [calm8 rfl]; show 3 - 0 + 8 < _; omega
    · show calmM (if n.k + 1 = 8 then _ else _) < _
      rw [if_neg q]; rw [calm7 (n := { n with k := n.k + 1 }) h0]; show 8 - (n.k + 1) + 11 < _; omega
  · have hk := hK.k8 h0
    rw [calm8 h0]
    unfold pausN pauseN
    rw [if_pos rfl]
    by_cases q : n.k + 1 < 3
    · show calmM (if n.k + 1 < 3 then _ else _) < _
      rw [if_pos q]; rw [calm8 (n := { n with k := n.k + 1 }) h0]; show 3 - (n.k + 1) + 8 < _; omega
    · show calmM (if n.k + 1 < 3 then _ else _) < _
      rw [if_neg q]
      split
      · rw [calm9 rfl]; show 8 - 0 < _; omega
      · rw [calmS (.inl rfl)]; omega
  · have hk := hK.k9 h0
    rw [calm9 h0]
    unfold sspN suspN
    rw [if_pos rfl]
    by_cases q : n.k + 1 = 8
    · show calmM (if n.k + 1 = 8 then _ else _) < _
      rw [if_pos q]; rw [calmS (.inl rfl)]; omega
    · show calmM (if n.k + 1 = 8 then _ else _) < _
      rw [if_neg q]; rw [calm9 (n := { n with k := n.k + 1 }) h0]; show 8 - (n.k + 1) < _; omega
  · exact absurd (.inr h0) hs
theorem calm_bound {n : Nd} (hI : n.Inv) : calmM n ≤ 43 := by
  have hr : n.mode = 2 → inM n ≤ 43 := by
    intro _; unfold inM
    split
    · split <;> omega
    · split <;> omega
  unfold calmM
  repeat' split
  all_goals first | omega | (rename_i q; exact hr q) | skip
/-- How far a node that is off is from coming back. -/
def backM (n : Nd) : Nat := if n.mode = 10 then (127 - n.rows) * 11 + (11 - n.k) else 0
theorem settled_next {n : Nd} (hI : n.Inv) (hK : KOk n) (hq : n.q = []) (hs : settled n) : settled (nxN n true) ∧ (backM (nxN n true) < backM n ∨ (nxN n true).mode = 1) := by
  rcases hs with h | h
  · have e : nxN n true = n := by
      unfold nxN stepN
      rw [h]
      show (noFr (idleN n true)).2.2 = n
      unfold idleN noFr
      rw [if_neg (by simp), if_pos hq]
    rw [e]; exact ⟨.inl h, .inr h⟩
  · have hk := hK.k10 h
    have hr := hI.r10 h
    have e : nxN n true = (offN n true).2 := by
      unfold nxN stepN
      rw [h]; rfl
    rw [e]
    have hb : backM n = (127 - n.rows) * 11 + (11 - n.k) := by unfold backM; rw [if_pos h]
    rw [hb]
    unfold offN
    have ho : offK n true = n.k + 1 := rfl
    rw [ho]
    by_cases q : n.k + 1 = 11
    · rw [if_pos q]
      by_cases q2 : n.rows + 1 = 128
      · rw [if_pos q2]; exact ⟨.inl rfl, .inr rfl⟩
      · rw [if_neg q2]
        refine ⟨.inr h, .inl ?_⟩
        show backM { n with k := 0, rows := n.rows + 1 } < _
        unfold backM
        rw [if_pos (show ({ n with k := 0, rows := n.rows + 1 } : Nd).mode = 10 from h)]
        show (127 - (n.rows + 1)) * 11 + (11 - 0) < _
        omega
    · rw [if_neg q, if_neg (by omega)]
      refine ⟨.inr h, .inl ?_⟩
      show backM { n with k := n.k + 1 } < _
      unfold backM
      rw [if_pos (show ({ n with k := n.k + 1 } : Nd).mode = 10 from h)]
      show (127 - n.rows) * 11 + (11 - (n.k + 1)) < _
      omega
theorem back_bound (n : Nd) : backM n ≤ 1408 := by unfold backM; split <;> omega
/-- A node without frames, and what is kept of it. -/
structure Bare (n : Nd) : Prop where
  inv : n.Inv
  kok : KOk n
  q : n.q = []
theorem bare_next {n : Nd} (h : Bare n) (b : Bool) : Bare (nxN n b) := ⟨inv_next h.inv b, kok_next h.kok h.inv.mode b, q_nil h.inv.mode h.q b⟩
theorem bare_nd0 : Bare nd0 := ⟨nd0_inv, kok_nd0, rfl⟩
theorem bare_it {n : Nd} (h : Bare n) : ∀ i, Bare (itN n i)
  | 0 => h
  | i + 1 => bare_next (bare_it h i) true
theorem calms {n : Nd} (h : Bare n) : ∀ i, settled (itN n i) ∨ calmM (itN n i) + i ≤ calmM n
  | 0 => .inr (Nat.le_refl _)
  | i + 1 => by
    have hb := bare_it h i
    by_cases hs : settled (itN n i)
    · exact .inl (settled_next hb.inv hb.kok hb.q hs).1
    · rcases calms h i with q | q
      · exact absurd q hs
      · have := calm_next hb.inv hb.kok hb.q hs
        exact .inr (by show calmM (nxN (itN n i) true) + (i + 1) ≤ _; omega)
theorem settles {n : Nd} (h : Bare n) : settled (itN n 60) := by
  rcases calms h 60 with q | q
  · exact q
  · have := calm_bound h.inv; omega
theorem comes {n : Nd} (h : Bare n) (hs : settled n) : ∀ i, settled (itN n i) ∧ ((itN n i).mode = 1 ∨ backM (itN n i) + i ≤ backM n)
  | 0 => ⟨hs, .inr (Nat.le_refl _)⟩
  | i + 1 => by
    have hb := bare_it h i
    obtain ⟨h1, h2⟩ := comes h hs i
    obtain ⟨g1, g2⟩ := settled_next hb.inv hb.kok hb.q h1
    refine ⟨g1, ?_⟩
    rcases g2 with g | g
    · rcases h2 with q | q
      · have : backM (itN n i) = 0 := by unfold backM; rw [if_neg (by omega)]
        omega
      · exact .inr (by show backM (nxN (itN n i) true) + (i + 1) ≤ _; omega)
    · exact .inl g
theorem comes_back {n : Nd} (h : Bare n) (hs : settled n) : (itN n 1408).mode = 1 := by
  have hb := bare_it h 1408
  obtain ⟨h1, h2⟩ := comes h hs 1408
  rcases h2 with q | q
  · exact q
  · have hbk := back_bound n
    rcases h1 with g | g
    · exact g
    · have hk := hb.kok.k10 g
      have : backM (itN n 1408) = (127 - (itN n 1408).rows) * 11 + (11 - (itN n 1408).k) := by unfold backM; rw [if_pos g]
      omega
theorem dr_calm {n : Nd} (hq : n.q = []) (hd : drN n = false) : n.mode = 3 ∨ n.mode = 5 ∨ n.mode = 2 := by
  unfold drN at hd
  split at hd
  · rw [hq] at hd; simp at hd
  · split at hd
    · omega
    · split at hd
      · omega
      · cases hd
end Go.AM.R1
open Go Go.AM
namespace Go.AM.R1
set_option maxHeartbeats 4000000 in
theorem cm_loop0 (ts : List Tn) (h3 : ts.length ≤ 300) (n1 f1 : Bool) (k : List Item) (Q : Option (AVal × Heap))
    (hk : ∀ H fs n τ, lk 3 τ = .ptr 0 0 → NodeAt H 0 n fs → Bare n → n.k ≤ 300 → finK 0 [.tmp 2] (run E 0 k τ H) = Q) :
    ∀ (d i : Nat), i + d = ts.length → ∀ H fs n, NodeAt H 0 n fs → Bare n → n.k ≤ i →
    finK 0 [.tmp 2] (run E 0 (.code L4_0 :: .inLoop [0, 3, 4] L4_0 :: .inBlock 0 :: k) [(0, .imm n1 f1 true (ts.map encTn)), (3, .ptr 0 0), (4, .lit (.int .i64 i))] H) = Q := by
  intro d
  induction d with
  | zero =>
    intro i hi H fs n h hB hkk
    have hlt : ((i : Int) < (ts.length : Int)) = False := eq_false (by omega)
    simp [go_sem, run_codeL E L4_0.eq_1, hlt]
    exact hk H fs n _ (by simp [lk]) h hB (by omega)
  | succ d ih =>
    intro i hi H fs n h hB hkk
    have hlt : ((i : Int) < (ts.length : Int)) = True := eq_true (by omega)
    have hltn : i < ts.length := by omega
    have w := wrapIdx (i := i) (by omega)
    have hfi : ts[i]? = some ts[i] := List.getElem?_eq_getElem hltn
    generalize ts[i] = t at hfi
    obtain ⟨H1, hd, h1, a1⟩ := drive_at h hB.inv
    have hL := tlevel_spec t (drN n)
    obtain ⟨H2, fs2, ix, hs, h2, a2, -⟩ := step_at h1 hB.inv (by omega) (levelP t (drN n))
    have ih2 := ih (i + 1) (by omega) (sweep fs2 0 H2) fs2 _ (nodeAt_sw1 h2) (bare_next hB _) (by have := k_next n (levelP t (drN n)) hB.inv.mode; omega)
    have hre := reach_p1 h2
    simp at w ih2
    simp only [encTn] at hL
    simp [go_sem, run_codeL E L4_0.eq_1, hlt, hfi, encTn, hd, hs, hL, w, histK, calm]
    rw [run_inLoop']
    simp [go_sem, hre]
    exact ih2
set_option maxHeartbeats 4000000 in
theorem cm_loop1 (n : Nd) (hB : Bare n) (hn : n.k ≤ 300) (k : List Item) (Q : Option (AVal × Heap))
    (hk : ∀ H fs τ, lk 3 τ = .ptr 0 0 → NodeAt H 0 (itN n 60) fs → finK 0 [.tmp 2] (run E 0 k τ H) = Q) :
    ∀ (d i : Nat), i + d = 60 → ∀ H fs, NodeAt H 0 (itN n i) fs →
    finK 0 [.tmp 2] (run E 0 (.code L4_1 :: .inLoop [3, 5] L4_1 :: .inBlock 2 :: k) [(3, .ptr 0 0), (5, .lit (.int .i64 i))] H) = Q := by
  intro d
  induction d with
  | zero =>
    intro i hi H fs h
    have : i = 60 := by omega
    subst this
    simp [go_sem, run_codeL E L4_1.eq_1]
    exact hk H fs _ (by simp [lk]) h
  | succ d ih =>
    intro i hi H fs h
    have hlt : ((i : Int) < 60) = True := eq_true (by omega)
    have w := wrapIdx (i := i) (by omega)
    have hBi := bare_it hB i
    obtain ⟨H0, hl, h0, a0⟩ := look_at h hBi.inv.ok
    obtain ⟨H1, hd, h1, a1⟩ := drive_at h0 hBi.inv
    obtain ⟨H2, fs2, ix, hs, h2, a2, -⟩ := step_at h1 hBi.inv (by have := it_k hB.inv i; omega) true
    have ih2 := ih (i + 1) (by omega) (sweep fs2 0 H2) fs2 (nodeAt_sw1 h2)
    have hre := reach_p1 h2
    have hdc := dr_calm (n := itN n i) hBi.q
    generalize itN n i = m at *
    simp only [lookC] at hl
    simp [lvT] at w ih2 hs
    cases hdr : drN m
    · have hmo := hdc hdr
      rw [hdr] at hd
      simp [lvF] at hd
      rcases hmo with q | q | q
      · simp [q] at hl
        simp [go_sem, run_codeL E L4_1.eq_1, hlt, hl, hd, hs, w]
        rw [run_inLoop']
        simp [go_sem, hre]
        exact ih2
      · simp [q] at hl
        simp [go_sem, run_codeL E L4_1.eq_1, hlt, hl, hd, hs, w]
        rw [run_inLoop']
        simp [go_sem, hre]
        exact ih2
      · simp [q] at hl
        simp [go_sem, run_codeL E L4_1.eq_1, hlt, hl, hd, hs, w]
        rw [run_inLoop']
        simp [go_sem, hre]
        exact ih2
    · rw [hdr] at hd
      simp [lvT] at hd
      simp [go_sem, run_codeL E L4_1.eq_1, hlt, hl, hd, hs, w]
      rw [run_inLoop']
      simp [go_sem, hre]
      exact ih2
set_option maxHeartbeats 4000000 in
theorem cm_loop2 (n : Nd) (hB : Bare n) (hn : n.k ≤ 400) (k : List Item) (Q : Option (AVal × Heap))
    (hk : ∀ H fs τ, lk 3 τ = .ptr 0 0 → NodeAt H 0 (itN n 1408) fs → finK 0 [.tmp 2] (run E 0 k τ H) = Q) :
    ∀ (d i : Nat), i + d = 1408 → ∀ H fs, NodeAt H 0 (itN n i) fs →
    finK 0 [.tmp 2] (run E 0 (.code L4_2 :: .inLoop [3, 8] L4_2 :: .inBlock 4 :: k) [(3, .ptr 0 0), (8, .lit (.int .i64 i))] H) = Q := by
  intro d
  induction d with
  | zero =>
    intro i hi H fs h
    have hlt : ((i : Int) < 1408) = False := eq_false (by omega)
    have hi : i = 1408 := by omega
    rw [hi] at h
    simp [go_sem, run_codeL E L4_2.eq_1, hlt]
    exact hk H fs _ (by simp [lk]) h
  | succ d ih =>
    intro i hi H fs h
    have hlt : ((i : Int) < 1408) = True := eq_true (by omega)
    have w := wrapIdx (i := i) (by omega)
    have hBi := bare_it hB i
    obtain ⟨H2, fs2, ix, hs, h2, a2, -⟩ := step_at h hBi.inv (by have := it_k hB.inv i; omega) true
    have ih2 := ih (i + 1) (by omega) (sweep fs2 0 H2) fs2 (nodeAt_sw1 h2)
    have hre := reach_p1 h2
    simp [lvT] at w ih2 hs
    simp [go_sem, run_codeL E L4_2.eq_1, hlt, hs, w]
    rw [run_inLoop']
    simp [go_sem, hre]
    exact ih2
set_option maxHeartbeats 4000000 in
theorem ctlCalms_spec (ts : List Tn) (n1 f1 : Bool) :
    call E (.func (.func 4) [] []) [.imm n1 f1 true (ts.map encTn)] [] = some (.lit (.bool true), []) := by
  have ha := awake10
  have hn := nnew_spec
  have h0 := nodeAt_can nd0 ⟨false, false, false, false, false⟩ []
  rw [List.append_nil] at h0
  have hre := reach_p1 h0
  rw [call_func E E4]
  by_cases h3 : (300 : Int) < (ts.length : Int)
  · simp [go_sem, ir4, h3, ha]
  · have hl0 := fun k hk => cm_loop0 ts (by omega) n1 f1 k (some (.lit (.bool true), [])) hk ts.length 0 (by omega) _ _ nd0 (nodeAt_sw1 h0) bare_nd0 (by decide)
    simp [nilS] at hl0
    simp [go_sem, ir4, h3, hn, back_new, nilS]
    rw [run_inLoop']
    simp [go_sem, hre]
    refine hl0 _ ?_
    intro H fs n τ t3 h hB hk
    have hl1 := fun k hk' => cm_loop1 n hB hk k (some (.lit (.bool true), [])) hk' 60 0 (by omega) _ fs (nodeAt_sw1 h)
    have hre1 := reach_p1 h
    simp at hl1
    simp [go_sem, t3]
    rw [run_inLoop']
    simp [go_sem, t3, hre1]
    refine hl1 _ ?_
    intro H fs τ t3 h
    have hB1 := bare_it hB 60
    have hset := settles hB
    have hk1 := it_k hB.inv 60
    obtain ⟨H1, hlk, h1, -⟩ := look_at h hB1.inv.ok
    generalize itN n 60 = m at *
    have hl2 := fun k hk' => cm_loop2 m hB1 (by omega) k (some (.lit (.bool true), [])) hk' 1408 0 (by omega) _ fs (nodeAt_sw1 h1)
    have hre2 := reach_p1 h1
    have hcb := comes_back hB1 hset
    have hBe := bare_it hB1 1408
    simp only [lookC] at hlk
    simp at hl2
    have fin : ∀ H fs τ, lk 3 τ = .ptr 0 0 → NodeAt H 0 (itN m 1408) fs → ∃ H1 H2, callK1 (call E) H (some (.func (.func 18) [] [], [])) (some ([.ptr 0 0], [])) = some (.agg (lookC (itN m 1408)), H1) ∧ callK1 (call E) H1 (some (.func (.func 16) [] [], [])) (some ([.ptr 0 0], [])) = some (.lit (.int .i64 (lv (drN (itN m 1408)))), H2) := by
      intro H fs τ t3 h
      obtain ⟨H1, e1, h1, -⟩ := look_at h hBe.inv.ok
      obtain ⟨H2, e2, h2, -⟩ := drive_at h1 hBe.inv
      exact ⟨H1, H2, e1, e2⟩
    have hdr : drN (itN m 1408) = true := by unfold drN; rw [if_pos hcb, hBe.q]; rfl
    rcases hset with q | q
    · simp [q] at hlk
      simp [go_sem, t3, hlk]
      rw [run_inLoop']
      simp [go_sem, t3, hre2]
      refine hl2 _ ?_
      intro H fs τ t3 h
      obtain ⟨H1, H2, e1, e2⟩ := fin H fs τ t3 h
      simp only [lookC] at e1
      rw [hdr] at e2
      simp [hcb, lvT] at e1 e2
      simp [go_sem, t3, e1, e2, ha]
    · simp [q] at hlk
      simp [go_sem, t3, hlk]
      rw [run_inLoop']
      simp [go_sem, t3, hre2]
      refine hl2 _ ?_
      intro H fs τ t3 h
      obtain ⟨H1, H2, e1, e2⟩ := fin H fs τ t3 h
      simp only [lookC] at e1
      rw [hdr] at e2
      simp [hcb, lvT] at e1 e2
      simp [go_sem, t3, e1, e2, ha]
end Go.AM.R1
open Go Go.AM Go.Proofs
namespace Go.AM.R1
section
variable {H : Type} {P : Program}
/-- A turn of a node. -/
theorem dec_turn {n : Nat} {t e : TypeId} {g1 g2 g3 f1 f2 f3 f4 f5 : Field} (hs : P.underlying t = some (.struct #[g1, g2, g3])) (h1 : P.underlying g1.type = some .bool) (i : IsFr P g2.type f1 f2 f3 f4 f5 e) (h3 : P.underlying g3.type = some (.int .i64)) {d : DataW H} {cs : List AVal} (h : Dec P (n + 4) t d cs) : ∃ r : Tn, cs = encTn r ∧ r.f.Ok := by
  rw [Dec, hs] at h
  obtain ⟨parts, ass, -, rfl, hf⟩ := h
  obtain ⟨p1, ps1, a1, as1, rfl, rfl, r1, hf⟩ := fieldsR_cons hf
  obtain ⟨p2, ps2, a2, as2, rfl, rfl, r2, hf⟩ := fieldsR_cons hf
  obtain ⟨p3, ps3, a3, as3, rfl, rfl, r3, hf⟩ := fieldsR_cons hf
  obtain ⟨rfl, rfl⟩ := fieldsR_nil hf
  simp only [Dec, h1] at r1
  simp only [Dec, h3] at r3
  obtain ⟨b1, -, rfl⟩ := r1
  obtain ⟨f, rfl, hfo⟩ := dec_frame i r2
  obtain ⟨v3, -, w3, rfl⟩ := r3
  exact ⟨⟨b1, f, v3⟩, by simp [encTn, encFr, u8v], hfo⟩
theorem decV_turns {n : Nat} {s t e : TypeId} {g1 g2 g3 f1 f2 f3 f4 f5 : Field} (hu : P.underlying s = some (.slice t)) (hs : P.underlying t = some (.struct #[g1, g2, g3])) (h1 : P.underlying g1.type = some .bool) (i : IsFr P g2.type f1 f2 f3 f4 f5 e) (h3 : P.underlying g3.type = some (.int .i64)) {d : DataW H} {a : AVal} (h : DecV P (n + 5) s d a) :
    ∃ (nl fu : Bool) (l : List Tn), a = .imm nl fu true (l.map encTn) ∧ (∀ t ∈ l, t.f.Ok) ∧ l.length ≤ 9223372036854775807 := by
  unfold DecV at h
  rw [if_neg (by simp [isAggT, hu])] at h
  rw [Dec, hu] at h
  rcases h with ⟨-, h⟩ | ⟨elems, spare, rows, -, h, h2, h3'⟩
  · exact ⟨true, true, [], by simpa [nilS] using h, by simp, by simp⟩
  · obtain ⟨l, rfl, hl⟩ := rows_map encTn (fun t => t.f.Ok) (all2_forall (Q := fun b => ∃ r : Tn, b = encTn r ∧ r.f.Ok) (fun a b hab => dec_turn hs h1 i h3 hab) h2)
    exact ⟨false, false, l, by simpa using h, hl, by simpa [maxLen] using h3'⟩
end
end Go.AM.R1
open Go Go.AM Go.AM.R1 Go.Proofs
namespace Go.Proofs.YtkmacpimokhpgaaGreat
open Go.ChangeShapes Go.WideShapes Go.ChangeAt Go.RowKit
namespace ctlCalms
theorem own : ownKnob Tryz.prog.godebug = none := by kernel_rfl
theorem laidOut : laidOutB Tryz.prog = true := by kernel_rfl
theorem mixed : Tryz.prog.follows .mixedOrders = true := by kernel_rfl
set_option maxRecDepth 100000 in
theorem contract (H : Type) (enc : TypeId × Value → H) (W : World) (base : Nat) (args : Array Value) (ds gs : List (DataW H)) (before : List MemPlace)
    (hval : ∀ (j : Nat) t v, Tryz.f4.params[j]? = some t → args[j]? = some v → Value.okWide Tryz.prog W .any base t v)
    (hW : DataW.Whole enc Tryz.prog Tryz.f4.params.toList Rows.ctlCalmsSpec.vars false W args.toList ds gs before) :
    Calls Tryz.prog 4 args W fun e W' => ∃ v, e = .returned v ∧ Rows.ctlCalmsSpec.post enc Tryz.prog Tryz.f4 false true false false W args v W' := by
  refine law_contract (id := 4) (f := Tryz.f4) (s := Rows.ctlCalmsSpec) (k := 7) (nargs := 1) (base := base) (ds := ds) (gs := gs) (before := before) mixed libs_ok R1.hE laidOut ?e1 ?e2 (tb := 4) ?e3 Tryz.underlying4 ?e4 ?e5 ?e7 ?e8 ?e6
  case e7 => exact hval
  case e8 => exact hW
  case e1 => rfl
  case e3 => kernel_rfl
  case e4 => rw [Tryz.params4]; rfl
  · rw [Tryz.params4]; decide +kernel
  · intro ds h
    match ds, h with
    | [d1], _ => rfl
  · intro cs hA
    rw [Tryz.params4] at hA
    obtain ⟨d1, r1, a1, s1, rfl, rfl, h1, hA⟩ := decArgs_cons hA
    obtain ⟨rfl, rfl⟩ := decArgs_nil hA
    obtain ⟨n1, f1, ts, rfl, hfo, -⟩ := decV_turns (n := 2) Tryz.underlying46 Tryz.underlying50 Tryz.underlying4 ⟨Tryz.underlying32, Tryz.underlying3, Tryz.underlying4, Tryz.underlying4, Tryz.underlying3, Tryz.underlying30, Tryz.underlying5⟩ Tryz.underlying3 h1
    obtain ⟨n, hn⟩ := (call_iff R1.E).1 (ctlCalms_spec ts n1 f1)
    exact ⟨n, _, hn⟩

set_option maxRecDepth 100000 in
theorem lifted (os : Os) (started : os.Started) (H : Type) (enc : TypeId × Value → H) :
    ReturnsInHanded {} Tryz.checked os 4 .any (Rows.ctlCalmsSpec.pre6 enc Tryz.prog Tryz.f4 Rows.ctlCalmsRow.domain false) (Rows.ctlCalmsSpec.post enc Tryz.prog Tryz.f4 false true false false) := by
  refine returnsInHanded_of_change (C := Tryz.checked) own started (by kernel_rfl) Tryz.func4
    (ChangeSpec.witness6 (enc := enc) (C := Tryz.checked) false ⟨#[], #[.slice none 0 0], []⟩ 8 (by kernel_rfl) (by kernel_rfl) (by kernel_rfl) (by kernel_rfl)) ?_
  intro W base args ds gs before hval hW _ _
  exact contract H enc W base args ds gs before hval hW

theorem proved : Rows.CtlCalmsSaid :=
  OpenClaim.holds_of_wide 4 Tryz.f4 rfl rfl rfl rfl rfl rfl rfl ⟨rfl, rfl, rfl, rfl, rfl⟩ rfl rfl rfl rfl rfl (by kernel_rfl) Tryz.func4 (by kernel_rfl)
    (of_decide_eq_true (by kernel_rfl)) (by unfold Func.isWrapper; first | (rw [if_pos (by decide +kernel)]; kernel_rfl) | (rw [if_neg (by decide +kernel)]; exact ⟨rfl, rfl⟩))
    (fun os started H enc _ => lifted os started H enc)
end ctlCalms
theorem ctlCalmsProved : Rows.CtlCalmsSaid := ctlCalms.proved
end Go.Proofs.YtkmacpimokhpgaaGreat
