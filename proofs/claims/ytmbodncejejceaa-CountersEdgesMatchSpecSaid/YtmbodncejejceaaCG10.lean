/- The contract of Counts. -/
import Derived.Test.YtmbodncejejceaaCG4
import Derived.Test.YtmbodncejejceaaCG9
import Derived.Test.YtmbodncejejceaaCPlB
import Derived.Test.YtmbodncejejceaaCCG10
set_option linter.all false

namespace Go.Eng
open Go.Proofs
attribute [local irreducible] vc vops gop step fins fin finP cov covEnv covRows softs qop hop

theorem cntT_of {L : List Pr} {N : Nat} {p vs : List Int} {S : KC} (h : cntS L N p vs = S) : cntT L N p vs = (if Bal (edF L) L.length (N + 1) (fun i => S.2.getD i 0) then (if 0 ≤ idxF (fun x => decide (x < 0)) S.2 0 then (13, idxF (fun x => decide (x < 0)) S.2 0) else (0, 0)) else (13, -4)) := by subst h; rfl

set_option maxHeartbeats 4000000 in
theorem counts_ok (g : Th (List Bk)) (e p vs : Th (List Int)) (h : Side fun _ => GB (g ⟨⟩) ∧ LB (e ⟨⟩) ∧ LB (p ⟨⟩) ∧ LB (vs ⟨⟩)) :
    GCall Try.prog 36 [.d (blocks g), .d (ints e), .d (ints p), .d (ints vs)] (.tup [.d (ints fun _ => countsL (g ⟨⟩) (e ⟨⟩) (p ⟨⟩) (vs ⟨⟩)), .d (fault (fun _ => (cntF (g ⟨⟩) (e ⟨⟩) (p ⟨⟩) (vs ⟨⟩)).1) fun _ => (cntF (g ⟨⟩) (e ⟨⟩) (p ⟨⟩) (vs ⟨⟩)).2)]) [] := by
  have hge : Side fun _ => GB (g ⟨⟩) ∧ LB (e ⟨⟩) := ⟨⟨h.h.1, h.h.2.1⟩⟩
  have hpl : (p ⟨⟩).length ≤ 17592186044416 := h.h.2.2.1
  have hvl : LB (vs ⟨⟩) := h.h.2.2.2
  clear h
  refine g36 (tabOK 0 ms) rfl (Nat.le_of_ble_eq_true rfl) rfl ?_
  -- a fault ahead of the computation
  have hpre : ∀ f : Int × Int, preF (g ⟨⟩) (e ⟨⟩) (p ⟨⟩) (vs ⟨⟩) = f → f.1 ≠ 0 → countsL (g ⟨⟩) (e ⟨⟩) (p ⟨⟩) (vs ⟨⟩) = [] ∧ cntF (g ⟨⟩) (e ⟨⟩) (p ⟨⟩) (vs ⟨⟩) = f := fun f hf hne => by
    have : cntF (g ⟨⟩) (e ⟨⟩) (p ⟨⟩) (vs ⟨⟩) = f := by unfold cntF; rw [hf, if_neg hne]
    refine ⟨?_, this⟩
    unfold countsL; rw [this, if_neg hne]
  repeat' first
    | (refine VIf.mk' ?_ ?_ <;> intro _)
    | (refine LenB.mk ?_; intro _)
    | refine And.intro ?_ ?_
    | exact trivial
    | refine Stop.mk ?_
    | exact ShEq.sl
    | refine VCall.mk' (.mk (check_ok' _ _ hge)) (.inl rfl) ?_
    | ((fail_if_success refine Side.mk ?_); (fail_if_success refine Exists.intro ?_ ?_); (fail_if_success refine VLoop.mk ?_); (fail_if_success refine VCut.mk ?_); (fail_if_success refine REq.sl ?_); (fail_if_success refine Same.mk ?_); (fail_if_success refine DEq.mk ?_); (fail_if_success refine VCall.mk ?_); (fail_if_success refine SReg.go ?_); (fail_if_success refine QCall.mk ?_); (fail_if_success refine Dec.mk ?_); (fail_if_success show False); (fail_if_success show _ = _); cbv)
  all_goals try simp only [ncast, decide_eq_true_eq, decide_eq_false_iff_not, Decidable.not_not, Bool.not_eq_true', Bool.not_eq_false', cond_t, cond_f, toNat_cast] at *
  · rename_i h1
    have hz := hpre (entF (g ⟨⟩) (e ⟨⟩)) (by unfold preF; rw [if_neg (flt_ne h1 fun h => (entF_good h).1)]) (flt_ne h1 fun h => (entF_good h).1)
    exact Side.mk hz.1
  · rename_i h1
    have hz := hpre (entF (g ⟨⟩) (e ⟨⟩)) (by unfold preF; rw [if_neg (flt_ne h1 fun h => (entF_good h).1)]) (flt_ne h1 fun h => (entF_good h).1)
    exact Side.mk (by rw [hz.2])
  · rename_i h1
    have hz := hpre (entF (g ⟨⟩) (e ⟨⟩)) (by unfold preF; rw [if_neg (flt_ne h1 fun h => (entF_good h).1)]) (flt_ne h1 fun h => (entF_good h).1)
    exact Side.mk (by rw [hz.2])
  rename_i h1
  have h0 : (entF (g ⟨⟩) (e ⟨⟩)).1 = 0 := flt_eq (by simpa using h1)
  clear h1
  obtain ⟨_, hG, hE⟩ := entF_good h0
  have hlen := edgesL_len hG hE
  have hrng := fun x hx => edgesL_rng (x := x) hG hE hx
  have hgn := hG.n
  refine VCall.mk' (.mk (pedges_ok _ _ ⟨⟨hG, hE⟩⟩)) (.inl rfl) ?_
  have hpf : preF (g ⟨⟩) (e ⟨⟩) (p ⟨⟩) (vs ⟨⟩) = preT (edgesL (g ⟨⟩) (e ⟨⟩)) (p ⟨⟩) (vs ⟨⟩) := by unfold preF; rw [if_pos h0]
  have hcf : preF (g ⟨⟩) (e ⟨⟩) (p ⟨⟩) (vs ⟨⟩) = (0, 0) → cntF (g ⟨⟩) (e ⟨⟩) (p ⟨⟩) (vs ⟨⟩) = cntT (edgesL (g ⟨⟩) (e ⟨⟩)) (g ⟨⟩).length (p ⟨⟩) (vs ⟨⟩) := fun h => by unfold cntF; rw [h, if_pos rfl]
  have hcl : countsL (g ⟨⟩) (e ⟨⟩) (p ⟨⟩) (vs ⟨⟩) = if (cntF (g ⟨⟩) (e ⟨⟩) (p ⟨⟩) (vs ⟨⟩)).1 = 0 then (cntS (edgesL (g ⟨⟩) (e ⟨⟩)) (g ⟨⟩).length (p ⟨⟩) (vs ⟨⟩)).2 else [] := rfl
  have hSol : SolPre (edgesL (g ⟨⟩) (e ⟨⟩)) (g ⟨⟩).length := ⟨fun x hx => by have := hrng x hx; omega⟩
  generalize hL : edgesL (g ⟨⟩) (e ⟨⟩) = L at *
  generalize hCF : cntF (g ⟨⟩) (e ⟨⟩) (p ⟨⟩) (vs ⟨⟩) = CF at *
  generalize hCL : countsL (g ⟨⟩) (e ⟨⟩) (p ⟨⟩) (vs ⟨⟩) = CL at *
  generalize hPF : preF (g ⟨⟩) (e ⟨⟩) (p ⟨⟩) (vs ⟨⟩) = PF at *
  repeat' first
    | (refine VIf.mk' ?_ ?_ <;> intro _)
    | (refine LenB.mk ?_; intro _)
    | refine And.intro ?_ ?_
    | exact trivial
    | refine Stop.mk ?_
    | exact ShEq.sl
    | ((fail_if_success refine Side.mk ?_); (fail_if_success refine Exists.intro ?_ ?_); (fail_if_success refine VLoop.mk ?_); (fail_if_success refine VCut.mk ?_); (fail_if_success refine REq.sl ?_); (fail_if_success refine Same.mk ?_); (fail_if_success refine DEq.mk ?_); (fail_if_success refine VCall.mk ?_); (fail_if_success refine SReg.go ?_); (fail_if_success refine QCall.mk ?_); (fail_if_success refine Dec.mk ?_); (fail_if_success show False); (fail_if_success show _ = _); cbv)
  · exact Side.mk (by simp only [ncast]; omega)
  · exact Side.mk (by simp only [ncast]; omega)
  have hz1 : (List.replicate (L.length : Int).toNat false) = knP ((p ⟨⟩).take 0) L.length := by rw [Int.toNat_natCast]; exact knP_zero _
  have hz2 : (List.replicate (L.length : Int).toNat (0 : Int)) = List.replicate L.length 0 := by rw [Int.toNat_natCast]
  refine VLoop.inv (ι := Nat) (fun k => ⟨[(0, .d (blocks g)), (2, .d (ints p)), (3, .d (ints vs)), (9, .bptr 0 0), (11, .own 2), (12, .own 3), (13, .own 4), (39, .d (ints p)), (40, .d (num fun _ => (p ⟨⟩).length)), (41, .d (num fun _ => k))], [(0, .box [num fun _ => 0, num fun _ => 0]), (2, .sl pairSh fun _ => L), (3, .sl boolSh fun _ => knP ((p ⟨⟩).take k) L.length), (4, .sl intSh fun _ => List.replicate L.length 0)]⟩)
    (fun k => k ≤ (p ⟨⟩).length ∧ incGo L.length none (p ⟨⟩) = incGo L.length (prevOf (p ⟨⟩) k) ((p ⟨⟩).drop k)) (fun k => (p ⟨⟩).length - k) 0 ⟨Nat.zero_le _, rfl⟩ ?_ ?_
  · cbv
    repeat' first | refine And.intro ?_ ?_ | exact trivial | exact Side.mk rfl | exact REq.sl rfl | exact DEq.mk rfl | exact REq.sl hz1 | exact REq.sl hz2
  clear hz1 hz2
  rintro k ⟨hk, hinc⟩
  have hkl := knP_len ((p ⟨⟩).take k) L.length
  have hbad : incGo L.length none (p ⟨⟩) = false → CL = [] ∧ CF = (5, -3) := fun h => hpre (5, -3) (by rw [hpf]; unfold preT; rw [h]; rfl) (by simp)
  repeat' first
    | (refine VIf.mk' ?_ ?_ <;> intro _)
    | (refine LenB.mk ?_; intro _)
    | refine And.intro ?_ ?_
    | exact trivial
    | refine Stop.mk ?_
    | exact ShEq.sl
    | ((fail_if_success refine Side.mk ?_); (fail_if_success refine Exists.intro ?_ ?_); (fail_if_success refine VLoop.mk ?_); (fail_if_success refine VCut.mk ?_); (fail_if_success refine REq.sl ?_); (fail_if_success refine Same.mk ?_); (fail_if_success refine DEq.mk ?_); (fail_if_success refine VCall.mk ?_); (fail_if_success refine SReg.go ?_); (fail_if_success refine QCall.mk ?_); (fail_if_success refine Dec.mk ?_); (fail_if_success show False); (fail_if_success show _ = _); cbv)
  all_goals try simp only [ncast, decide_eq_true_eq, decide_eq_false_iff_not, Decidable.not_not, Bool.not_eq_true', Bool.not_eq_false', cond_t, cond_f, toNat_cast] at *
  all_goals try (first | exact Side.mk (i64 (by (try simp only [ncast] at *); omega)) | exact Side.mk (u64 (by (try simp only [ncast] at *); omega)) | exact Side.mk (by (try simp only [ncast] at *); refine ⟨?_, ?_, u64 ?_⟩ <;> first | trivial | omega) | exact Side.mk (by (try simp only [ncast] at *); (try simp only [List.length_set, List.length_cons, List.length_nil, List.length_append, hkl]); omega))
  all_goals try have e1 : ((k : Int) - 1).toNat = k - 1 := by omega
  all_goals try simp only [e1] at *
  all_goals try (
    have hz := hbad (hinc.trans (incGo_rng (by omega) (by omega) _))
    first | exact Side.mk hz.1 | exact Side.mk (by rw [hz.2]))
  all_goals try (
    have hz := hbad (hinc.trans (incGo_ord (by omega) (by omega) (by omega)))
    first | exact Side.mk hz.1 | exact Side.mk (by rw [hz.2]))
  · have e3 := knP_set (p := p ⟨⟩) (n := L.length) (k := k) (by omega) (by omega)
    refine ⟨k + 1, ⟨by omega, hinc.trans (incGo_ok (by omega) (by omega) (by omega))⟩, by omega, ?_⟩
    cbv
    repeat' first | refine And.intro ?_ ?_ | exact trivial | exact Side.mk rfl | exact REq.sl rfl | exact DEq.mk rfl | exact REq.sl e3
  · have e3 := knP_set (p := p ⟨⟩) (n := L.length) (k := k) (by omega) (by omega)
    refine ⟨k + 1, ⟨by omega, hinc.trans (incGo_ok (by omega) (by omega) (by omega))⟩, by omega, ?_⟩
    cbv
    repeat' first | refine And.intro ?_ ?_ | exact trivial | exact Side.mk rfl | exact REq.sl rfl | exact DEq.mk rfl | exact REq.sl e3
  rename_i hge
  obtain rfl : k = (p ⟨⟩).length := by (try simp only [ncast, decide_eq_false_iff_not] at hge); omega
  clear hge hkl
  have hig : incGo L.length none (p ⟨⟩) = true := by rw [hinc, List.drop_of_length_le (by omega)]; rfl
  obtain ⟨hpr, hpi, _⟩ := incGo_good hig
  have hpt : preT L (p ⟨⟩) (vs ⟨⟩) = if (wtF (vs ⟨⟩) (p ⟨⟩).length).1 = 0 then cyT (cyF L (inP (p ⟨⟩)) L.length) else wtF (vs ⟨⟩) (p ⟨⟩).length := by unfold preT; rw [if_pos hig]
  refine VCall.mk' (.mk (wfault_ok _ _ (p ⟨⟩).length ?_)) (.inl rfl) ?_
  · exact Side.mk ⟨by omega, by simp, hvl⟩
  repeat' first
    | (refine VIf.mk' ?_ ?_ <;> intro _)
    | (refine LenB.mk ?_; intro _)
    | refine And.intro ?_ ?_
    | exact trivial
    | refine Stop.mk ?_
    | exact ShEq.sl
    | ((fail_if_success refine Side.mk ?_); (fail_if_success refine Exists.intro ?_ ?_); (fail_if_success refine VLoop.mk ?_); (fail_if_success refine VCut.mk ?_); (fail_if_success refine REq.sl ?_); (fail_if_success refine Same.mk ?_); (fail_if_success refine DEq.mk ?_); (fail_if_success refine VCall.mk ?_); (fail_if_success refine SReg.go ?_); (fail_if_success refine QCall.mk ?_); (fail_if_success refine Dec.mk ?_); (fail_if_success show False); (fail_if_success show _ = _); cbv)
  all_goals try simp only [ncast, decide_eq_true_eq, decide_eq_false_iff_not, Decidable.not_not, Bool.not_eq_true', Bool.not_eq_false', cond_t, cond_f, toNat_cast] at *
  · rename_i h1
    have hz := hpre _ (by rw [hpf, hpt, if_neg (flt_ne h1 fun h => (wtF_good h).1)]) (flt_ne h1 fun h => (wtF_good h).1)
    exact Side.mk hz.1
  · rename_i h1
    have hz := hpre _ (by rw [hpf, hpt, if_neg (flt_ne h1 fun h => (wtF_good h).1)]) (flt_ne h1 fun h => (wtF_good h).1)
    exact Side.mk (by rw [hz.2])
  · rename_i h1
    have hz := hpre _ (by rw [hpf, hpt, if_neg (flt_ne h1 fun h => (wtF_good h).1)]) (flt_ne h1 fun h => (wtF_good h).1)
    exact Side.mk (by rw [hz.2])
  have h2 : (wtF (vs ⟨⟩) (p ⟨⟩).length).1 = 0 := flt_eq (by assumption)
  obtain ⟨_, hvL, hv⟩ := wtF_good h2
  rw [if_pos h2] at hpt
  refine VCall.mk' (.mk (newForest_ok _ (g ⟨⟩).length ?_)) (.inl rfl) ?_
  · exact Side.mk ⟨by (try simp only [ncast]); omega, by (try simp only [ncast]); omega, by omega⟩
  repeat' first
    | (refine VIf.mk' ?_ ?_ <;> intro _)
    | (refine LenB.mk ?_; intro _)
    | refine And.intro ?_ ?_
    | exact trivial
    | refine Stop.mk ?_
    | exact ShEq.sl
    | ((fail_if_success refine Side.mk ?_); (fail_if_success refine Exists.intro ?_ ?_); (fail_if_success refine VLoop.mk ?_); (fail_if_success refine VCut.mk ?_); (fail_if_success refine REq.sl ?_); (fail_if_success refine Same.mk ?_); (fail_if_success refine DEq.mk ?_); (fail_if_success refine VCall.mk ?_); (fail_if_success refine SReg.go ?_); (fail_if_success refine QCall.mk ?_); (fail_if_success refine Dec.mk ?_); (fail_if_success show False); (fail_if_success show _ = _); cbv)
  have hpt2 : (p ⟨⟩).take (p ⟨⟩).length = p ⟨⟩ := List.take_length
  have e0 : knP ((p ⟨⟩).take (p ⟨⟩).length) L.length = knP (p ⟨⟩) L.length := by rw [hpt2]
  refine VLoop.inv (ι := Nat × List Int) (fun q => ⟨[(0, .d (blocks g)), (2, .d (ints p)), (3, .d (ints vs)), (9, .bptr 0 0), (11, .own 2), (12, .own 3), (13, .own 4), (17, .own 6), (83, .own 2), (84, .d (num fun _ => L.length)), (85, .d (num fun _ => q.1))], [(0, .box [num fun _ => 0, num fun _ => 0]), (2, .sl pairSh fun _ => L), (3, .sl boolSh fun _ => knP (p ⟨⟩) L.length), (4, .sl intSh fun _ => List.replicate L.length 0), (6, .sl intSh fun _ => q.2)]⟩)
    (fun q => q.1 ≤ L.length ∧ q.2.length = (g ⟨⟩).length + 1 ∧ (∃ dp, Forest q.2 (rtOf (unE L (inP (p ⟨⟩)) q.1)) dp) ∧ cyF L (inP (p ⟨⟩)) q.1 = none) (fun q => L.length - q.1) (0, forest0 (g ⟨⟩).length) ⟨Nat.zero_le _, by simp [forest0], ⟨_, Forest.start ((g ⟨⟩).length + 1)⟩, rfl⟩ ?_ ?_
  · cbv
    repeat' first | refine And.intro ?_ ?_ | exact trivial | exact Side.mk rfl | exact REq.sl rfl | exact DEq.mk rfl | exact REq.sl e0
  clear e0
  rintro ⟨k, f⟩ ⟨hk, hf, ⟨dp, hF⟩, hcy⟩
  simp only at hk hf hF hcy
  have hkl := knP_len (p ⟨⟩) L.length
  have hka := fun h => knP_at (p := p ⟨⟩) (n := L.length) (i := k) h
  have hus := unE_succ L (inP (p ⟨⟩)) k
  repeat' first
    | (refine VIf.mk' ?_ ?_ <;> intro _)
    | (refine LenB.mk ?_; intro _)
    | refine And.intro ?_ ?_
    | exact trivial
    | refine Stop.mk ?_
    | exact ShEq.sl
    | ((fail_if_success refine Side.mk ?_); (fail_if_success refine Exists.intro ?_ ?_); (fail_if_success refine VLoop.mk ?_); (fail_if_success refine VCut.mk ?_); (fail_if_success refine REq.sl ?_); (fail_if_success refine Same.mk ?_); (fail_if_success refine DEq.mk ?_); (fail_if_success refine VCall.mk ?_); (fail_if_success refine SReg.go ?_); (fail_if_success refine QCall.mk ?_); (fail_if_success refine Dec.mk ?_); (fail_if_success show False); (fail_if_success show _ = _); cbv)
  all_goals try simp only [ncast, decide_eq_true_eq, decide_eq_false_iff_not, Decidable.not_not, Bool.not_eq_true', Bool.not_eq_false', cond_t, cond_f, toNat_cast] at *
  all_goals try (first | exact Side.mk (i64 (by (try simp only [ncast] at *); omega)) | exact Side.mk (u64 (by (try simp only [ncast] at *); omega)) | exact Side.mk (by (try simp only [ncast] at *); refine ⟨?_, ?_, u64 ?_⟩ <;> first | trivial | omega) | exact Side.mk (by (try simp only [ncast] at *); (try simp only [List.length_set, List.length_cons, List.length_nil, List.length_append, hkl]); omega))
  · rename_i hlt hkf
    replace hlt : k < L.length := by omega
    have hxm := hrng _ (getD_memL (0, 0) hlt)
    have hin : inP (p ⟨⟩) k = false := by
      have := hka hlt; rw [hkf] at this; exact this.symm
    rw [if_neg (by rw [hin]; simp)] at hus
    obtain ⟨F', dp', u1, u2, u3⟩ := unite_ok (fun _ => f) (fun _ => (L.getD k (0, 0)).1) (fun _ => (L.getD k (0, 0)).2) _ _ _ dp hF ⟨by omega, rfl⟩ ⟨by omega, rfl⟩ (by omega) (by omega) (by omega)
    refine VCall.mk' (.mk u3) (.inl rfl) ?_
    have hcA : ∀ b : Bool, decide (rtOf (unE L (inP (p ⟨⟩)) k) ((L.getD k (0, 0)).1 + 1).toNat = rtOf (unE L (inP (p ⟨⟩)) k) ((L.getD k (0, 0)).2 + 1).toNat) = b → cyAt L (inP (p ⟨⟩)) k = b := fun b h => by
      unfold cyAt; rw [hin]; exact h
    have hcyc : cyAt L (inP (p ⟨⟩)) k = true → CL = [] ∧ CF = (15, (k : Int)) := fun h => hpre _ (by rw [hpf, hpt, cyF_first hcy h hlt]; rfl) (by simp)
    repeat' first
      | (refine VIf.mk' ?_ ?_ <;> intro _)
      | (refine LenB.mk ?_; intro _)
      | refine And.intro ?_ ?_
      | exact trivial
      | refine Stop.mk ?_
      | exact ShEq.sl
      | ((fail_if_success refine Side.mk ?_); (fail_if_success refine Exists.intro ?_ ?_); (fail_if_success refine VLoop.mk ?_); (fail_if_success refine VCut.mk ?_); (fail_if_success refine REq.sl ?_); (fail_if_success refine Same.mk ?_); (fail_if_success refine DEq.mk ?_); (fail_if_success refine VCall.mk ?_); (fail_if_success refine SReg.go ?_); (fail_if_success refine QCall.mk ?_); (fail_if_success refine Dec.mk ?_); (fail_if_success show False); (fail_if_success show _ = _); cbv)
    all_goals try simp only [ncast, decide_eq_true_eq, decide_eq_false_iff_not, Decidable.not_not, Bool.not_eq_true', Bool.not_eq_false', cond_t, cond_f, toNat_cast] at *
    all_goals try (first | exact Side.mk (i64 (by (try simp only [ncast] at *); omega)) | exact Side.mk (u64 (by (try simp only [ncast] at *); omega)) | exact Side.mk (by (try simp only [ncast] at *); refine ⟨?_, ?_, u64 ?_⟩ <;> first | trivial | omega) | exact Side.mk (by (try simp only [ncast] at *); (try simp only [List.length_set, List.length_cons, List.length_nil, List.length_append]); omega))
    · rename_i hc
      exact Side.mk (hcyc (hcA true (decide_eq_true hc))).1
    · rename_i hc
      exact Side.mk (by rw [(hcyc (hcA true (decide_eq_true hc))).2])
    · rename_i hc
      exact Side.mk (by rw [(hcyc (hcA true (decide_eq_true hc))).2])
    · rename_i hc
      have hF2 : Forest F' (rtOf (unE L (inP (p ⟨⟩)) (k + 1))) dp' := by rw [hus, rtOf_snoc]; exact u2
      refine ⟨(k + 1, F'), ⟨by simp only; omega, by simp only; omega, ⟨dp', hF2⟩, cyF_step hcy (hcA false (decide_eq_false hc))⟩, by simp only; omega, ?_⟩
      cbv
      repeat' first | refine And.intro ?_ ?_ | exact trivial | exact Side.mk rfl | exact REq.sl rfl | exact DEq.mk rfl
  · rename_i hlt hkf
    replace hlt : k < L.length := by omega
    have hin : inP (p ⟨⟩) k = true := by
      have := hka hlt; rw [hkf] at this; exact this.symm
    rw [if_pos hin] at hus
    refine ⟨(k + 1, f), ⟨by simp only; omega, hf, ⟨dp, by simp only; rw [hus]; exact hF⟩, cyF_step hcy (by unfold cyAt; rw [hin]; rfl)⟩, by simp only; omega, ?_⟩
    cbv
    repeat' first | refine And.intro ?_ ?_ | exact trivial | exact Side.mk rfl | exact REq.sl rfl | exact DEq.mk rfl
  rename_i hge
  obtain rfl : k = L.length := by (try simp only [ncast, decide_eq_false_iff_not] at hge); omega
  clear hge hka hus hF hf hkl hbad hinc
  rw [hcy] at hpt
  have hcf := hcf (by rw [hpf, hpt]; rfl)
  have hA := cyF_acyc hcy
  have hnd : (p ⟨⟩).Nodup := hpi.imp fun h => by omega
  have hvb : ∀ x ∈ vs ⟨⟩, 0 ≤ x ∧ x ≤ 1000000 := hv
  have e0 : List.replicate L.length (0 : Int) = outV ((p ⟨⟩).take 0) (vs ⟨⟩) L.length := outV_zero _ _
  refine VLoop.inv (ι := Nat) (fun k => ⟨[(0, .d (blocks g)), (3, .d (ints vs)), (9, .bptr 0 0), (11, .own 2), (12, .own 3), (13, .own 4), (104, .d (ints p)), (105, .d (num fun _ => (p ⟨⟩).length)), (106, .d (num fun _ => k))], [(0, .box [num fun _ => 0, num fun _ => 0]), (2, .sl pairSh fun _ => L), (3, .sl boolSh fun _ => knP (p ⟨⟩) L.length), (4, .sl intSh fun _ => outV ((p ⟨⟩).take k) (vs ⟨⟩) L.length)]⟩)
    (fun k => k ≤ (p ⟨⟩).length) (fun k => (p ⟨⟩).length - k) 0 (Nat.zero_le _) ?_ ?_
  · cbv
    repeat' first | refine And.intro ?_ ?_ | exact trivial | exact Side.mk rfl | exact REq.sl rfl | exact DEq.mk rfl | exact REq.sl e0
  clear e0
  intro k hk
  have hol := outV_len ((p ⟨⟩).take k) (vs ⟨⟩) L.length
  have hpk := fun h : k < (p ⟨⟩).length => hpr _ (getD_memL 0 h)
  repeat' first
    | (refine VIf.mk' ?_ ?_ <;> intro _)
    | (refine LenB.mk ?_; intro _)
    | refine And.intro ?_ ?_
    | exact trivial
    | refine Stop.mk ?_
    | exact ShEq.sl
    | ((fail_if_success refine Side.mk ?_); (fail_if_success refine Exists.intro ?_ ?_); (fail_if_success refine VLoop.mk ?_); (fail_if_success refine VCut.mk ?_); (fail_if_success refine REq.sl ?_); (fail_if_success refine Same.mk ?_); (fail_if_success refine DEq.mk ?_); (fail_if_success refine VCall.mk ?_); (fail_if_success refine SReg.go ?_); (fail_if_success refine QCall.mk ?_); (fail_if_success refine Dec.mk ?_); (fail_if_success show False); (fail_if_success show _ = _); cbv)
  all_goals try simp only [ncast, decide_eq_true_eq, decide_eq_false_iff_not, Decidable.not_not, Bool.not_eq_true', Bool.not_eq_false', cond_t, cond_f, toNat_cast] at *
  all_goals try (first | exact Side.mk (i64 (by (try simp only [ncast] at *); omega)) | exact Side.mk (u64 (by (try simp only [ncast] at *); omega)) | exact Side.mk (by (try simp only [ncast] at *); refine ⟨?_, ?_, u64 ?_⟩ <;> first | trivial | omega) | exact Side.mk (by (try simp only [ncast] at *); (try simp only [List.length_set, List.length_cons, List.length_nil, List.length_append, hol]); omega))
  · rename_i hlt
    have hlt' : k < (p ⟨⟩).length := by omega
    have e1 := outV_set (vs := vs ⟨⟩) (n := L.length) hnd hlt' hvL.symm (hpk hlt').1
    refine ⟨k + 1, by omega, by omega, ?_⟩
    cbv
    repeat' first | refine And.intro ?_ ?_ | exact trivial | exact Side.mk rfl | exact REq.sl rfl | exact DEq.mk rfl | exact REq.sl e1
  rename_i hge
  obtain rfl : k = (p ⟨⟩).length := by (try simp only [ncast, decide_eq_false_iff_not] at hge); omega
  clear hge hk hpk hol
  rw [hpt2]
  have hI : InvK L (g ⟨⟩).length (inP (p ⟨⟩)) (ctF (knP (p ⟨⟩) L.length, outV (p ⟨⟩) (vs ⟨⟩) L.length)) (knP (p ⟨⟩) L.length, outV (p ⟨⟩) (vs ⟨⟩) L.length) := inv_start
  have hnl : ∀ i, i < L.length → inP (p ⟨⟩) i = false → (edF L i).1 ≠ (edF L i).2 := fun i hi h => hA.nonloop (List.mem_map.2 ⟨i, List.mem_filter.2 ⟨List.mem_range.2 hi, by rw [h]; rfl⟩, rfl⟩)
  have hsum := c0_sum (L := L) (p := p ⟨⟩) (vs := vs ⟨⟩) (by omega) hvb
  refine VCall.mk' (.mk (solve_ok (fun _ => L) _ (fun _ => knP (p ⟨⟩) L.length) (fun _ => outV (p ⟨⟩) (vs ⟨⟩) L.length) (g ⟨⟩).length _ _ (Side.mk ⟨⟨by omega, by omega, by omega⟩, by omega, hSol, hI, hnl, hsum⟩))) (.inr ⟨trivial, fun x hx => ?_⟩) ?_
  · simp only [List.mem_cons, List.not_mem_nil, or_false] at hx
    rcases hx with rfl | rfl <;> exact fun _ => rfl
  obtain ⟨k1, k2⟩ := InvK.solve hSol hnl (L.length + 1) hI (by have := List.length_filter_le (fun b => !b) (knP (p ⟨⟩) L.length); rw [knP_len] at this; exact Nat.lt_succ_of_le this)
  have hS : solveL L (g ⟨⟩).length (L.length + 1) (knP (p ⟨⟩) L.length, outV (p ⟨⟩) (vs ⟨⟩) L.length) = cntS L (g ⟨⟩).length (p ⟨⟩) (vs ⟨⟩) := rfl
  rw [hS] at k1 k2 ⊢
  have hsm := fun i (hi : i < L.length) => k1.small hsum hi
  have hT := fun S (h : cntS L (g ⟨⟩).length (p ⟨⟩) (vs ⟨⟩) = S) => cntT_of h
  generalize hSS : cntS L (g ⟨⟩).length (p ⟨⟩) (vs ⟨⟩) = S at *
  replace hT := hT S rfl
  obtain ⟨S1, S2⟩ := S
  simp only at hsm hcl ⊢
  simp only at hT
  repeat' first
    | (refine VIf.mk' ?_ ?_ <;> intro _)
    | (refine LenB.mk ?_; intro _)
    | refine And.intro ?_ ?_
    | exact trivial
    | refine Stop.mk ?_
    | exact ShEq.sl
    | ((fail_if_success refine Side.mk ?_); (fail_if_success refine Exists.intro ?_ ?_); (fail_if_success refine VLoop.mk ?_); (fail_if_success refine VCut.mk ?_); (fail_if_success refine REq.sl ?_); (fail_if_success refine Same.mk ?_); (fail_if_success refine DEq.mk ?_); (fail_if_success refine VCall.mk ?_); (fail_if_success refine SReg.go ?_); (fail_if_success refine QCall.mk ?_); (fail_if_success refine Dec.mk ?_); (fail_if_success show False); (fail_if_success show _ = _); cbv)
  refine VCall.mk' (.mk (balanced_ok (fun _ => L) (fun _ => ((g ⟨⟩).length : Int)) (fun _ => S2) (g ⟨⟩).length (Side.mk ⟨⟨by omega, by omega⟩, by omega, by omega, hSol, k1.l2, hsm⟩))) (.inr ⟨rfl, fun _ h => (List.not_mem_nil h).elim⟩) ?_
  repeat' first
    | (refine VIf.mk' ?_ ?_ <;> intro _)
    | (refine LenB.mk ?_; intro _)
    | refine And.intro ?_ ?_
    | exact trivial
    | refine Stop.mk ?_
    | exact ShEq.sl
    | ((fail_if_success refine Side.mk ?_); (fail_if_success refine Exists.intro ?_ ?_); (fail_if_success refine VLoop.mk ?_); (fail_if_success refine VCut.mk ?_); (fail_if_success refine REq.sl ?_); (fail_if_success refine Same.mk ?_); (fail_if_success refine DEq.mk ?_); (fail_if_success refine VCall.mk ?_); (fail_if_success refine SReg.go ?_); (fail_if_success refine QCall.mk ?_); (fail_if_success refine Dec.mk ?_); (fail_if_success show False); (fail_if_success show _ = _); cbv)
  all_goals try simp only [ncast, decide_eq_true_eq, decide_eq_false_iff_not, Decidable.not_not, Bool.not_eq_true', Bool.not_eq_false', cond_t, cond_f, toNat_cast] at *
  · rename_i hb
    rw [if_neg hb] at hT
    exact Side.mk (by rw [hcl, hcf, hT, if_neg (by simp)])
  · rename_i hb
    rw [if_neg hb] at hT
    exact Side.mk (by rw [hcf, hT])
  · rename_i hb
    rw [if_neg hb] at hT
    exact Side.mk (by rw [hcf, hT])
  rename_i hb
  rw [if_pos hb] at hT
  refine VCall.mk' (.mk (idxneg_ok (fun _ => S2))) (.inr ⟨rfl, fun _ h => (List.not_mem_nil h).elim⟩) ?_
  repeat' first
    | (refine VIf.mk' ?_ ?_ <;> intro _)
    | (refine LenB.mk ?_; intro _)
    | refine And.intro ?_ ?_
    | exact trivial
    | refine Stop.mk ?_
    | exact ShEq.sl
    | ((fail_if_success refine Side.mk ?_); (fail_if_success refine Exists.intro ?_ ?_); (fail_if_success refine VLoop.mk ?_); (fail_if_success refine VCut.mk ?_); (fail_if_success refine REq.sl ?_); (fail_if_success refine Same.mk ?_); (fail_if_success refine DEq.mk ?_); (fail_if_success refine VCall.mk ?_); (fail_if_success refine SReg.go ?_); (fail_if_success refine QCall.mk ?_); (fail_if_success refine Dec.mk ?_); (fail_if_success show False); (fail_if_success show _ = _); cbv)
  all_goals try simp only [ncast, decide_eq_true_eq, decide_eq_false_iff_not, Decidable.not_not, Bool.not_eq_true', Bool.not_eq_false', cond_t, cond_f, toNat_cast] at *
  · rename_i hc
    rw [if_pos hc] at hT
    exact Side.mk (by rw [hcl, hcf, hT, if_neg (by simp)])
  · rename_i hc
    rw [if_pos hc] at hT
    exact Side.mk (by rw [hcf, hT])
  · rename_i hc
    rw [if_pos hc] at hT
    exact Side.mk (by rw [hcf, hT])
  all_goals (
    rename_i hc
    rw [if_neg hc] at hT)
  · exact DEq.mk (congrArg ints (funext fun _ => by rw [hcl, hcf, hT, if_pos rfl]))
  · exact Side.mk (by rw [hcf, hT])
  · exact Side.mk (by rw [hcf, hT])
end Go.Eng
