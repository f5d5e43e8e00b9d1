import Derived.Test.YtahamnipffckhaaDoorF16
set_option linter.unusedVariables false
set_option linter.unusedSimpArgs false
namespace Go.Proofs.YtahamnipffckhaaDoor
open Go Go.RowKit
/-! ### A result that is frozen, own objects kept -/
def frzZ (h : AHeap) : CR → Option (CR × AHeap)
  | .ret v => match frzV h v with
    | some (p, h1) => some (.ret (.pv p), h1)
    | none => none
  | .pan p => some (.pan p, h)
def kZ (r : Option (CR × AHeap)) (f : CR → AHeap → Prop) : Prop := ∃ k h, r = some (k, h) ∧ f k h
@[congr] theorem kZ_congr {r r' : Option (CR × AHeap)} {f : CR → AHeap → Prop} (h : r = r') : kZ r f = kZ r' f := by subst h; rfl
@[go_sem] theorem kZ_some {k : CR} {h : AHeap} {f : CR → AHeap → Prop} : kZ (some (k, h)) f = f k h := propext ⟨fun ⟨_, _, e, h⟩ => by cases e; exact h, fun h => ⟨_, _, rfl, h⟩⟩
attribute [go_sem] frzZ
theorem FnK.freezeH {P : Program} {f : FuncId} {args : List AV} {h : AHeap} {pin : Nat} {K : CR → AHeap → Prop} (hc : FnK P f args h pin (fun r h' => kZ (frzZ h' r) K)) : FnK P f args h pin K := by
  refine ⟨hc.1, fun G ι I w vs hI hr hl => (hc.2 G ι I w vs hI hr hl).mono ?_⟩
  intro en w' hq
  cases en with
  | returned v =>
    obtain ⟨ι', I', r, H, k1, k2, k3, k4, k5, r', H', k6, k7⟩ := hq
    simp only [frzZ] at k6
    split at k6 <;> cases k6
    rename_i p hf
    obtain ⟨I2, a1, a2, a3, a4⟩ := frzV_sound k1 k4 k5 hf
    exact ⟨ι', I2, .pv p, H', a1, k2.trans a2 k3, by omega, by simp only [arel]; exact a3, trivial, k7⟩
  | panicked ch =>
    obtain ⟨ι', I', p, v, H, k0, k1, k2, k3, k4, r', H', k6, k7⟩ := hq
    cases k6
    exact ⟨ι', I', p, v, H, k0, k1, k2, k3, k4, k7⟩
  | outgrown => exact hq.elim
def FrzQ (P : Program) (rs : Array ResultVar) (n : Nat) (K : CR → AHeap → Prop) : AQ := RetQ P rs (fun x h' => kZ (frzZ h' x) fun x h1 => K x (h1.take n))
@[go_sem] theorem FrzQ_ret {P : Program} {n : Nat} {K : CR → AHeap → Prop} {rs : List ResultVar} {e : AEnv} {h : AHeap} : FrzQ P rs.toArray n K .ret e h = kL (resL P e h rs) (fun vs => kZ (frzZ h (.ret (tupV vs))) fun x h1 => K x (h1.take n)) := by simp only [FrzQ, RetQ]
@[go_sem] theorem FrzQ_norm {P : Program} {n : Nat} {K : CR → AHeap → Prop} {rs : List ResultVar} {e : AEnv} {h : AHeap} : FrzQ P rs.toArray n K .norm e h = kL (resL P e h rs) (fun vs => kZ (frzZ h (.ret (tupV vs))) fun x h1 => K x (h1.take n)) := by simp only [FrzQ, RetQ]
theorem refZ_of {P : Program} {f : FuncId} {fn : Func} {c : Code} {args : List AV} {h : AHeap} {K : CR → AHeap → Prop} {N : Nat} (hf : P.funcs[f]? = some fn) (hb : fn.body = some c) (hn : (fn.name == "runtime.NumGoroutine") = false) (hN : fn.ntmps = N) {rs : Array ResultVar} (hrs : fn.results = rs)
    (ha : args.length ≤ N) {n : Nat} (hl : h.length = n) (hv : VcZ true P N n (FrzQ P rs n K) [.code c] (argE args) h) : RefK P f args h K := by
  subst hl
  exact FnK.freezeH (fnK_of_vc hf hb hn hN ha (Nat.le_refl _) (by rw [hrs]; exact hv))
theorem Wk.hwk {pin : Nat} {e : AEnv} {h h' : AHeap} (hw : HWk h h') : Wk pin e h e h' := by
  intro G ι I w a N hI hR hp
  obtain ⟨ι', I', k1, k2, k3⟩ := hw G ι I w hI
  exact ⟨ι', I', k1, hR.ext k2 k3, ⟨k2.hi, k2.hk, fun id hid => k2.hj id (by omega)⟩, by omega⟩
/-! putter.put. -/
mutual
def pT (g : Tm → Option (Nat → Tm × Nat)) : Tm → Nat → Tm × Nat
  | .mk op name n a, c => match g (.mk op name n a) with
    | some f => f c
    | none => (.mk op name n (pL g a (c + 1)).1, (pL g a (c + 1)).2)
def pL (g : Tm → Option (Nat → Tm × Nat)) : List Tm → Nat → List Tm × Nat
  | [], c => ([], c)
  | x :: r, c => if c > 2000 then ([], c) else ((pT g x c).1 :: (pL g r (pT g x c).2).1, (pL g r (pT g x c).2).2)
end
theorem pT_eq (g : Tm → Option (Nat → Tm × Nat)) (t : Tm) (c : Nat) : pT g t c = match g t with
    | some f => f c
    | none => (.mk t.op t.name t.n (pL g t.a (c + 1)).1, (pL g t.a (c + 1)).2) := by
  cases t; rw [pT]; rfl
def lk (w : ByteArray × Int → Option Tm) (t : Tm) : Option Tm := if t.name = ⟨#[]⟩ then none else w (t.name, (sortT t).1)
def gB (w : ByteArray × Int → Option Tm) : Bool → Tm → Option (Nat → Tm × Nat)
  | false, _ => none
  | true, t => (lk w t).map (pT fun _ => none)
def wF (w : ByteArray × Int → Option Tm) : Key → Option AV
  | .si s n => (w (s, n)).map fun t => .pv t.pv
  | _ => none
theorem wF_lt (w : ByteArray × Int → Option Tm) (n : Nat) : (∀ (k : Key) (v : AV), wF w k = some v → v.lt n) = True := by
  refine eq_true fun k v h => ?_
  cases k with
  | si s m => simp only [wF, Option.map_eq_some_iff] at h; obtain ⟨_, _, rfl⟩ := h; trivial
  | _ => simp [wF] at h
theorem wF_ren (w : ByteArray × Int → Option Tm) (r : Nat → Nat) : (fun k => Option.map (AV.ren r) (wF w k)) = wF w := by
  funext k
  cases k with
  | si s m => simp only [wF]; cases w (s, m) <;> rfl
  | _ => simp [wF]
mutual
theorem pT_le (g : Tm → Option (Nat → Tm × Nat)) (hg : ∀ t f, g t = some f → ∀ c, c ≤ 2000 → (f c).2 ≤ 2001) : ∀ (t : Tm) (c : Nat), c ≤ 2000 → (pT g t c).2 ≤ 2001
  | .mk op name n a, c, hc => by
    rw [pT]
    split
    · rename_i f hf; exact hg _ f hf c hc
    · exact pL_le g hg a (c + 1) (by omega)
theorem pL_le (g : Tm → Option (Nat → Tm × Nat)) (hg : ∀ t f, g t = some f → ∀ c, c ≤ 2000 → (f c).2 ≤ 2001) : ∀ (a : List Tm) (c : Nat), c ≤ 2001 → (pL g a c).2 ≤ 2001
  | [], c, hc => by rw [pL]; exact hc
  | x :: r, c, hc => by
    rw [pL]
    split
    · exact hc
    · exact pL_le g hg r _ (pT_le g hg x c (by omega))
end
mutual
theorem pT_ge (g : Tm → Option (Nat → Tm × Nat)) (hg : ∀ t f, g t = some f → ∀ c, c + 1 ≤ (f c).2) : ∀ (t : Tm) (c : Nat), c + 1 ≤ (pT g t c).2
  | .mk op name n a, c => by
    rw [pT]
    split
    · rename_i f hf; exact hg _ f hf c
    · exact pL_ge g hg a (c + 1)
theorem pL_ge (g : Tm → Option (Nat → Tm × Nat)) (hg : ∀ t f, g t = some f → ∀ c, c + 1 ≤ (f c).2) : ∀ (a : List Tm) (c : Nat), c ≤ (pL g a c).2
  | [], c => by rw [pL]; exact Nat.le_refl _
  | x :: r, c => by
    rw [pL]
    split
    · exact Nat.le_refl _
    · exact Nat.le_trans (Nat.le_trans (Nat.le_succ _) (pT_ge g hg x c)) (pL_ge g hg r _)
end
theorem gB_ge (w : ByteArray × Int → Option Tm) (b : Bool) (t : Tm) (f : Nat → Tm × Nat) (h : gB w b t = some f) (c : Nat) : c + 1 ≤ (f c).2 := by
  cases b with
  | false => cases h
  | true =>
    simp only [gB, Option.map_eq_some_iff] at h
    obtain ⟨to, _, rfl⟩ := h
    exact pT_ge _ (fun t f h => by cases h) to c
theorem gB_le (w : ByteArray × Int → Option Tm) (b : Bool) (t : Tm) (f : Nat → Tm × Nat) (h : gB w b t = some f) (c : Nat) (hc : c ≤ 2000) : (f c).2 ≤ 2001 := by
  cases b with
  | false => cases h
  | true =>
    simp only [gB, Option.map_eq_some_iff] at h
    obtain ⟨to, _, rfl⟩ := h
    exact pT_le _ (fun t f h => by cases h) to c hc
@[go_sem ↓ high] theorem wF_olt (w : ByteArray × Int → Option Tm) (n : Nat) : (AObj.mp 3 (wF w)).lt n = True := eq_true (by
  simp only [AObj.lt]
  exact fun k v h => of_eq_true (wF_lt w n) k v h)
@[go_sem ↓ high] theorem wF_oren (w : ByteArray × Int → Option Tm) (r : Nat → Nat) : (AObj.mp 3 (wF w)).ren r = .mp 3 (wF w) := by simp only [AObj.ren, wF_ren]
@[go_sem] abbrev HW (b : Bool) (c : Nat) (w : ByteArray × Int → Option Tm) : AHeap := [.box [if b = true then .mp 1 else .pv .nilm, .pv (.int .i64 (c : Int))], .mp 3 (wF w)]
@[go_sem] abbrev HL (b : Bool) (c : Nat) (w : ByteArray × Int → Option Tm) (t : Tm) (xs : List Tm) : AHeap := [.box [if b = true then .mp 1 else .pv .nilm, .pv (.int .i64 (c : Int))], .mp 3 (wF w), .box [.pv (.int .i64 t.op), .pv (.str t.name), .pv (.int .i64 t.n), .osl 4 xs.length], .box [.pv (.int .i64 0), .pv (.str ⟨#[]⟩), .pv (.int .i64 0), .nils], .arr 27 4 (xs.map Tm.cells)]
@[go_sem] abbrev HT (b : Bool) (c : Nat) (w : ByteArray × Int → Option Tm) (t : Tm) (xs : List Tm) (x x' : Tm) : AHeap := [.box [if b = true then .mp 1 else .pv .nilm, .pv (.int .i64 (c : Int))], .mp 3 (wF w), .box [.pv (.int .i64 t.op), .pv (.str t.name), .pv (.int .i64 t.n), .osl 4 xs.length], .box [.pv (.int .i64 0), .pv (.str ⟨#[]⟩), .pv (.int .i64 0), .nils], .arr 27 4 (xs.map Tm.cells), .box [.pv (.int .i64 x.op), .pv (.str x.name), .pv (.int .i64 x.n), .pv (.sl (x.a.map Tm.cells))], .arr 27 4 [x'.cells]]
theorem ite_lt (b : Bool) (n : Nat) : (if b = true then AV.mp 1 else AV.pv .nilm).lt (n + 2) = True := by cases b <;> simp [AV.lt]
theorem ite_ren (b : Bool) (r : Nat → Nat) : (if b = true then AV.mp 1 else AV.pv .nilm).ren r = if b = true then .mp (r 1) else .pv .nilm := by cases b <;> rfl
@[go_sem] abbrev HX (b : Bool) (c : Nat) (w : ByteArray × Int → Option Tm) (t : Tm) (xs : List Tm) (x : Tm) : AHeap := [.box [if b = true then .mp 1 else .pv .nilm, .pv (.int .i64 (c : Int))], .mp 3 (wF w), .box [.pv (.int .i64 t.op), .pv (.str t.name), .pv (.int .i64 t.n), .osl 4 xs.length], .box [.pv (.int .i64 0), .pv (.str ⟨#[]⟩), .pv (.int .i64 0), .nils], .arr 27 4 (xs.map Tm.cells), .box [.pv (.int .i64 x.op), .pv (.str x.name), .pv (.int .i64 x.n), .pv (.sl (x.a.map Tm.cells))]]
def I16 (b : Bool) (c' c2 : Nat) (w : ByteArray × Int → Option Tm) (t : Tm) (xs : List Tm) (x x' : Tm) (i : Nat) (L : List Nat) (e : AEnv) (h : AHeap) : Prop :=
  e 0 = .ptr 0 0 ∧ e 4 = .ptr 3 0 ∧ e 10 = .ptr 2 0 ∧ e 61 = .pv (.sl (t.a.map Tm.cells)) ∧ e 62 = .pv (.int .i64 (t.a.length : Int)) ∧ e 63 = .pv (.int .i64 (i : Int)) ∧ e 12 = .ptr 5 0 ∧
  (0 ∈ L → e 72 = .ptr 2 3) ∧ (1 ∈ L → e 73 = .osl 4 xs.length) ∧ (2 ∈ L → e 74 = .ptr 0 0) ∧ (3 ∈ L → e 75 = .pv x.pv) ∧ (4 ∈ L → e 76 = .pv x'.pv) ∧ (5 ∈ L → e 77 = .osl 6 1) ∧
  ((4 ∉ L ∧ 5 ∉ L ∧ h = HX b c' w t xs x) ∨ (4 ∈ L ∧ 5 ∉ L ∧ h = HX b c2 w t xs x) ∨ (4 ∈ L ∧ 5 ∈ L ∧ h = HT b c2 w t xs x x'))
def E45 (t : Tm) (i : Nat) : AEnv := (((((E0.put 0 (.ptr 0 0)).put 4 (.ptr 3 0)).put 10 (.ptr 2 0)).put 61 (.pv (.sl (t.a.map Tm.cells)))).put 62 (.pv (.int .i64 (t.a.length : Int)))).put 63 (.pv (.int .i64 (i : Int)))
def J45 (b : Bool) (w : ByteArray × Int → Option Tm) (t : Tm) (res : Tm × Nat) (i : Nat) (e : AEnv) (h : AHeap) : Prop :=
  ∃ xs c', res = (.mk t.op t.name t.n (xs ++ (pL (gB w b) (t.a.drop i) c').1), (pL (gB w b) (t.a.drop i) c').2) ∧ c' ≤ 2001 ∧ i ≤ t.a.length ∧ xs.length ≤ c' ∧ e = E45 t i ∧ h = HL b c' w t xs
def PutS (b : Bool) (w : ByteArray × Int → Option Tm) (t : Tm) (c : Nat) : Prop := RefK Tryd.prog 45 [.ptr 0 0, .pv t.pv] (HW b c w)
  (fun r hs => r = .ret (.pv (pT (gB w b) t c).1.pv) ∧ hs = HW b (pT (gB w b) t c).2 w)
set_option maxHeartbeats 2000000 in
theorem put_ref (b : Bool) (w : ByteArray × Int → Option Tm) (hsub : b = true → ∀ t c, c ≤ 2000 → PutS false w t c) : ∀ (k : Nat) (t : Tm) (c : Nat), t.depth ≤ k → c ≤ 2000 → PutS b w t c
  | 0, t, c, hk, _ => by rw [Tm.depth_eq] at hk; omega
  | k + 1, t, c, hk, hc => by
    unfold PutS
    refine RefK.fit (ent_of Tryd.func45 rfl (by rfl)) fun hfit => ?_
    have hlen : t.a.length ≤ 140737488355328 := by
      have := hfit
      simp only [fitAL, fitA, Tm.pv, Tm.cells_eq, fitP, fitL, List.length_map] at this
      simp only [this]
    clear hfit
    refine refZ_of Tryd.func45 rfl (by rfl) Tryd.ntmps45 Tryd.results45 (by simp) rfl ?_
    have hp := pT_eq (gB w b) t c
    generalize pT (gB w b) t c = res at hp ⊢
    have hK : ∀ K : CR → AHeap → Prop, (fun r hs => r = .ret (.pv res.1.pv) ∧ hs = HW b res.2 w) = K → K (.ret (.pv res.1.pv)) (HW b res.2 w) := fun K h => by subst h; exact ⟨rfl, rfl⟩
    generalize hKe : (fun r hs => r = CR.ret (.pv res.1.pv) ∧ hs = HW b res.2 w) = K
    replace hK := hK K hKe
    clear hKe
    refine vz_assoc (vz_assoc (vz_assoc (vz_assoc (vz_assoc ?_))))
    rw [vz_seq]
    refine vz_assoc (vz_cut (fun e h => WkP 2 e h (J45 b w t res 0)) ?_ ?_)
    · simp only [go_sem, List.range', reduceIte, Nat.reduceLT, Nat.reduceAdd, Nat.reduceSub, Nat.reduceMul, Nat.reduceEqDiff, reduceCtorEq, Nat.reduceLeDiff, Int.reduceLT, Int.reduceLE, Int.reduceEq, Int.reduceAdd, Int.reduceToNat, Int.reduceNeg, Int.reduceNegSucc, ↓vz_seq]
      refine brB_decN (fun h1 => ?_) (fun h1 => ?_)
      · simp only [go_sem, List.range', reduceIte, Nat.reduceLT, Nat.reduceAdd, Nat.reduceSub, Nat.reduceMul, Nat.reduceEqDiff, reduceCtorEq, Nat.reduceLeDiff, Int.reduceLT, Int.reduceLE, Int.reduceEq, Int.reduceAdd, Int.reduceToNat, Int.reduceNeg, Int.reduceNegSucc, ↓vz_seq]
        refine Pure.call (Sort_pure t) (by first | (simp only [go_sem, List.range', reduceIte, Nat.reduceLT, Nat.reduceAdd, Nat.reduceSub, Nat.reduceMul, Nat.reduceEqDiff, reduceCtorEq, Nat.reduceLeDiff, Int.reduceLT, Int.reduceLE, Int.reduceEq, Int.reduceAdd, Int.reduceToNat, Int.reduceNeg, Int.reduceNegSucc, ↓vz_seq]; done) | (simp only [go_sem, List.range', reduceIte, Nat.reduceLT, Nat.reduceAdd, Nat.reduceSub, Nat.reduceMul, Nat.reduceEqDiff, reduceCtorEq, Nat.reduceLeDiff, Int.reduceLT, Int.reduceLE, Int.reduceEq, Int.reduceAdd, Int.reduceToNat, Int.reduceNeg, Int.reduceNegSucc, ↓vz_seq]; rfl)) ?_
        simp only [go_sem, List.range', reduceIte, Nat.reduceLT, Nat.reduceAdd, Nat.reduceSub, Nat.reduceMul, Nat.reduceEqDiff, reduceCtorEq, Nat.reduceLeDiff, Int.reduceLT, Int.reduceLE, Int.reduceEq, Int.reduceAdd, Int.reduceToNat, Int.reduceNeg, Int.reduceNegSucc, ↓vz_seq]
        refine vz_draw 14 mixed (by kernel_rfl) ?_
        cases b with
        | false =>
          have hgn : gB w false t = none := rfl
          rw [hgn] at hp
          simp only [go_sem, List.range', reduceIte, Nat.reduceLT, Nat.reduceAdd, Nat.reduceSub, Nat.reduceMul, Nat.reduceEqDiff, reduceCtorEq, Nat.reduceLeDiff, Int.reduceLT, Int.reduceLE, Int.reduceEq, Int.reduceAdd, Int.reduceToNat, Int.reduceNeg, Int.reduceNegSucc, ↓vz_seq, Bool.false_eq_true]
          rw [wrap_i64 (by omega)]
          refine ⟨_, _, Wk.trans (Wk.hwk (HWk.nil (i := 5) (j := 3) 27 4 rfl rfl)) (Wk.perm (e' := E45 t 0) (H := HL false (c + 1) w t []) [0, 1, 5, 3, 6] (by simp) rfl (by simp only [go_sem, List.range', reduceIte, Nat.reduceLT, Nat.reduceAdd, Nat.reduceSub, Nat.reduceMul, Nat.reduceEqDiff, reduceCtorEq, Nat.reduceLeDiff, Int.reduceLT, Int.reduceLE, Int.reduceEq, Int.reduceAdd, Int.reduceToNat, Int.reduceNeg, Int.reduceNegSucc, ↓vz_seq, okH, AObj.lt, AV.lt, AV.ltL, Bool.false_eq_true, List.set_cons_succ, List.set_cons_zero, List.length_nil, List.map_nil]; simp) ?_), [], c + 1, hp, by omega, Nat.zero_le _, Nat.zero_le _, rfl, rfl⟩
          unfold E45
          repeat (first | exact okE_E0 | refine okE_put (by first | trivial | (simp [AV.lt, AV.ltL]; done)) (by first | (simp only [go_sem, List.range', reduceIte, Nat.reduceLT, Nat.reduceAdd, Nat.reduceSub, Nat.reduceMul, Nat.reduceEqDiff, reduceCtorEq, Nat.reduceLeDiff, Int.reduceLT, Int.reduceLE, Int.reduceEq, Int.reduceAdd, Int.reduceToNat, Int.reduceNeg, Int.reduceNegSucc, ↓vz_seq]; done) | (simp only [go_sem, List.range', reduceIte, Nat.reduceLT, Nat.reduceAdd, Nat.reduceSub, Nat.reduceMul, Nat.reduceEqDiff, reduceCtorEq, Nat.reduceLeDiff, Int.reduceLT, Int.reduceLE, Int.reduceEq, Int.reduceAdd, Int.reduceToNat, Int.reduceNeg, Int.reduceNegSucc, ↓vz_seq]; rfl)) ?_)
        | true =>
          have hlk : lk w t = w (t.name, (sortT t).1) := by rw [lk, if_neg h1]
          cases hwt : w (t.name, (sortT t).1) with
          | none =>
            have hgn : gB w true t = none := by rw [gB, hlk, hwt]; rfl
            have hwf : wF w (.si t.name (sortT t).1) = none := by simp only [wF, hwt, Option.map_none]
            rw [hgn] at hp
            simp only [go_sem, List.range', reduceIte, Nat.reduceLT, Nat.reduceAdd, Nat.reduceSub, Nat.reduceMul, Nat.reduceEqDiff, reduceCtorEq, Nat.reduceLeDiff, Int.reduceLT, Int.reduceLE, Int.reduceEq, Int.reduceAdd, Int.reduceToNat, Int.reduceNeg, Int.reduceNegSucc, ↓vz_seq, Bool.false_eq_true, hwf]
            rw [wrap_i64 (by omega)]
            refine ⟨_, _, Wk.trans (Wk.hwk (HWk.nil (i := 5) (j := 3) 27 4 rfl rfl)) (Wk.perm (e' := E45 t 0) (H := HL true (c + 1) w t []) [0, 1, 5, 3, 6] (by simp) rfl (by simp only [go_sem, List.range', reduceIte, Nat.reduceLT, Nat.reduceAdd, Nat.reduceSub, Nat.reduceMul, Nat.reduceEqDiff, reduceCtorEq, Nat.reduceLeDiff, Int.reduceLT, Int.reduceLE, Int.reduceEq, Int.reduceAdd, Int.reduceToNat, Int.reduceNeg, Int.reduceNegSucc, ↓vz_seq, okH, AObj.lt, AV.lt, AV.ltL, Bool.false_eq_true, List.set_cons_succ, List.set_cons_zero, List.length_nil, List.map_nil]; simp) ?_), [], c + 1, hp, by omega, Nat.zero_le _, Nat.zero_le _, rfl, rfl⟩
            unfold E45
            repeat (first | exact okE_E0 | refine okE_put (by first | trivial | (simp [AV.lt, AV.ltL]; done)) (by first | (simp only [go_sem, List.range', reduceIte, Nat.reduceLT, Nat.reduceAdd, Nat.reduceSub, Nat.reduceMul, Nat.reduceEqDiff, reduceCtorEq, Nat.reduceLeDiff, Int.reduceLT, Int.reduceLE, Int.reduceEq, Int.reduceAdd, Int.reduceToNat, Int.reduceNeg, Int.reduceNegSucc, ↓vz_seq]; done) | (simp only [go_sem, List.range', reduceIte, Nat.reduceLT, Nat.reduceAdd, Nat.reduceSub, Nat.reduceMul, Nat.reduceEqDiff, reduceCtorEq, Nat.reduceLeDiff, Int.reduceLT, Int.reduceLE, Int.reduceEq, Int.reduceAdd, Int.reduceToNat, Int.reduceNeg, Int.reduceNegSucc, ↓vz_seq]; rfl)) ?_)
          | some to =>
            have hgn : gB w true t = some (pT (fun _ => none) to) := by rw [gB, hlk, hwt]; rfl
            have hwf : wF w (.si t.name (sortT t).1) = some (.pv to.pv) := by simp only [wF, hwt, Option.map_some]
            rw [hgn] at hp
            simp only [go_sem, List.range', reduceIte, Nat.reduceLT, Nat.reduceAdd, Nat.reduceSub, Nat.reduceMul, Nat.reduceEqDiff, reduceCtorEq, Nat.reduceLeDiff, Int.reduceLT, Int.reduceLE, Int.reduceEq, Int.reduceAdd, Int.reduceToNat, Int.reduceNeg, Int.reduceNegSucc, ↓vz_seq, Bool.false_eq_true, hwf]
            refine RefK.callH (hsub rfl to c hc) [5, 1] (by simp) (by simp only [go_sem, List.range', reduceIte, Nat.reduceLT, Nat.reduceAdd, Nat.reduceSub, Nat.reduceMul, Nat.reduceEqDiff, reduceCtorEq, Nat.reduceLeDiff, Int.reduceLT, Int.reduceLE, Int.reduceEq, Int.reduceAdd, Int.reduceToNat, Int.reduceNeg, Int.reduceNegSucc, ↓vz_seq, okH, AObj.lt, AV.lt, AV.ltL, Bool.false_eq_true]) (by simp [CR.lt, oltL, AObj.lt, AV.lt, AV.ltL]) (by first | (simp only [go_sem, List.range', reduceIte, Nat.reduceLT, Nat.reduceAdd, Nat.reduceSub, Nat.reduceMul, Nat.reduceEqDiff, reduceCtorEq, Nat.reduceLeDiff, Int.reduceLT, Int.reduceLE, Int.reduceEq, Int.reduceAdd, Int.reduceToNat, Int.reduceNeg, Int.reduceNegSucc, ↓vz_seq]; done) | (simp only [go_sem, List.range', reduceIte, Nat.reduceLT, Nat.reduceAdd, Nat.reduceSub, Nat.reduceMul, Nat.reduceEqDiff, reduceCtorEq, Nat.reduceLeDiff, Int.reduceLT, Int.reduceLE, Int.reduceEq, Int.reduceAdd, Int.reduceToNat, Int.reduceNeg, Int.reduceNegSucc, ↓vz_seq]; rfl)) ?_
            rintro r hs ⟨rfl, rfl⟩
            refine ⟨(by simp only [go_sem, List.range', reduceIte, Nat.reduceLT, Nat.reduceAdd, Nat.reduceSub, Nat.reduceMul, Nat.reduceEqDiff, reduceCtorEq, Nat.reduceLeDiff, Int.reduceLT, Int.reduceLE, Int.reduceEq, Int.reduceAdd, Int.reduceToNat, Int.reduceNeg, Int.reduceNegSucc, ↓vz_seq, CR.lt, oltL, AObj.lt, AV.lt, AV.ltL, Bool.false_eq_true]), (by simp only [go_sem, List.range', reduceIte, Nat.reduceLT, Nat.reduceAdd, Nat.reduceSub, Nat.reduceMul, Nat.reduceEqDiff, reduceCtorEq, Nat.reduceLeDiff, Int.reduceLT, Int.reduceLE, Int.reduceEq, Int.reduceAdd, Int.reduceToNat, Int.reduceNeg, Int.reduceNegSucc, ↓vz_seq, CR.lt, oltL, AObj.lt, AV.lt, AV.ltL, Bool.false_eq_true]), ?_⟩
            have hgf : gB w false = fun _ => none := rfl
            rw [hgf]
            simp only [go_sem, List.range', reduceIte, Nat.reduceLT, Nat.reduceAdd, Nat.reduceSub, Nat.reduceMul, Nat.reduceEqDiff, reduceCtorEq, Nat.reduceLeDiff, Int.reduceLT, Int.reduceLE, Int.reduceEq, Int.reduceAdd, Int.reduceToNat, Int.reduceNeg, Int.reduceNegSucc, ↓vz_seq, Bool.false_eq_true]
            rw [wF_ren]
            rw [hp] at hK
            simp only [Tm.pv, Tm.cells_eq] at hK
            exact hK
      · have hgn : gB w b t = none := by cases b <;> simp [gB, lk, h1]
        rw [hgn] at hp
        simp only [go_sem, List.range', reduceIte, Nat.reduceLT, Nat.reduceAdd, Nat.reduceSub, Nat.reduceMul, Nat.reduceEqDiff, reduceCtorEq, Nat.reduceLeDiff, Int.reduceLT, Int.reduceLE, Int.reduceEq, Int.reduceAdd, Int.reduceToNat, Int.reduceNeg, Int.reduceNegSucc, ↓vz_seq]
        rw [wrap_i64 (by omega)]
        refine ⟨_, _, Wk.trans (Wk.hwk (HWk.nil (i := 4) (j := 3) 27 4 rfl rfl)) (Wk.perm (e' := E45 t 0) (H := HL b (c + 1) w t []) [0, 1, 4, 3, 5] (by simp) rfl (by cases b <;> (simp only [go_sem, List.range', reduceIte, Nat.reduceLT, Nat.reduceAdd, Nat.reduceSub, Nat.reduceMul, Nat.reduceEqDiff, reduceCtorEq, Nat.reduceLeDiff, Int.reduceLT, Int.reduceLE, Int.reduceEq, Int.reduceAdd, Int.reduceToNat, Int.reduceNeg, Int.reduceNegSucc, ↓vz_seq, okH, AObj.lt, AV.lt, AV.ltL, Bool.false_eq_true, List.set_cons_succ, List.set_cons_zero, List.length_nil, List.map_nil]; simp)) ?_), [], c + 1, hp, by omega, Nat.zero_le _, Nat.zero_le _, rfl, rfl⟩
        unfold E45
        repeat (first | exact okE_E0 | refine okE_put (by first | trivial | (simp [AV.lt, AV.ltL]; done)) (by first | (simp only [go_sem, List.range', reduceIte, Nat.reduceLT, Nat.reduceAdd, Nat.reduceSub, Nat.reduceMul, Nat.reduceEqDiff, reduceCtorEq, Nat.reduceLeDiff, Int.reduceLT, Int.reduceLE, Int.reduceEq, Int.reduceAdd, Int.reduceToNat, Int.reduceNeg, Int.reduceNegSucc, ↓vz_seq]; done) | (simp only [go_sem, List.range', reduceIte, Nat.reduceLT, Nat.reduceAdd, Nat.reduceSub, Nat.reduceMul, Nat.reduceEqDiff, reduceCtorEq, Nat.reduceLeDiff, Int.reduceLT, Int.reduceLE, Int.reduceEq, Int.reduceAdd, Int.reduceToNat, Int.reduceNeg, Int.reduceNegSucc, ↓vz_seq]; rfl)) ?_)
    · rintro e h hw
      simp only [go_sem, List.range', reduceIte, Nat.reduceLT, Nat.reduceAdd, Nat.reduceSub, Nat.reduceMul, Nat.reduceEqDiff, reduceCtorEq, Nat.reduceLeDiff, Int.reduceLT, Int.reduceLE, Int.reduceEq, Int.reduceAdd, Int.reduceToNat, Int.reduceNeg, Int.reduceNegSucc, ↓vz_seq]
      refine vz_loop (fun i => t.a.length - i) (J45 b w t res) 0 hw ?_
      rintro i _ _ ⟨xs, c', hr, hc', hi, hxi, rfl, rfl⟩
      simp only [go_sem, List.range', reduceIte, Nat.reduceLT, Nat.reduceAdd, Nat.reduceSub, Nat.reduceMul, Nat.reduceEqDiff, reduceCtorEq, Nat.reduceLeDiff, Int.reduceLT, Int.reduceLE, Int.reduceEq, Int.reduceAdd, Int.reduceToNat, Int.reduceNeg, Int.reduceNegSucc, ↓vz_seq, E45]
      refine brB_dec (fun hlt => ?_) (fun hge => ?_)
      · have hlt' : i < t.a.length := by omega
        have hx : t.a[i]? = some t.a[i] := List.getElem?_eq_getElem hlt'
        simp only [go_sem, List.range', reduceIte, Nat.reduceLT, Nat.reduceAdd, Nat.reduceSub, Nat.reduceMul, Nat.reduceEqDiff, reduceCtorEq, Nat.reduceLeDiff, Int.reduceLT, Int.reduceLE, Int.reduceEq, Int.reduceAdd, Int.reduceToNat, Int.reduceNeg, Int.reduceNegSucc, ↓vz_seq, hx, hlt, Int.natCast_nonneg, Tm.cells_eq]
        refine brB_dec (fun hgt => ?_) (fun hle => ?_)
        · rw [List.drop_eq_getElem_cons hlt', pL, if_pos (by omega), List.append_nil] at hr
          simp only [go_sem, List.range', reduceIte, Nat.reduceLT, Nat.reduceAdd, Nat.reduceSub, Nat.reduceMul, Nat.reduceEqDiff, reduceCtorEq, Nat.reduceLeDiff, Int.reduceLT, Int.reduceLE, Int.reduceEq, Int.reduceAdd, Int.reduceToNat, Int.reduceNeg, Int.reduceNegSucc, ↓vz_seq, Nat.le_refl, List.length_map, List.take_of_length_le, PV.scalar, List.all_cons, List.all_nil, Bool.and_true]
          rw [hr] at hK
          exact hK
        · rw [List.drop_eq_getElem_cons hlt', pL, if_neg (by omega)] at hr
          have hcall := put_ref b w hsub k t.a[i] c' (by have := Tm.depth_lt (List.getElem_mem hlt'); omega) (by omega)
          have hc2 : (pT (gB w b) t.a[i] c').2 ≤ 2001 := pT_le _ (gB_le w b) t.a[i] c' (by omega)
          have hc3 : c' + 1 ≤ (pT (gB w b) t.a[i] c').2 := pT_ge _ (gB_ge w b) t.a[i] c'
          unfold PutS at hcall
          obtain ⟨x', c2, hxc⟩ : ∃ x' c2, pT (gB w b) t.a[i] c' = (x', c2) := ⟨_, _, rfl⟩
          rw [hxc] at hcall hr hc2 hc3
          simp only at hcall hr hc2 hc3
          have hb1 : ((xs.length + 1) * 56 ≤ 140737488355328) = True := eq_true (by omega)
          have hb2 : (xs.length + 1 ≤ 140737488355328) = True := eq_true (by omega)
          simp only [go_sem, List.range', reduceIte, Nat.reduceLT, Nat.reduceAdd, Nat.reduceSub, Nat.reduceMul, Nat.reduceEqDiff, reduceCtorEq, Nat.reduceLeDiff, Int.reduceLT, Int.reduceLE, Int.reduceEq, Int.reduceAdd, Int.reduceToNat, Int.reduceNeg, Int.reduceNegSucc, ↓vz_seq]
          refine vz_dag 6 [[], [0], [], [], [2, 3], [4]] mixed (by kernel_rfl) (I16 b c' c2 w t xs t.a[i] x' i) ?_ ?_ ?_
          · refine ⟨rfl, rfl, rfl, rfl, ?_, rfl, rfl, by simp, by simp, by simp, by simp, by simp, by simp, .inl ⟨by simp, by simp, rfl⟩⟩
            simp only [go_sem, List.range', reduceIte, Nat.reduceLT, Nat.reduceAdd, Nat.reduceSub, Nat.reduceMul, Nat.reduceEqDiff, reduceCtorEq, Nat.reduceLeDiff, Int.reduceLT, Int.reduceLE, Int.reduceEq, Int.reduceAdd, Int.reduceToNat, Int.reduceNeg, Int.reduceNegSucc, ↓vz_seq]
          · intro j hj L e h hjL hdL hI
            clear hr hK hp hw
            obtain ⟨e0, e4, e10, e61, e62, e63, e12, f0, f1, f2, f3, f4, f5, hh⟩ := hI
            match j, hj with
            | 0, _ =>
              refine ⟨_, rfl, ?_⟩
              rcases hh with ⟨q1, q2, rfl⟩ | ⟨q1, q2, rfl⟩ | ⟨q1, q2, rfl⟩
              all_goals
                simp only [go_sem, List.range', reduceIte, Nat.reduceLT, Nat.reduceAdd, Nat.reduceSub, Nat.reduceMul, Nat.reduceEqDiff, reduceCtorEq, Nat.reduceLeDiff, Int.reduceLT, Int.reduceLE, Int.reduceEq, Int.reduceAdd, Int.reduceToNat, Int.reduceNeg, Int.reduceNegSucc, ↓vz_seq, e0, e4, e10, e12]
                refine ⟨e0, e4, e10, e61, e62, e63, e12, ?_, ?_, ?_, ?_, ?_, ?_, ?_⟩
                all_goals simp_all [AEnv.put]
            | 1, _ =>
              have g0 := f0 (hdL 0 (by simp))
              refine ⟨_, rfl, ?_⟩
              rcases hh with ⟨q1, q2, rfl⟩ | ⟨q1, q2, rfl⟩ | ⟨q1, q2, rfl⟩
              all_goals
                simp only [go_sem, List.range', reduceIte, Nat.reduceLT, Nat.reduceAdd, Nat.reduceSub, Nat.reduceMul, Nat.reduceEqDiff, reduceCtorEq, Nat.reduceLeDiff, Int.reduceLT, Int.reduceLE, Int.reduceEq, Int.reduceAdd, Int.reduceToNat, Int.reduceNeg, Int.reduceNegSucc, ↓vz_seq, e0, e4, e10, e12, g0]
                refine ⟨e0, e4, e10, e61, e62, e63, e12, ?_, ?_, ?_, ?_, ?_, ?_, ?_⟩
                all_goals simp_all [AEnv.put, Tm.pv, Tm.cells_eq]
            | 2, _ =>
              refine ⟨_, rfl, ?_⟩
              rcases hh with ⟨q1, q2, rfl⟩ | ⟨q1, q2, rfl⟩ | ⟨q1, q2, rfl⟩
              all_goals
                simp only [go_sem, List.range', reduceIte, Nat.reduceLT, Nat.reduceAdd, Nat.reduceSub, Nat.reduceMul, Nat.reduceEqDiff, reduceCtorEq, Nat.reduceLeDiff, Int.reduceLT, Int.reduceLE, Int.reduceEq, Int.reduceAdd, Int.reduceToNat, Int.reduceNeg, Int.reduceNegSucc, ↓vz_seq, e0]
                refine ⟨e0, e4, e10, e61, e62, e63, e12, ?_, ?_, ?_, ?_, ?_, ?_, ?_⟩
                all_goals simp_all [AEnv.put, Tm.pv, Tm.cells_eq]
            | 3, _ =>
              refine ⟨_, rfl, ?_⟩
              rcases hh with ⟨q1, q2, rfl⟩ | ⟨q1, q2, rfl⟩ | ⟨q1, q2, rfl⟩
              all_goals
                simp only [go_sem, List.range', reduceIte, Nat.reduceLT, Nat.reduceAdd, Nat.reduceSub, Nat.reduceMul, Nat.reduceEqDiff, reduceCtorEq, Nat.reduceLeDiff, Int.reduceLT, Int.reduceLE, Int.reduceEq, Int.reduceAdd, Int.reduceToNat, Int.reduceNeg, Int.reduceNegSucc, ↓vz_seq, e12]
                refine ⟨e0, e4, e10, e61, e62, e63, e12, ?_, ?_, ?_, ?_, ?_, ?_, ?_⟩
                all_goals simp_all [AEnv.put, Tm.pv, Tm.cells_eq]
            | 4, _ =>
              have g2 := f2 (hdL 2 (by simp))
              have g3 := f3 (hdL 3 (by simp))
              refine ⟨_, rfl, ?_⟩
              rcases hh with ⟨q1, q2, rfl⟩ | ⟨q1, q2, rfl⟩ | ⟨q1, q2, rfl⟩
              · simp only [go_sem, List.range', reduceIte, Nat.reduceLT, Nat.reduceAdd, Nat.reduceSub, Nat.reduceMul, Nat.reduceEqDiff, reduceCtorEq, Nat.reduceLeDiff, Int.reduceLT, Int.reduceLE, Int.reduceEq, Int.reduceAdd, Int.reduceToNat, Int.reduceNeg, Int.reduceNegSucc, ↓vz_seq, g2, g3]
                refine RefK.callH hcall [0, 1] (by simp) (by simp only [go_sem, List.range', reduceIte, Nat.reduceLT, Nat.reduceAdd, Nat.reduceSub, Nat.reduceMul, Nat.reduceEqDiff, reduceCtorEq, Nat.reduceLeDiff, Int.reduceLT, Int.reduceLE, Int.reduceEq, Int.reduceAdd, Int.reduceToNat, Int.reduceNeg, Int.reduceNegSucc, ↓vz_seq, okH, AObj.lt, AV.lt, AV.ltL, ite_lt, ite_ren]) (by simp [CR.lt, oltL, AObj.lt, AV.lt, AV.ltL]) (by first | (simp only [go_sem, List.range', reduceIte, Nat.reduceLT, Nat.reduceAdd, Nat.reduceSub, Nat.reduceMul, Nat.reduceEqDiff, reduceCtorEq, Nat.reduceLeDiff, Int.reduceLT, Int.reduceLE, Int.reduceEq, Int.reduceAdd, Int.reduceToNat, Int.reduceNeg, Int.reduceNegSucc, ↓vz_seq]; done) | (simp only [go_sem, List.range', reduceIte, Nat.reduceLT, Nat.reduceAdd, Nat.reduceSub, Nat.reduceMul, Nat.reduceEqDiff, reduceCtorEq, Nat.reduceLeDiff, Int.reduceLT, Int.reduceLE, Int.reduceEq, Int.reduceAdd, Int.reduceToNat, Int.reduceNeg, Int.reduceNegSucc, ↓vz_seq]; rfl)) ?_
                rintro r hs ⟨rfl, rfl⟩
                refine ⟨(by simp only [go_sem, List.range', reduceIte, Nat.reduceLT, Nat.reduceAdd, Nat.reduceSub, Nat.reduceMul, Nat.reduceEqDiff, reduceCtorEq, Nat.reduceLeDiff, Int.reduceLT, Int.reduceLE, Int.reduceEq, Int.reduceAdd, Int.reduceToNat, Int.reduceNeg, Int.reduceNegSucc, ↓vz_seq, CR.lt, oltL, AObj.lt, AV.lt, AV.ltL, ite_lt]), (by simp only [go_sem, List.range', reduceIte, Nat.reduceLT, Nat.reduceAdd, Nat.reduceSub, Nat.reduceMul, Nat.reduceEqDiff, reduceCtorEq, Nat.reduceLeDiff, Int.reduceLT, Int.reduceLE, Int.reduceEq, Int.reduceAdd, Int.reduceToNat, Int.reduceNeg, Int.reduceNegSucc, ↓vz_seq, CR.lt, oltL, AObj.lt, AV.lt, AV.ltL, ite_lt]), ?_⟩
                simp only [go_sem, List.range', reduceIte, Nat.reduceLT, Nat.reduceAdd, Nat.reduceSub, Nat.reduceMul, Nat.reduceEqDiff, reduceCtorEq, Nat.reduceLeDiff, Int.reduceLT, Int.reduceLE, Int.reduceEq, Int.reduceAdd, Int.reduceToNat, Int.reduceNeg, Int.reduceNegSucc, ↓vz_seq, wF_ren, ite_ren]
                refine ⟨e0, e4, e10, e61, e62, e63, e12, ?_, ?_, ?_, ?_, ?_, ?_, ?_⟩
                all_goals simp_all [AEnv.put, Tm.pv]
              · exact absurd q1 hjL
              · exact absurd q1 hjL
            | 5, _ =>
              have g4 := f4 (hdL 4 (by simp))
              refine ⟨_, rfl, ?_⟩
              rcases hh with ⟨q1, q2, rfl⟩ | ⟨q1, q2, rfl⟩ | ⟨q1, q2, rfl⟩
              · exact absurd (hdL 4 (by simp)) q1
              · simp only [go_sem, List.range', reduceIte, Nat.reduceLT, Nat.reduceAdd, Nat.reduceSub, Nat.reduceMul, Nat.reduceEqDiff, reduceCtorEq, Nat.reduceLeDiff, Int.reduceLT, Int.reduceLE, Int.reduceEq, Int.reduceAdd, Int.reduceToNat, Int.reduceNeg, Int.reduceNegSucc, ↓vz_seq, g4, Tm.pv]
                refine ⟨e0, e4, e10, e61, e62, e63, e12, ?_, ?_, ?_, ?_, ?_, ?_, ?_⟩
                all_goals first
                  | (simp_all [AEnv.put]; done)
                  | (simp_all [AEnv.put]; exact (Tm.cells_eq x').symm)
              · exact absurd q2 hjL
          · intro L e h hL hI
            obtain ⟨e0, e4, e10, e61, e62, e63, e12, f0, f1, f2, f3, f4, f5, hh⟩ := hI
            have g0 := f0 (hL 0 (by decide))
            have g1 := f1 (hL 1 (by decide))
            have g5 := f5 (hL 5 (by decide))
            have hh' : h = HT b c2 w t xs t.a[i] x' := by
              rcases hh with ⟨q1, q2, rfl⟩ | ⟨q1, q2, rfl⟩ | ⟨q1, q2, rfl⟩
              · exact absurd (hL 4 (by decide)) q1
              · exact absurd (hL 5 (by decide)) q2
              · rfl
            subst hh'
            clear hh f0 f1 f2 f3 f4 f5
            simp only [List.drop_succ_cons, List.drop_zero]
            have hb3 : (xs.length ≤ 140737488355327) = True := eq_true (by omega)
            have hcl : (x'.cells.length == 4) = true := by rw [Tm.cells_eq]; rfl
            simp only [go_sem, List.range', reduceIte, Nat.reduceLT, Nat.reduceAdd, Nat.reduceSub, Nat.reduceMul, Nat.reduceEqDiff, reduceCtorEq, Nat.reduceLeDiff, Int.reduceLT, Int.reduceLE, Int.reduceEq, Int.reduceAdd, Int.reduceToNat, Int.reduceNeg, Int.reduceNegSucc, ↓vz_seq, e0, e4, e10, e61, e62, e63, g0, g1, g5, hb1, hb3, hcl]
            rw [wrap_i64 (by omega)]
            refine ⟨i + 1, by omega, E45 t (i + 1), HL b c2 w t (xs ++ [x']), Wk.perm [0, 1, 2, 3, 7] (by simp) rfl (by simp only [go_sem, List.range', reduceIte, Nat.reduceLT, Nat.reduceAdd, Nat.reduceSub, Nat.reduceMul, Nat.reduceEqDiff, reduceCtorEq, Nat.reduceLeDiff, Int.reduceLT, Int.reduceLE, Int.reduceEq, Int.reduceAdd, Int.reduceToNat, Int.reduceNeg, Int.reduceNegSucc, ↓vz_seq, okH, AObj.lt, AV.lt, AV.ltL, ite_lt, ite_ren, List.length_append, List.length_cons, List.length_nil, List.map_append, List.map_cons, List.map_nil]) ?_, xs ++ [x'], c2, by rw [hr]; simp, hc2, hlt', by simp; omega, rfl, rfl⟩
            unfold E45
            repeat (first | exact okE_E0 | refine okE_put (by first | trivial | (simp [AV.lt, AV.ltL]; done)) (by first | (simp only [go_sem, List.range', reduceIte, Nat.reduceLT, Nat.reduceAdd, Nat.reduceSub, Nat.reduceMul, Nat.reduceEqDiff, reduceCtorEq, Nat.reduceLeDiff, Int.reduceLT, Int.reduceLE, Int.reduceEq, Int.reduceAdd, Int.reduceToNat, Int.reduceNeg, Int.reduceNegSucc, ↓vz_seq, e0, e4, e10, e61, e62, e63]; done) | (simp only [go_sem, List.range', reduceIte, Nat.reduceLT, Nat.reduceAdd, Nat.reduceSub, Nat.reduceMul, Nat.reduceEqDiff, reduceCtorEq, Nat.reduceLeDiff, Int.reduceLT, Int.reduceLE, Int.reduceEq, Int.reduceAdd, Int.reduceToNat, Int.reduceNeg, Int.reduceNegSucc, ↓vz_seq, e0, e4, e10, e61, e62, e63]; rfl)) ?_)
      · rw [List.drop_of_length_le (by omega), pL, List.append_nil] at hr
        simp only [go_sem, List.range', reduceIte, Nat.reduceLT, Nat.reduceAdd, Nat.reduceSub, Nat.reduceMul, Nat.reduceEqDiff, reduceCtorEq, Nat.reduceLeDiff, Int.reduceLT, Int.reduceLE, Int.reduceEq, Int.reduceAdd, Int.reduceToNat, Int.reduceNeg, Int.reduceNegSucc, ↓vz_seq, Nat.le_refl, List.length_map, List.take_of_length_le, PV.scalar, List.all_cons, List.all_nil, Bool.and_true]
        rw [hr] at hK
        exact hK
theorem put0 (w : ByteArray × Int → Option Tm) (t : Tm) (c : Nat) (hc : c ≤ 2000) : PutS false w t c := put_ref false w (fun h => by cases h) t.depth t c (Nat.le_refl _) hc
theorem put1 (w : ByteArray × Int → Option Tm) (t : Tm) (c : Nat) (hc : c ≤ 2000) : PutS true w t c := put_ref true w (fun _ t c hc => put0 w t c hc) t.depth t c (Nat.le_refl _) hc
end Go.Proofs.YtahamnipffckhaaDoor
