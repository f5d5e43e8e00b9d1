import Derived.Test.YtahamnipffckhaaDoorAm9
set_option linter.unusedVariables false
set_option linter.unusedSimpArgs false
namespace Go.Proofs.YtahamnipffckhaaDoor
open Go Go.RowKit

/-! ### 20. The condition -/
def isStop : It → Bool
  | .code (.loop _) | .code (.region _ _ true) | .code (.rangeFunc _ _ _ _) | .code (.scope _) | .code (.label _) | .code (.goto _) | .code (.refuse _) => true
  | .ops _ (o :: _) => o.guard.isNone && kind o.op == 2
  | _ => false
inductive Vc (P : Program) (N pin : Nat) (Q : AQ) : List It → AEnv → AHeap → Prop
  | nil {e h} : Q .norm e h → Vc P N pin Q [] e h
  | skip {k e h} : Vc P N pin Q k e h → Vc P N pin Q (.code .skip :: k) e h
  | seq {x y k e h} : Vc P N pin Q (.code x :: .code y :: k) e h → Vc P N pin Q (.code (.seq x y) :: k) e h
  | cond {c x y k e h b} : opd e c = .pv (.bool b) → (b = true → Vc P N pin Q (.code x :: k) e h) → (b = false → Vc P N pin Q (.code y :: k) e h) → Vc P N pin Q (.code (.cond c x y) :: k) e h
  | block {id c k e h} : Vc P N pin Q (.code c :: .blk id :: k) e h → Vc P N pin Q (.code (.block id c) :: k) e h
  | blk {id k e h} : Vc P N pin Q k e h → Vc P N pin Q (.blk id :: k) e h
  | exit {id k k' e h} : popTo id k = some k' → Vc P N pin Q k' e h → Vc P N pin Q (.code (.exit id) :: k) e h
  | ret {k e h} : Q .ret e h → Vc P N pin Q (.code .ret :: k) e h
  | region {id all k e h} : Vc P N pin Q (.ops all all.toList :: k) e h → Vc P N pin Q (.code (.region id all false) :: k) e h
  | opsN {all k e h} : Vc P N pin Q k e h → Vc P N pin Q (.ops all [] :: k) e h
  | guard {o : Oper} {all rest k e h j b b'} : o.guard = some (j, b) → dstOk N o.dst = true → yld all e j = .pv (.bool b') →
      (b' = b → Vc P N pin Q (.ops all ({ o with guard := none } :: rest) :: k) e h) → (b' ≠ b → Vc P N pin Q (.ops all rest :: k) (putO e o.dst (.tup [])) h) → Vc P N pin Q (.ops all (o :: rest) :: k) e h
  | guardU {o : Oper} {all rest k e h j b} : o.guard = some (j, b) → dstOk N o.dst = true → yld all e j = .tup [] → Vc P N pin Q (.ops all rest :: k) (putO e o.dst (.tup [])) h → Vc P N pin Q (.ops all (o :: rest) :: k) e h
  | opA {o : Oper} {all rest k e h v h'} : o.guard = none → kind o.op = 0 → dstOk N o.dst = true → opA P e h o.op = some (v, h') → Vc P N pin Q (.ops all rest :: k) (putO e o.dst v) h' → Vc P N pin Q (.ops all (o :: rest) :: k) e h
  | call {o : Oper} {all rest k e h x args argTypes f caps R} : o.guard = none → dstOk N o.dst = true → o.op = .call { callee := .value x, args, argTypes } → fnOf (opd e x) = some (f, caps) →
      CallK P f (args.toList.map (opd e) ++ caps) h R → (∀ v h', R (.ret v) h' → Vc P N pin Q (.ops all rest :: k) (putO e o.dst v) h') → (∀ p h', R (.pan p) h' → Q (.pan p) e h') → Vc P N pin Q (.ops all (o :: rest) :: k) e h
  | back {R k e h} : R e h → Vc P N pin Q (.back R :: k) e h
  | stop {it k e h} : isStop it = true → After P N pin Q (it :: k) .norm e h → Vc P N pin Q (it :: k) e h
theorem Vc.sound {P : Program} {N pin : Nat} {Q : AQ} {k : List It} {e : AEnv} {h : AHeap} (hv : Vc P N pin Q k e h) : After P N pin Q k .norm e h := by
  induction hv with
  | nil hq => simpa [After] using hq
  | skip _ ih => exact go_skip ih
  | seq _ ih => exact go_seq ih
  | cond hc _ _ i1 i2 => exact go_cond hc i1 i2
  | block _ ih => exact go_block ih
  | blk _ ih => simpa only [After] using ih
  | exit hp _ ih => exact go_exit hp ih
  | ret hq => exact go_ret hq
  | region _ ih => exact go_region ih
  | opsN _ ih => exact go_opsN ih
  | guard hg hd hy _ _ i1 i2 => exact go_guard hg hd hy i1 i2
  | guardU hg hd hy _ ih => exact go_guardU hg hd hy ih
  | opA hg _ hd hs _ ih => exact go_opA hg hd hs ih
  | call hg hd ho hf hc _ hp ih => exact go_call hg hd ho hf hc ih hp
  | back hr => simpa only [After] using hr
  | stop _ ha => exact ha

/-! ### 21. Its equations -/
/-- The same, with a sign: only where it is 'true' do the equations below rewrite: so nothing is reckoned ahead of its time. -/
def VcZ (z : Bool) (P : Program) (N pin : Nat) (Q : AQ) (k : List It) (e : AEnv) (h : AHeap) : Prop := Vc P N pin Q k e h
def brB (v : AV) (A B : Bool → Prop) : Prop := ∃ b, v = .pv (.bool b) ∧ (b = true → A true) ∧ (b = false → B true)
@[congr] theorem brB_congr {v v' : AV} {A B : Bool → Prop} (h : v = v') : brB v A B = brB v' A B := by subst h; rfl
@[go_sem] theorem brB_true {A B : Bool → Prop} : brB (.pv (.bool true)) A B = A true := by simp [brB]
@[go_sem] theorem brB_false {A B : Bool → Prop} : brB (.pv (.bool false)) A B = B true := by simp [brB]
theorem brB_of {b : Bool} {A B : Bool → Prop} (h1 : b = true → A true) (h2 : b = false → B true) : brB (.pv (.bool b)) A B := ⟨b, rfl, h1, h2⟩
theorem brB_dec {c : Prop} [Decidable c] {A B : Bool → Prop} (h1 : c → A true) (h2 : ¬ c → B true) : brB (.pv (.bool (decide c))) A B := ⟨_, rfl, fun h => h1 (of_decide_eq_true h), fun h => h2 (of_decide_eq_false h)⟩
theorem brB_decN {c : Prop} [Decidable c] {A B : Bool → Prop} (h1 : ¬ c → A true) (h2 : c → B true) : brB (.pv (.bool (!decide c))) A B := ⟨_, rfl, fun h => h1 (by simpa using h), fun h => h2 (by simpa using h)⟩
def brG (v : AV) (b : Bool) (A B : Bool → Prop) : Prop := (∃ b', v = .pv (.bool b') ∧ (b' = b → A true) ∧ (b' ≠ b → B true)) ∨ (v = .tup [] ∧ B true)
@[go_sem] theorem brG_u {b : Bool} {A B : Bool → Prop} : brG (.tup []) b A B = B true := by simp [brG]
@[congr] theorem brG_congr {v v' : AV} {b : Bool} {A B : Bool → Prop} (h : v = v') : brG v b A B = brG v' b A B := by subst h; rfl
@[go_sem] theorem brG_tt {A B : Bool → Prop} : brG (.pv (.bool true)) true A B = A true := by simp [brG]
@[go_sem] theorem brG_tf {A B : Bool → Prop} : brG (.pv (.bool true)) false A B = B true := by simp [brG]
@[go_sem] theorem brG_ft {A B : Bool → Prop} : brG (.pv (.bool false)) true A B = B true := by simp [brG]
@[go_sem] theorem brG_ff {A B : Bool → Prop} : brG (.pv (.bool false)) false A B = A true := by simp [brG]
theorem brG_of {b' b : Bool} {A B : Bool → Prop} (h1 : b' = b → A true) (h2 : b' = !b → B true) : brG (.pv (.bool b')) b A B := .inl ⟨b', rfl, h1, fun h => h2 (by cases b <;> cases b' <;> simp_all)⟩
theorem brG_dec {b : Bool} {c : Prop} [Decidable c] {A B : Bool → Prop} (h1 : c → brG (.pv (.bool true)) b A B) (h2 : ¬ c → brG (.pv (.bool false)) b A B) : brG (.pv (.bool (decide c))) b A B := by
  by_cases hc : c
  · simpa [hc] using h1 hc
  · simpa [hc] using h2 hc
theorem brG_decN {b : Bool} {c : Prop} [Decidable c] {A B : Bool → Prop} (h1 : ¬ c → brG (.pv (.bool true)) b A B) (h2 : c → brG (.pv (.bool false)) b A B) : brG (.pv (.bool (!decide c))) b A B := by
  by_cases hc : c
  · simpa [hc] using h2 hc
  · simpa [hc] using h1 hc
theorem brG_bool {x b : Bool} {A B : Bool → Prop} (h1 : x = true → brG (.pv (.bool true)) b A B) (h2 : x = false → brG (.pv (.bool false)) b A B) : brG (.pv (.bool x)) b A B := by
  cases x
  · exact h2 rfl
  · exact h1 rfl
theorem brB_bool {x : Bool} {A B : Bool → Prop} (h1 : x = true → A true) (h2 : x = false → B true) : brB (.pv (.bool x)) A B := ⟨x, rfl, h1, h2⟩
def kOp (r : Option (AV × AHeap)) (f : Bool → AV → AHeap → Prop) : Prop := ∃ v h, r = some (v, h) ∧ f true v h
@[congr] theorem kOp_congr {r r' : Option (AV × AHeap)} {f : Bool → AV → AHeap → Prop} (h : r = r') : kOp r f = kOp r' f := by subst h; rfl
@[go_sem] theorem kOp_some {v : AV} {h : AHeap} {f : Bool → AV → AHeap → Prop} : kOp (some (v, h)) f = f true v h := by
  apply propext; constructor
  · rintro ⟨v', h', e, hf⟩; cases e; exact hf
  · exact fun hf => ⟨v, h, rfl, hf⟩
def kFn (r : Option (FuncId × List AV)) (f : Bool → FuncId → List AV → Prop) : Prop := ∃ v h, r = some (v, h) ∧ f true v h
@[congr] theorem kFn_congr {r r' : Option (FuncId × List AV)} {f : Bool → FuncId → List AV → Prop} (h : r = r') : kFn r f = kFn r' f := by subst h; rfl
@[go_sem] theorem kFn_some {v : FuncId} {h : List AV} {f : Bool → FuncId → List AV → Prop} : kFn (some (v, h)) f = f true v h := by
  apply propext; constructor
  · rintro ⟨v', h', e, hf⟩; cases e; exact hf
  · exact fun hf => ⟨v, h, rfl, hf⟩
def kPop (r : Option (List It)) (f : Bool → List It → Prop) : Prop := ∃ k, r = some k ∧ f true k
@[congr] theorem kPop_congr {r r' : Option (List It)} {f : Bool → List It → Prop} (h : r = r') : kPop r f = kPop r' f := by subst h; rfl
@[go_sem] theorem kPop_some {k : List It} {f : Bool → List It → Prop} : kPop (some k) f = f true k := by simp [kPop]
def kRes (r : CR) (A : AV → Prop) (B : PV → Prop) : Prop := match r with
  | .ret v => A v
  | .pan p => B p
@[congr] theorem kRes_congr {r r' : CR} {A : AV → Prop} {B : PV → Prop} (h : r = r') : kRes r A B = kRes r' A B := by subst h; rfl
@[go_sem] theorem kRes_ret {v : AV} {A : AV → Prop} {B : PV → Prop} : kRes (.ret v) A B = A v := (rfl)
@[go_sem] theorem kRes_pan {p : PV} {A : AV → Prop} {B : PV → Prop} : kRes (.pan p) A B = B p := (rfl)
def CallZ (P : Program) (f : FuncId) (args : List AV) (h : AHeap) (K : Bool → CR → AHeap → Prop) : Prop := CallK P f args h (K true)
@[congr] theorem CallZ_congr {P : Program} {f : FuncId} {args args' : List AV} {h h' : AHeap} {K : Bool → CR → AHeap → Prop} (h1 : args = args') (h2 : h = h') : CallZ P f args h K = CallZ P f args' h' K := by subst h1; subst h2; rfl
section
variable {P : Program} {N pin : Nat} {Q : AQ} {k : List It} {e : AEnv} {h : AHeap}
theorem vc_nil : Vc P N pin Q [] e h = Q .norm e h := propext ⟨fun hv => by cases hv; assumption, .nil⟩
theorem vc_skip : Vc P N pin Q (.code .skip :: k) e h = Vc P N pin Q k e h := propext ⟨fun hv => by cases hv <;> first | assumption | (rename_i hs _; cases hs), .skip⟩
theorem vc_seq {x y : Code} : Vc P N pin Q (.code (.seq x y) :: k) e h = Vc P N pin Q (.code x :: .code y :: k) e h := propext ⟨fun hv => by cases hv <;> first | assumption | (rename_i hs _; cases hs), .seq⟩
theorem vc_cond {c : Operand} {x y : Code} : Vc P N pin Q (.code (.cond c x y) :: k) e h = brB (opd e c) (fun z => VcZ z P N pin Q (.code x :: k) e h) (fun z => VcZ z P N pin Q (.code y :: k) e h) := by
  apply propext; constructor
  · intro hv
    cases hv with
    | cond h1 h2 h3 => exact ⟨_, h1, h2, h3⟩
    | stop hs _ => cases hs
  · rintro ⟨b, h1, h2, h3⟩; exact .cond h1 h2 h3
theorem vc_block {id : Nat} {c : Code} : Vc P N pin Q (.code (.block id c) :: k) e h = Vc P N pin Q (.code c :: .blk id :: k) e h := propext ⟨fun hv => by cases hv <;> first | assumption | (rename_i hs _; cases hs), .block⟩
theorem vc_blk {id : Nat} : Vc P N pin Q (.blk id :: k) e h = Vc P N pin Q k e h := propext ⟨fun hv => by cases hv <;> first | assumption | (rename_i hs _; cases hs), .blk⟩
theorem vc_exit {id : Nat} : Vc P N pin Q (.code (.exit id) :: k) e h = kPop (popTo id k) (fun z k' => VcZ z P N pin Q k' e h) := by
  apply propext; constructor
  · intro hv
    cases hv with
    | exit h1 h2 => exact ⟨_, h1, h2⟩
    | stop hs _ => cases hs
  · rintro ⟨b, h1, h2⟩; exact .exit h1 h2
theorem vc_ret : Vc P N pin Q (.code .ret :: k) e h = Q .ret e h := propext ⟨fun hv => by cases hv <;> first | assumption | (rename_i hs _; cases hs), .ret⟩
theorem vc_region {id : Nat} {l : List Oper} : Vc P N pin Q (.code (.region id l.toArray false) :: k) e h = Vc P N pin Q (.ops l.toArray l :: k) e h := propext ⟨fun hv => by cases hv <;> first | assumption | (rename_i hs _; cases hs), .region⟩
theorem vc_opsN {all : Array Oper} : Vc P N pin Q (.ops all [] :: k) e h = Vc P N pin Q k e h := propext ⟨fun hv => by cases hv <;> first | assumption | (rename_i hs _; cases hs), .opsN⟩
theorem vc_back {R : AEnv → AHeap → Prop} : Vc P N pin Q (.back R :: k) e h = R e h := propext ⟨fun hv => by cases hv <;> first | assumption | (rename_i hs _; cases hs), .back⟩
variable {dst : Option Tmp} {op : Op} {ty : TypeId} {pos : String} {after : Array Edge} {all : Array Oper} {rest : List Oper}
theorem vc_guard {j : Nat} {b : Bool} (hd : dstOk N dst = true) :
    Vc P N pin Q (.ops all (⟨dst, op, ty, pos, after, some (j, b)⟩ :: rest) :: k) e h = brG (yld all e j) b (fun z => VcZ z P N pin Q (.ops all (⟨dst, op, ty, pos, after, none⟩ :: rest) :: k) e h) (fun z => VcZ z P N pin Q (.ops all rest :: k) (putO e dst (.tup [])) h) := by
  apply propext; constructor
  · intro hv
    cases hv with
    | guard h1 h2 h3 h4 h5 => cases h1; exact .inl ⟨_, h3, h4, h5⟩
    | guardU h1 h2 h3 h4 => cases h1; exact .inr ⟨h3, h4⟩
    | opA h1 => cases h1
    | call h1 => cases h1
    | stop hs _ => simp [isStop] at hs
  · rintro (⟨b', h3, h4, h5⟩ | ⟨h3, h4⟩)
    · exact .guard rfl hd h3 h4 h5
    · exact .guardU rfl hd h3 h4
theorem vc_opA (hk : kind op = 0) (hd : dstOk N dst = true) :
    Vc P N pin Q (.ops all (⟨dst, op, ty, pos, after, none⟩ :: rest) :: k) e h = kOp (opA P e h op) (fun z v h' => VcZ z P N pin Q (.ops all rest :: k) (putO e dst v) h') := by
  apply propext; constructor
  · intro hv
    cases hv with
    | guard h1 => cases h1
    | guardU h1 => cases h1
    | opA _ _ _ h4 h5 => exact ⟨_, _, h4, h5⟩
    | call _ _ h3 => simp only at h3; subst h3; simp [kind] at hk
    | stop hs _ => simp [isStop, hk] at hs
  · rintro ⟨v, h', h4, h5⟩; exact .opA rfl hk hd h4 h5
theorem vc_call {x : Operand} {args : Array Operand} {argTypes : Array TypeId} (hd : dstOk N dst = true) :
    Vc P N pin Q (.ops all (⟨dst, .call { callee := .value x, args, argTypes }, ty, pos, after, none⟩ :: rest) :: k) e h =
      kFn (fnOf (opd e x)) (fun z f caps => CallZ P f (args.toList.map (opd e) ++ caps) h (fun z r h' => kRes r (fun v => VcZ z P N pin Q (.ops all rest :: k) (putO e dst v) h') (fun p => Q (.pan p) e h'))) := by
  apply propext; constructor
  · intro hv
    cases hv with
    | guard h1 => cases h1
    | guardU h1 => cases h1
    | opA _ h2 => simp [kind] at h2
    | call h1 h2 h3 h4 h5 h6 h7 =>
      simp only [Op.call.injEq, Call.mk.injEq, Callee.value.injEq] at h3
      obtain ⟨rfl, rfl, rfl⟩ := h3
      exact ⟨_, _, h4, h5.mono fun r h' hr => by cases r with
        | ret v => exact h6 v h' hr
        | pan p => exact h7 p h' hr⟩
    | stop hs _ => simp [isStop, kind] at hs
  · rintro ⟨f, caps, h4, h5⟩
    exact .call rfl hd rfl h4 h5 (fun v h' hr => hr) (fun p h' hr => hr)
@[go_sem ↓] theorem vz_nil : VcZ true P N pin Q [] e h = Q .norm e h := vc_nil
@[go_sem ↓] theorem vz_skip : VcZ true P N pin Q (.code .skip :: k) e h = VcZ true P N pin Q k e h := vc_skip
theorem vz_seq {x y : Code} : VcZ true P N pin Q (.code (.seq x y) :: k) e h = VcZ true P N pin Q (.code x :: .code y :: k) e h := vc_seq
@[go_sem ↓] theorem vz_cond {c : Operand} {x y : Code} : VcZ true P N pin Q (.code (.cond c x y) :: k) e h = brB (opd e c) (fun z => VcZ z P N pin Q (.code x :: k) e h) (fun z => VcZ z P N pin Q (.code y :: k) e h) := vc_cond
@[go_sem ↓] theorem vz_block {id : Nat} {c : Code} : VcZ true P N pin Q (.code (.block id c) :: k) e h = VcZ true P N pin Q (.code c :: .blk id :: k) e h := vc_block
@[go_sem ↓] theorem vz_blk {id : Nat} : VcZ true P N pin Q (.blk id :: k) e h = VcZ true P N pin Q k e h := vc_blk
@[go_sem ↓] theorem vz_exit {id : Nat} : VcZ true P N pin Q (.code (.exit id) :: k) e h = kPop (popTo id k) (fun z k' => VcZ z P N pin Q k' e h) := vc_exit
@[go_sem ↓] theorem vz_ret : VcZ true P N pin Q (.code .ret :: k) e h = Q .ret e h := vc_ret
@[go_sem ↓] theorem vz_region {id : Nat} {l : List Oper} : VcZ true P N pin Q (.code (.region id l.toArray false) :: k) e h = VcZ true P N pin Q (.ops l.toArray l :: k) e h := vc_region
@[go_sem ↓] theorem vz_opsN {all : Array Oper} : VcZ true P N pin Q (.ops all [] :: k) e h = VcZ true P N pin Q k e h := vc_opsN
@[go_sem ↓] theorem vz_back {R : AEnv → AHeap → Prop} : VcZ true P N pin Q (.back R :: k) e h = R e h := vc_back
@[go_sem ↓] theorem vz_guard {j : Nat} {b : Bool} (hd : dstOk N dst = true) :
    VcZ true P N pin Q (.ops all (⟨dst, op, ty, pos, after, some (j, b)⟩ :: rest) :: k) e h = brG (yld all e j) b (fun z => VcZ z P N pin Q (.ops all (⟨dst, op, ty, pos, after, none⟩ :: rest) :: k) e h) (fun z => VcZ z P N pin Q (.ops all rest :: k) (putO e dst (.tup [])) h) := vc_guard hd
@[go_sem ↓] theorem vz_opA (hk : kind op = 0) (hd : dstOk N dst = true) :
    VcZ true P N pin Q (.ops all (⟨dst, op, ty, pos, after, none⟩ :: rest) :: k) e h = kOp (opA P e h op) (fun z v h' => VcZ z P N pin Q (.ops all rest :: k) (putO e dst v) h') := vc_opA hk hd
@[go_sem ↓] theorem vz_call {x : Operand} {args : Array Operand} {argTypes : Array TypeId} (hd : dstOk N dst = true) :
    VcZ true P N pin Q (.ops all (⟨dst, .call { callee := .value x, args, argTypes }, ty, pos, after, none⟩ :: rest) :: k) e h =
      kFn (fnOf (opd e x)) (fun z f caps => CallZ P f (args.toList.map (opd e) ++ caps) h (fun z r h' => kRes r (fun v => VcZ z P N pin Q (.ops all rest :: k) (putO e dst v) h') (fun p => Q (.pan p) e h'))) := vc_call hd
end

/-! ### 22. A function -/
def resL (P : Program) (e : AEnv) (h : AHeap) : List ResultVar → Option (List AV)
  | [] => some []
  | .tmp t :: r => match resL P e h r with
    | some xs => some (e t :: xs)
    | none => none
  | .cell a t :: r => match ldR P t (e a) h, resL P e h r with
    | some x, some xs => some (x :: xs)
    | _, _ => none
def tupV : List AV → AV
  | [x] => x
  | xs => .tup xs
def kL (r : Option (List AV)) (f : List AV → Prop) : Prop := ∃ k, r = some k ∧ f k
@[congr] theorem kL_congr {r r' : Option (List AV)} {f : List AV → Prop} (h : r = r') : kL r f = kL r' f := by subst h; rfl
@[go_sem] theorem kL_some {k : List AV} {f : List AV → Prop} : kL (some k) f = f k := by simp [kL]
def RetQ (P : Program) (rs : Array ResultVar) (K : CR → AHeap → Prop) : AQ
  | .norm, e, h | .ret, e, h => kL (resL P e h rs.toList) fun vs => K (.ret (tupV vs)) h
  | .pan p, e, h => K (.pan p) h
  | .exit _, _, _ => False
def argE (args : List AV) : AEnv := fun t => args.getD t .undef
def resOne (tmps : Array Value) : ResultVar → Sem Value
  | .tmp t => pure (tmps.getD t undef)
  | .cell a t => do loadVar t (← asAddr (tmps.getD a undef))
theorem results_one (fn : Func) (tmps : Array Value) : results fn tmps = (do let vs ← fn.results.mapM (resOne tmps); pure (if h : vs.size = 1 then vs[0] else .tuple vs)) := rfl
section
variable {P : Program} {N pin : Nat}
theorem resL_sound {e : AEnv} {h : AHeap} {a : Act} {w : World} {ι : Nat → Nat × Nat} {I : Nat → Prop} {G : Ghost} (hI : Inv G ι I h w) (hE : ERel N h.length w I ι e a) :
    ∀ {rs : List ResultVar} {vs : List AV}, resL P e h rs = some vs → ∃ us : List Value, (rs.mapM (resOne a.tmps)).run P w = .ok us w ∧ arelL w I ι vs us ∧ AV.ltL h.length vs
  | [], vs, hr => by simp only [resL] at hr; cases hr; exact ⟨[], by simp, by simp [arelL], trivial⟩
  | .tmp t :: r, vs, hr => by
    simp only [resL] at hr
    split at hr <;> cases hr
    rename_i xs hx
    obtain ⟨us, h1, h2, h3⟩ := resL_sound hI hE hx
    refine ⟨a.tmps.getD t undef :: us, by simp only [List.mapM_cons, Sem.run_bind, resOne, Sem.run_pure, Result.andThen_ok, h1], ?_, hE.lt t, h3⟩
    simp only [arelL]
    exact ⟨_, _, rfl, hE.rel t, h2⟩
  | .cell x t :: r, vs, hr => by
    simp only [resL] at hr
    split at hr <;> cases hr
    rename_i y xs hy hx
    obtain ⟨us, h1, h2, h3⟩ := resL_sound hI hE hx
    obtain ⟨u, k1, k2, k3⟩ := ldR_sound (P := P) hI (hE.rel x) hy
    have hl : ∃ ad, a.tmps.getD x undef = .pointer (some ad) ∧ (loadVar t ad).run P w = .ok u w := by
      have hx' := hE.rel x
      unfold ldR at hy
      split at hy
      · rename_i hx2
        rw [hx2] at hx'
        simp only [arel] at hx'
        rw [hx'] at k1
        exact ⟨_, hx', by simpa [Instr.loadAt, Instr.sureAddr] using k1⟩
      · rename_i hx2
        rw [hx2] at hx'
        simp only [arel] at hx'
        obtain ⟨b, o, hx', _⟩ := hx'
        rw [hx'] at k1
        exact ⟨_, hx', by simpa [Instr.loadAt, Instr.sureAddr] using k1⟩
      · rename_i hx2
        rw [hx2] at hx'
        simp only [arel] at hx'
        rw [hx'] at k1
        exact ⟨_, hx', by simpa [Instr.loadAt, Instr.sureAddr] using k1⟩
      · cases hy
    obtain ⟨ad, l1, l2⟩ := hl
    refine ⟨u :: us, ?_, ?_, k3, h3⟩
    · simp only [List.mapM_cons, Sem.run_bind, resOne, l1, asAddr, Sem.run_pure, Result.andThen_ok, l2, h1]
    · simp only [arelL]; exact ⟨_, _, rfl, k2, h2⟩
theorem results_run {fn : Func} {e : AEnv} {h : AHeap} {a : Act} {w : World} {ι : Nat → Nat × Nat} {I : Nat → Prop} {G : Ghost} (hI : Inv G ι I h w) (hE : ERel N h.length w I ι e a) {vs : List AV} (hr : resL P e h fn.results.toList = some vs) :
    ∃ u, (results fn a.tmps).run P w = .ok u w ∧ arel w I ι (tupV vs) u ∧ (tupV vs).lt h.length := by
  obtain ⟨us, h1, h2, h3⟩ := resL_sound hI hE hr
  have key : (results fn a.tmps).run P w = .ok (if h : us.toArray.size = 1 then us.toArray[0] else .tuple us.toArray) w := by
    rw [results_one, show fn.results = fn.results.toList.toArray by simp, List.mapM_toArray]
    simp only [Sem.run_bind, Sem.run_map, h1, Result.andThen_ok, Sem.run_pure]
  refine ⟨_, key, ?_⟩
  cases vs with
  | nil =>
    simp only [arelL] at h2
    subst h2
    simp [tupV, arel, arelL, AV.lt, AV.ltL]
  | cons x xs =>
    cases xs with
    | nil =>
      simp only [arelL] at h2
      obtain ⟨u, us', rfl, h4, rfl⟩ := h2
      simp only [tupV]
      exact ⟨by simpa using h4, h3.1⟩
    | cons y ys =>
      simp only [arelL] at h2
      obtain ⟨u, us', rfl, h4, u2, us2, rfl, h5, h6⟩ := h2
      simp only [tupV]
      refine ⟨?_, h3⟩
      simp only [arel, arelL]
      exact ⟨u :: u2 :: us2, by simp, u, _, rfl, h4, u2, _, rfl, h5, h6⟩
theorem fnK_of_vc {f : FuncId} {fn : Func} {c : Code} {args : List AV} {h : AHeap} {K : CR → AHeap → Prop} (hf : P.funcs[f]? = some fn) (hb : fn.body = some c) (hn : (fn.name == "runtime.NumGoroutine") = false) (hN : fn.ntmps = N)
    (ha : args.length ≤ N) (hpin : pin ≤ h.length) (hv : VcZ true P N pin (RetQ P fn.results K) [.code c] (argE args) h) : FnK P f args h pin K := by
  refine ⟨ent_of hf hb hn, fun G ι I w vs hI hr hl => calls_of_wp hf hb ?_⟩
  have hsz : vs.length = args.length := arelL_length hr
  have hout : ∀ t, args.length ≤ t → args.getD t .undef = .undef := fun t h1 => by simp [List.getD_eq_getElem?_getD, List.getElem?_eq_none h1]
  have hin : ∀ t (h1 : t < args.length), args.getD t .undef = args[t] := fun t h1 => by simp [List.getD_eq_getElem?_getD, h1]
  have hA : At N pin ⟨G, ι, I, w, []⟩ (argE args) h { tmps := vs.toArray ++ Array.replicate (fn.ntmps - vs.toArray.size) undef, defers := [] } w ι I := by
    refine ⟨hI, ⟨by simp; omega, fun t ht => ?_, fun t => ?_, fun t => ?_⟩, Ext.refl _ _ _ _, hpin, rfl⟩
    · simp only [argE]; exact hout t (by omega)
    · simp only [argE]
      rcases Nat.lt_or_ge t args.length with h1 | h1
      · rw [hin t h1]; exact AV.ltL_iff.1 hl _ (List.getElem_mem h1)
      · rw [hout t h1]; trivial
    · simp only [argE]
      rcases Nat.lt_or_ge t args.length with h1 | h1
      · rw [hin t h1]
        obtain ⟨u, e1, e2⟩ := arelL_get hr (List.getElem?_eq_getElem h1)
        have : ((vs.toArray ++ Array.replicate (fn.ntmps - vs.toArray.size) undef).getD t undef) = u := by
          have h2 : t < vs.length := by omega
          simp only [Array.getD_eq_getD_getElem?]
          rw [Array.getElem?_append_left (by simpa using h2)]
          simp [e1]
        rw [this]; exact e2
      · rw [hout t h1]; simp [arel]
  have hw := Vc.sound hv
  simp only [After] at hw
  refine Code.wp_mono ?_ (hw _ _ _ _ _ hA)
  intro ex a' w' hq
  have fin : St N pin ⟨G, ι, I, w, []⟩ (fun e h => kL (resL P e h fn.results.toList) fun vs => K (.ret (tupV vs)) h) a' w' → a'.defers = [] ∧ ∃ v, (results fn a'.tmps).run P w' = .ok v w' ∧ CPost pin G ι I w K (.returned v) w' := by
    rintro ⟨ι', I', e', h', h1, vs', h2, h3⟩
    obtain ⟨u, k1, k2, k3⟩ := results_run h1.inv h1.env h2
    exact ⟨h1.dfr, u, k1, ι', I', _, h', h1.inv, h1.ext, h1.pin, k2, k3, h3⟩
  cases ex with
  | normal => exact fin hq
  | ret => exact fin hq
  | exit id => obtain ⟨_, _, _, _, _, h2⟩ := hq; exact h2.elim
  | panic ch =>
    obtain ⟨ι', I', e', h', p, v, h0, h1, h2, h3⟩ := hq
    exact ⟨h1.dfr, ι', I', p, v, h', h0, h1.inv, h1.ext, h1.pin, h2, h3⟩
  | goto l => exact hq.elim
  | outgrown => exact hq.elim
end
end Go.Proofs.YtahamnipffckhaaDoor
