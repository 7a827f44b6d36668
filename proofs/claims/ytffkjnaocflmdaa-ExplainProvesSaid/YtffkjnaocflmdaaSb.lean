/-
  The program's tables. Printed by program.
-/
import Derived.Test.YtffkjnaocflmdaaE2Fun
import Derived.Test.YtffkjnaocflmdaaRows
import Derived.KernelRfl
namespace Go.Proofs.Ytffkjnaocflmdaa
open Go.Eng
noncomputable instance gl : Gl := ⟨fun _ => none⟩
def stT : TypeId → Operand → Operand → Bool := stL [(55, 109, 108)]
noncomputable instance mx : Mx := ⟨fun f args => bif f.beq 3 then (match args with | [] => some (.bool true) | _ => none) else none, stT⟩
noncomputable abbrev P : Program := Try.prog
def tyTab : List (TypeId × Ty) := [(2, (.int .i64)), (3, (.int .i64)), (4, .bool), (22, (.list (.st (.prod (.int .i64) (.prod (.int .i64) (.list (.int .i64))))))), (23, (.list (.st (.prod (.int .i64) (.prod (.int .i64) (.prod (.int .i64) (.prod (.list (.int .i64)) (.list (.int .i64))))))))), (24, (.list (.st (.prod (.int .i64) (.st (.prod (.int .i64) (.int .i64))))))), (26, (.st (.prod (.list (.st (.prod (.int .i64) (.prod (.int .i64) (.list (.int .i64)))))) (.prod (.list (.st (.prod (.int .i64) (.prod (.int .i64) (.prod (.int .i64) (.prod (.list (.int .i64)) (.list (.int .i64)))))))) (.prod (.list (.st (.prod (.int .i64) (.st (.prod (.int .i64) (.int .i64)))))) (.prod (.int .i64) (.prod (.int .i64) (.prod (.int .i64) (.int .i64))))))))), (28, (.list (.int .i64))), (32, (.st (.prod (.list (.st (.prod (.int .i64) (.prod (.int .i64) (.list (.int .i64)))))) (.prod (.list (.st (.prod (.int .i64) (.prod (.int .i64) (.prod (.int .i64) (.prod (.list (.int .i64)) (.list (.int .i64)))))))) (.prod (.int .i64) (.int .i64)))))), (42, (.list (.int .i64))), (44, (.st (.prod (.int .i64) (.prod (.int .i64) (.prod (.int .i64) (.prod (.list (.int .i64)) (.list (.int .i64)))))))), (46, (.st (.prod (.int .i64) (.int .i64)))), (47, (.list (.st (.prod (.int .i64) (.int .i64))))), (55, (.st (.prod (.int .i64) (.prod (.int .i64) (.list (.int .i64)))))), (58, (.list (.list (.st (.prod (.int .i64) (.int .i64)))))), (60, (.list .bool)), (67, (.list (.int .i64))), (73, (.st (.int .i64))), (82, (.list (.st (.prod (.int .i64) (.int .i64))))), (84, (.st (.prod (.int .i64) (.int .i64)))), (87, (.st (.prod (.list (.int .i64)) (.int .i64)))), (120, (.st (.prod (.int .i64) (.int .i64)))), (122, (.st (.prod (.int .i64) (.st (.prod (.int .i64) (.int .i64))))))]
def strT : TypeId → Bool := memN [26, 32, 44, 55, 73, 84, 87, 120, 122]
def pol : FuncId → Bool := memN [3, 4, 5, 6, 7, 8, 9, 10, 11, 12, 13, 14, 15, 16, 17, 18, 19, 20, 21, 22, 23, 24, 25, 26, 27, 28, 31, 32, 35, 36, 38, 39, 40, 41, 43, 44, 45, 46, 47, 48, 49, 50, 51, 52, 54, 57, 59, 60, 61, 62, 63, 64, 65]
def o2T : TypeId → Bool := memN [58]
def env (l : List (FuncId × FSp)) (m : List (FuncId × ISpec)) : Env2 := ⟨tyL tyTab, strT, pol, spL l, imL m, stT, o2T⟩
theorem tyOk (l : List (FuncId × FSp)) (m : List (FuncId × ISpec)) : TyR P (env l m) := tyR_of rfl rfl rfl (by kernel_rfl)
theorem imN : ∀ p ∈ ([] : List (FuncId × ISpec)), ImOk pol P p.1 p.2 := fun p h => by cases h
theorem imC {g : FuncId} {sp : ISpec} {l : List (FuncId × ISpec)} (h : ImOk pol P g sp) (t : ∀ p ∈ l, ImOk pol P p.1 p.2) : ∀ p ∈ (g, sp) :: l, ImOk pol P p.1 p.2 := fun p hp => by
  rcases List.mem_cons.1 hp with rfl | h'
  · exact h
  · exact t p h'
theorem allN : ∀ p ∈ ([] : List (FuncId × FSp)), SpOk pol P p.1 p.2 := fun p h => by cases h
theorem allC {g : FuncId} {sp : FSp} {l : List (FuncId × FSp)} (h : SpOk pol P g sp) (t : ∀ p ∈ l, SpOk pol P p.1 p.2) : ∀ p ∈ (g, sp) :: l, SpOk pol P p.1 p.2 := fun p hp => by
  rcases List.mem_cons.1 hp with rfl | h'
  · exact h
  · exact t p h'
noncomputable def sp3 : FSp := ⟨[], [.bool], fun _ => some true⟩
theorem s3 : SpOk pol P 3 sp3 := fun x r h => by cases h; rfl
abbrev tI : Ty := .int .i64
abbrev tL : Ty := .list tI
abbrev tn : Ty := .st (.prod tI (.prod tI tL))
abbrev ts : Ty := .st (.prod tI (.prod tI (.prod tI (.prod tL tL))))
abbrev dI : SV := .dat tI
abbrev dB : SV := .dat .bool
abbrev t : Tmp → Operand := .tmp
abbrev cI (n : Int) : Operand := .const (.int .i64 n)
abbrev y (d : Nat) (o : Op) : CO := ⟨.yes, o, some d⟩
abbrev u (c : Nat) (b : Bool) (d : Nat) (o : Op) : CO := ⟨.at c b, o, some d⟩
abbrev mv (d a : Nat) : CO := ⟨.yes, .move (.tmp a), some d⟩
abbrev sg (d a : Nat) : CO := ⟨.yes, .assign (.tmp a), some d⟩
abbrev ld (d ty a : Nat) : CO := ⟨.yes, .load ty (.tmp a), some d⟩
abbrev fa (d ty a f : Nat) : CO := ⟨.yes, .fieldAddr ty (.tmp a) f, some d⟩
abbrev ia (d ty a b : Nat) : CO := ⟨.yes, .indexAddr ty (.tmp a) (.tmp b), some d⟩
abbrev q (i d : Nat) (o : Op) : PO := ⟨i, [], false, .pure, .yes, o, some d⟩
abbrev qr (i d : Nat) (o : Op) : PO := ⟨i, [], false, .read, .yes, o, some d⟩
abbrev qn (i d : Nat) (o : Op) : PO := ⟨i, [], true, .read, .yes, o, some d⟩
abbrev qu (i c : Nat) (b : Bool) (d : Nat) (o : Op) : PO := ⟨i, [], false, .pure, .at c b, o, some d⟩
abbrev qw (i c : Nat) (b : Bool) (d : Nat) (o : Op) : PO := ⟨i, [], false, .read, .at c b, o, some d⟩
abbrev lenC (d a ty : Nat) : CO := ⟨.yes, .call ⟨.builtin .len, #[.tmp a], #[ty]⟩, some d⟩
end Go.Proofs.Ytffkjnaocflmdaa
