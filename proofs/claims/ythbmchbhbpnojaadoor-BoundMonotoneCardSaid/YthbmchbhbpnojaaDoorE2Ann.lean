/-
 Annotated code from a program's code and a tree of annotations.
-/
import Derived.Test.YthbmchbhbpnojaaDoorE2Fun
namespace Go.Eng
inductive AN where
 | o
 | s (a b:AN)
 | j (sh:Sh) (a b:AN)
 | l (sh:Sh) (a:AN)
 | b (a:AN)
 | k (ks:List Tmp) (a:AN)
 | c (t:Tmp) (a:AN)
 | r (q t:Tmp) (a:AN)
noncomputable def planL (pl:List Oper->Option (List PS)) (ops:List Oper):List PO:=((pl ops).ob fun p=>posOf ops p).getD []
noncomputable def annA (pl:List Oper->Option (List PS)):AN->Code->AC
 | .k ks a,c=>.keep ks (annA pl a c)
 | .c t a,c=>.lock t (annA pl a c)
 | .r q t a,c=>.back q t (annA pl a c)
 | .s x y,c=>match c with
  | .seq a b=>.seq (annA pl x a) (annA pl y b)
  | .cond v a b=>.cond v (annA pl x a) (annA pl y b)
  | _=>.skip
 | .j sh x y,c=>match c with
  | .seq a b=>.jn sh (annA pl x a) (annA pl y b)
  | _=>.skip
 | .l sh x,c=>match c with
  | .loop b=>.loop sh (annA pl x b)
  | _=>.skip
 | .b x,c=>match c with
  | .block i b=>.block i (annA pl x b)
  | _=>.skip
 | .o,c=>match c with
  | .ret=>.ret
  | .exit i=>.exit i
  | .region _ ops d=>bif d then .plan (planL pl ops.toList) else .ops (ops.toList.map (coOf ops.toList))
  | _=>.skip
noncomputable def annF (pl:List Oper->Option (List PS)) (fn:Func) (nt:Nat) (t:AN) (rs:List ResultVar):FA:=⟨nt,annA pl t (fn.body.getD .skip),rs⟩
end Go.Eng
