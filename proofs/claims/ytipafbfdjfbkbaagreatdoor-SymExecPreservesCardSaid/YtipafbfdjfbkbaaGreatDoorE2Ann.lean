import Derived.Test.YtipafbfdjfbkbaaGreatDoorE2Fun
namespace Go.Eng
inductive AN where
 | o
 | s (a b:AN)
 | j (sh:Sh) (a b:AN)
 | l (sh:Sh) (a:AN)
 | b (a:AN)
 | k (ks:List Tmp) (a:AN)
 | c (t:Tmp) (a:AN)
 | r (q t:Tmp) (a:AN)
 | n (q:Tmp) (o:Nat) (a:AN)
noncomputable def Z0M (pl:List Oper->Option (List PS)) (ops:List Oper):List PO:=((pl ops).ob fun p=>Znt ops p).getD []
noncomputable def Zn8 (pl:List Oper->Option (List PS)):AN->Code->AC
 | .k ks a,c=>.keep ks (Zn8 pl a c)
 | .c t a,c=>.lock t (Zn8 pl a c)
 | .r q t a,c=>.back q t (Zn8 pl a c)
 | .n q o a,c=>.nn q o (Zn8 pl a c)
 | .s x y,c=>match c with
  | .seq a b=>.seq (Zn8 pl x a) (Zn8 pl y b)
  | .cond v a b=>.cond v (Zn8 pl x a) (Zn8 pl y b)
  | _=>.skip
 | .j sh x y,c=>match c with
  | .seq a b=>.jn sh (Zn8 pl x a) (Zn8 pl y b)
  | _=>.skip
 | .l sh x,c=>match c with
  | .loop b=>.loop sh (Zn8 pl x b)
  | _=>.skip
 | .b x,c=>match c with
  | .block i b=>.block i (Zn8 pl x b)
  | _=>.skip
 | .o,c=>match c with
  | .ret=>.ret
  | .exit i=>.exit i
  | .region _ ops d=>bif d then .plan (Z0M pl ops.toList) else .ops (ops.toList.map (ZzR ops.toList))
  | _=>.skip
noncomputable def Zbe (pl:List Oper->Option (List PS)) (fn:Func) (nt:Nat) (t:AN) (rs:List ResultVar):FA:=⟨nt,Zn8 pl t (fn.body.getD .skip),rs⟩
end Go.Eng
