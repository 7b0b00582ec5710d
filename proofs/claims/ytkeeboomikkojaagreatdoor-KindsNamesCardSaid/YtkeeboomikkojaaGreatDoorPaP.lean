import Derived.Test.YtkeeboomikkojaaGreatDoorSxMore
namespace Go.Sx.Pa
abbrev Code:=List (Int×Int)
def cand (L:Code)(i:Nat):List Int :=
 match L[i]? with
 |none=>[]
 |some x=>if x.1=17 then [] else if x.1=15 then [x.2] else if x.1=14∨x.1=13∨x.1=11 then [(i:Int)+1,x.2] else [(i:Int)+1]
def Ot (L:Code)(i:Nat):List Nat:=(List.range L.length).filter fun (k:Nat)=>decide ((k:Int)∈cand L i)
def inR (L:Code)(i:Int):Bool:=decide (0≤i)&&decide (i < (L.length:Int))
def comes (L:Code)(i k:Int):Bool:=inR L i&&inR L k&&decide (k∈cand L i.toNat)
def E (L:Code)(i k:Nat):Prop:=k∈Ot L i
def val (o:List Int)(k:Nat):Int:=o.getD k (-1)
def seen (o:List Int):Nat:=o.countP fun v=>decide (0≤v)
def behind (L:Code)(k:Nat):List Nat:=(List.range L.length).filter fun i=>decide (k∈Ot L i)
end Go.Sx.Pa
