/-
  Several texts joined: RnD.
-/
import Derived.Calls
import Derived.Orders
import Derived.Laws.Tables
import Derived.Laws.CopyRow
set_option linter.unusedVariables false
set_option linter.unusedSectionVars false
noncomputable section
namespace Go.Proofs.YtmdlgfnibjcgmaaGreatDoor.Rn
inductive Tr (α : Type) where
 | leaf
 | node (l : Tr α) (o : Option α) (r : Tr α)
def sel {α : Type} (b : Bool) (x y : α) : α := match b with | true => x | false => y
def Tr.get {α : Type} (t : Tr α) : Nat -> Option α :=
 Tr.rec (fun _ => none) (fun _ o _ gl gr n => Nat.rec o (fun m _ => Bool.rec (gr (Nat.div m 2)) (gl (Nat.div m 2)) (Nat.beq (Nat.mod m 2) 0)) n) t
def Tr.sett {α : Type} (v : Option α) (f : Nat) : Tr α -> Nat -> Tr α :=
 Nat.rec (fun t _ => t) (fun _ self t n => Tr.rec
  (Nat.rec (.node .leaf v .leaf) (fun m _ => Bool.rec (.node .leaf none (self .leaf (Nat.div m 2))) (.node (self .leaf (Nat.div m 2)) none .leaf) (Nat.beq (Nat.mod m 2) 0)) n)
  (fun l o r _ _ => Nat.rec (.node l v r) (fun m _ => Bool.rec (.node l o (self r (Nat.div m 2))) (.node (self l (Nat.div m 2)) o r) (Nat.beq (Nat.mod m 2) 0)) n) t) f
def nth {α : Type} (l : List α) : Nat -> Option α :=
 List.rec (fun _ => none) (fun a _ k n => Nat.rec (some a) (fun m _ => k m) n) l
def Tr.set {α : Type} (t : Tr α) (v : Option α) (n : Nat) : Tr α := Tr.sett v (Nat.succ n) t n
mutual
def closed : Value -> Bool
 | .bool _ | .int _ _ | .float _ _ | .complex _ _ _ | .string _ | .nilFunc | .nilIface => true
 | .pointer none | .slice none _ _ | .map none | .chan none => true
 | .agg ⟨l⟩ => closedL l
 | .tuple ⟨l⟩ => closedL l
 | _ => false
def closedL : List Value -> Bool
 | [] => true
 | v :: l => closed v && closedL l
end
structure St where
 h : Tr Obj
 nx : Nat
 lg : Bool
 rd : List Nat
 wr : List Nat
def M (α : Type) := St -> Option (α × St)
def ret {α : Type} (a : α) : M α := fun s => some (a, s)
def bnd {α β : Type} (x : M α) (f : α -> M β) : M β := fun s => Option.rec none (fun p => Prod.rec (fun a s' => f a s') p) (x s)
def die {α : Type} : M α := fun _ => none
def lft {α : Type} (o : Option α) : M α := fun s => Option.rec none (fun a => some (a, s)) o
def grd {α : Type} (b : Bool) (x : M α) : M α := fun s => Bool.rec none (x s) b
def opt {α β : Type} (o : Option α) (f : α -> M β) : M β := fun s => Option.rec none (fun a => f a s) o
def readS (b : Nat) (s : St) : St := match s with
 | ⟨h, nx, lg, rd, wr⟩ => ⟨h, nx, lg, Bool.rec rd (b :: rd) lg, wr⟩
def putS (b : Nat) (o : Option Obj) (s : St) : St := match s with
 | ⟨h, nx, lg, rd, wr⟩ => ⟨h.set o b, nx, lg, rd, Bool.rec wr (b :: wr) lg⟩
def geto (b : Nat) : M Obj := fun s => Option.rec none (fun o => some (o, readS b s)) (s.h.get b)
def seto (b : Nat) (o : Option Obj) : M Unit := fun s => Option.rec none (fun _ => some ((), putS b o s)) (s.h.get b)
def newS (o : Obj) (s : St) : Option (Nat × St) := match s with
 | ⟨h, nx, lg, rd, wr⟩ => Option.rec (some (nx, ⟨h.set (some o) nx, Nat.succ nx, lg, rd, wr⟩)) (fun _ => none) (h.get nx)
def newo (o : Obj) : M Nat := fun s => newS o s
def pureRun {α : Type} (P : Program) : Sem α -> Option α
 | .pure a => some a
 | .program k => pureRun P (k P)
 | _ => none
def ptr (n : Nat) : Value := .pointer (some ⟨n, 0, none⟩)
def cut (l : List Value) (o n : Nat) : Option (List Value) := sel (Nat.ble (o + n) l.length) (some ((l.drop o).take n)) none
def putAt (l : List Value) (o : Nat) (vs : List Value) : List Value := l.take o ++ vs ++ l.drop (o + vs.length)
def isAggD : TypeDesc -> Bool
 | .struct _ | .array _ _ => true
 | _ => false
def isAggB (P : Program) (t : TypeId) : Option Bool := (P.underlying t).map isAggD
def atomB : Value -> Bool
 | .agg _ | .tuple _ => false
 | _ => true
def cellsO : Obj -> Option (List Value × TypeId × Nat)
 | .cells c t fr => some (c.toList, t, fr.1)
 | _ => none
def loadN (a : Addr) (n : Nat) : M (List Value) := grd a.spot.isNone <| bnd (geto a.block) fun o => opt (cellsO o) fun c => lft (cut c.1 a.off n)
def storeN (a : Addr) (vs : List Value) : M Unit := grd (a.spot.isNone && vs.all atomB) <| bnd (geto a.block) fun o => opt (cellsO o) fun c =>
 grd (!Nat.beq c.2.2 2 && Nat.ble (a.off + vs.length) c.1.length) <| seto a.block (some (.cells (putAt c.1 a.off vs).toArray c.2.1 (c.2.2, 0)))
inductive Nx where
 | val (v : Value)
 | call (f : FuncId) (args : List Value)
def val (v : Value) : M Nx := ret (.val v)
def infoA (P : Program) (t : TypeId) : Option TypeInfo := nth P.types.toList t
def bytesOf (P : Program) (t : TypeId) : Option Nat := (infoA P t).map (·.bytes)
def sizeOf? (P : Program) (t : TypeId) : Option Nat := (infoA P t).map (·.size)
def closedO (n : Nat) (v : Value) : Option Value := sel (closed v && Nat.beq v.cells.size n) (some v) none
def zeroOf (P : Program) (t : TypeId) : Option Value := (infoA P t).bind fun i => i.zero.bind (closedO i.size)
def natOf? : Value -> Option Nat
 | .int _ (.ofNat n) => some n
 | _ => none
def rep (n : Nat) (l : List Value) : List Value := Nat.rec [] (fun _ r => l ++ r) n
def u8Of : Value -> Option UInt8
 | .int .u8 (.ofNat n) => sel (Nat.blt n 256) (some (UInt8.ofNat n)) none
 | _ => none
def u8s (l : List Value) : Option (List UInt8) := l.mapM u8Of
def strCells (s : ByteArray) : List Value := s.data.toList.map fun b => .int .u8 b.toNat
def elemOf? (P : Program) (t : TypeId) : Option TypeId := (P.underlying t).bind fun
 | .slice e => some e
 | _ => none
def newv (o : Obj) : M Nx := bnd (newo o) fun n => val (ptr n)
def isRowD : TypeDesc -> Bool
 | .slice _ | .string => true
 | _ => false
def srcOf (k : Nat) : Value -> M (Nat × List Value)
 | .slice (some a) n _ => bnd (loadN a (n * k)) fun l => ret (n, l)
 | .slice none n _ => grd (Nat.beq n 0) (ret (0, []))
 | .string z => grd (Nat.beq k 1) (ret (z.size, strCells z))
 | _ => die
def appIn (base : Option Addr) (len k n cap : Nat) (new : List Value) : M Value := match base with
 | some a => bnd (storeN ⟨a.block, a.off + len * k, a.spot⟩ new) fun _ => ret (.slice base (len + n) cap)
 | none => grd (Nat.beq n 0) (ret (.slice base (len + n) cap))
def appNew (e : TypeId) (cells : List Value) (need : Nat) : M Value := bnd (newo (.cells cells.toArray e (1, 0))) fun z => ret (.slice (some ⟨z, 0, none⟩) need need)
def appOut (base : Option Addr) (e : TypeId) (len k n cap : Nat) (new : List Value) : M Value := match base with
 | none => grd (Nat.beq len 0) (appNew e new n)
 | some a => grd (Nat.beq a.off 0 && a.spot.isNone) <| bnd (geto a.block) fun o => opt (cellsO o) fun c =>
  grd (Nat.beq c.2.1 e && Nat.ble c.2.2 1 && Nat.beq c.1.length (cap * k)) <| opt (cut c.1 0 (len * k)) fun old =>
   bnd (sel (Nat.beq c.2.2 1) (seto a.block none) (ret ())) fun _ => appNew e (old ++ new) (len + n)
def appendB (e : TypeId) (k by_ : Nat) (s : Value) (p : Nat × List Value) : M Value := match s with
 | .slice base len cap => grd (Nat.ble ((len + p.1) * by_) 1048576 && Nat.ble (len + p.1) 1048576 && p.2.all atomB) <| sel (Nat.ble (len + p.1) cap) (appIn base len k p.1 cap p.2) (appOut base e len k p.1 cap p.2)
 | _ => die
def appendA (P : Program) (t u : TypeId) (s x : Value) : M Value :=
 opt (elemOf? P t) fun e => opt (sizeOf? P e) fun k => opt (bytesOf P e) fun by_ => opt (zeroOf P e) fun _ => opt (P.underlying u) fun d =>
  grd (!Nat.beq k 0 && isRowD d) <| bnd (srcOf k x) fun p => appendB e k by_ s p
def keyEq (P : Program) (t : TypeId) (a b : Value) : Option Bool := sel (closed a && closed b) (pureRun P (Op.equal t a b)) none
def keyFind (P : Program) (t : TypeId) (k : Value) : List MapEntry -> Nat -> Option (Option (Nat × Value))
 | [], _ => some none
 | e :: es, i => match keyEq P t k e.key with
  | some true => some (some (i, e.val))
  | some false => keyFind P t k es (i + 1)
  | none => none
def mapTy (P : Program) (t : TypeId) : Option (TypeId × TypeId) := (P.underlying t).bind fun
 | .map k e => some (k, e)
 | _ => none
def mapO : Obj -> Option (List MapEntry × Nat)
 | .map es clock => some (es.toList, clock)
 | _ => none
def keyOk (P : Program) (kt : TypeId) (empty : Bool) (k : Value) : Bool := closed k && (pureRun P (Instr.checkKey empty 10000 kt k)).isSome
def lookRes (z : Value) (ok : Bool) (f : Option (Nat × Value)) : Value :=
 let p : Value × Bool := match f with | some q => (q.2, true) | none => (z, false)
 sel ok (.tuple #[p.1, .bool p.2]) p.1
def lookB (P : Program) (ty : TypeId × TypeId) (es : List MapEntry) (k : Value) (ok : Bool) : M Nx :=
 grd (keyOk P ty.1 es.isEmpty k) <| opt (zeroOf P ty.2) fun z => opt (keyFind P ty.1 k es 0) fun f => val (lookRes z ok f)
def lookA (P : Program) (t : TypeId) (m k : Value) (ok : Bool) : M Nx := opt (mapTy P t) fun ty => match m with
 | .map none => lookB P ty [] k ok
 | .map (some r) => bnd (geto r) fun o => opt (mapO o) fun e => lookB P ty e.1 k ok
 | _ => die
def updE (es : List MapEntry) (clock : Nat) (k v : Value) : Option (Nat × Value) -> Option Obj
 | some q => match nth es q.1 with
  | some e => sel (Instr.sameBits 10000 e.key k) (some (.map (es.set q.1 ⟨k, v, e.born⟩).toArray clock)) none
  | none => none
 | none => some (.map (es ++ [(⟨k, v, clock⟩ : MapEntry)]).toArray (clock + 1))
def updA (P : Program) (t : TypeId) (m k v : Value) : M Nx := opt (mapTy P t) fun ty => match m with
 | .map (some r) => bnd (geto r) fun o => opt (mapO o) fun e => grd (keyOk P ty.1 false k) <| opt (keyFind P ty.1 k e.1 0) fun f =>
  opt (updE e.1 e.2 k v f) fun o' => bnd (seto r (some o')) fun _ => val undef
 | _ => die
def delA (P : Program) (t : TypeId) (m k : Value) : M Nx := opt (mapTy P t) fun ty => match m with
 | .map (some r) => bnd (geto r) fun o => opt (mapO o) fun e => grd (keyOk P ty.1 e.1.isEmpty k) <| opt (keyFind P ty.1 k e.1 0) fun f =>
  match f with
  | some q => bnd (seto r (some (.map (e.1.eraseIdx q.1).toArray e.2))) fun _ => val (.tuple #[])
  | none => val (.tuple #[])
 | _ => die
def rangeA (P : Program) (t : TypeId) (m : Value) : M Nx := opt (mapTy P t) fun _ => match m with
 | .map none => newv (.mapIter none 0 #[] 0)
 | .map (some r) => bnd (geto r) fun o => opt (mapO o) fun e => newv (.mapIter (some r) e.2 #[] e.2)
 | _ => die
def iterO : Obj -> Option (Option Nat × Nat × List Nat × Nat)
 | .mapIter m since seen st => some (m, since, seen.toList, st)
 | _ => none
def nextB (r m since last : Nat) (seen : List Nat) (es : List MapEntry) (clock : Nat) : M Nx :=
 grd (!(!seen.isEmpty && !es.isEmpty && es.all fun e => Nat.ble last e.born)) <|
  match es.filter fun e => !seen.contains e.born with
  | [] => val (.tuple #[.bool false])
  | [e] => grd (Nat.blt e.born since) <| bnd (seto r (some (.mapIter (some m) since (seen ++ [e.born]).toArray clock))) fun _ => val (.tuple #[.bool true, e.key, e.val])
  | _ => die
def nextA (x : Value) : M Nx := match x with
 | .pointer (some ⟨r, 0, none⟩) => bnd (geto r) fun o => opt (iterO o) fun it => match it.1 with
  | none => val (.tuple #[.bool false])
  | some m => bnd (geto m) fun o => opt (mapO o) fun e => nextB r m it.2.1 it.2.2.2 it.2.2.1 e.1 e.2
 | _ => die
def bnd? (v : Option Value) (d : Nat) : Option Nat := match v with
 | some v => natOf? v
 | none => some d
def sliceS (s : ByteArray) (h l : Nat) : M Nx := grd (Nat.ble l h && Nat.ble h s.size) (val (.string (s.extract l h)))
def sliceL (P : Program) (e : TypeId) (a : Option Addr) (cap h l : Nat) : M Nx := grd (Nat.ble l h && Nat.ble h cap) <| opt (sizeOf? P e) fun k =>
 sel (Nat.beq l 0) (val (.slice a h cap)) (grd (Nat.blt l cap) (val (.slice (a.map (·.add (l * k))) (h - l) (cap - l))))
def sliceY (P : Program) (e : TypeId) (a : Addr) (n h l : Nat) : M Nx := grd (Nat.ble l h && Nat.ble h n && Nat.blt l n) <|
 bnd (geto a.block) fun o => opt (cellsO o) fun c => grd (Nat.beq c.2.2 0) <| opt (sizeOf? P e) fun k => val (.slice (some (a.add (l * k))) (h - l) (n - l))
def sliceV (P : Program) (t : TypeId) (x : Value) (lo hi : Option Value) : M Nx := opt (P.underlying t) fun d => opt (bnd? lo 0) fun l => match d, x with
 | .string, .string s => opt (bnd? hi s.size) fun h => sliceS s h l
 | .slice e, .slice a len cap => opt (bnd? hi len) fun h => sliceL P e a cap h l
 | .array n e, .pointer (some a) => opt (bnd? hi n) fun h => sliceY P e a n h l
 | _, _ => die
def isPtrD : TypeDesc -> Bool
 | .pointer _ => true
 | _ => false
def isSlD : TypeDesc -> Bool
 | .slice _ => true
 | _ => false
def isU8D : TypeDesc -> Bool
 | .int .u8 => true
 | _ => false
def isStrD : TypeDesc -> Bool
 | .string => true
 | _ => false
def isUpD (d : TypeDesc) : Bool := Nat.beq d.ctorIdx 6
def isMapD : TypeDesc -> Bool
 | .map _ _ => true
 | _ => false
def der (P : Program) (t : TypeId) (f : TypeDesc -> Bool) : Bool := (P.underlying t).any f
def loadA (P : Program) (t : TypeId) (v : Value) : M Value := match v with
 | .pointer (some a) => opt (isAggB P t) fun b => match b with
  | true => opt (sizeOf? P t) fun k => bnd (loadN a k) fun l => ret (.agg l.toArray)
  | false => bnd (loadN a 1) fun l => match l with
   | [v] => ret v
   | _ => die
 | _ => die
def storeA (P : Program) (t : TypeId) (x v : Value) : M Nx := match x with
 | .pointer (some a) => opt (sizeOf? P t) fun k => grd (Nat.beq k v.cells.size) <| bnd (storeN a v.cells.toList) fun _ => val undef
 | _ => die
def ptrElem (P : Program) (t : TypeId) : Option TypeId := (P.underlying t).bind fun
 | .pointer e => some e
 | _ => none
def eqA (P : Program) (t : TypeId) : Value -> Value -> Option Bool
 | .pointer (some _), .pointer none => sel (der P t isPtrD) (some false) none
 | .pointer none, .pointer (some _) => sel (der P t isPtrD) (some false) none
 | .pointer (some p), .pointer (some q) => sel ((ptrElem P t).any (fun e => (sizeOf? P e).isSome) && p == q) (some true) none
 | .slice (some _) _ _, .slice none _ _ => sel (der P t isSlD) (some false) none
 | _, _ => none
def clo (P : Program) (sem : Sem Value) : M Nx := opt (pureRun P sem) fun v => grd (closed v) (val v)
def nni : Value -> Bool
 | .nilIface => false
 | _ => true
def binC (P : Program) (op : BinOp) (t : TypeId) (a b : Value) : M Nx := grd (nni a) <| clo P (do eqGuard op t (.tmp 0) (.tmp 0) a b; binOp op t a b)
def intOp (P : Program) (op : BinOp) (t : TypeId) (k : IntKind) (a b : Int) : M Nx := match op with
 | .add => val (.int k (k.wrap (a + b)))
 | .sub => val (.int k (k.wrap (a - b)))
 | .eql => val (.bool (a == b))
 | .neq => val (.bool (a != b))
 | .lss => val (.bool (decide (a < b)))
 | .leq => val (.bool (decide (a <= b)))
 | .gtr => val (.bool (decide (a > b)))
 | .geq => val (.bool (decide (a ≥ b)))
 | _ => binC P op t (.int k a) (.int k b)
def binB (P : Program) (op : BinOp) (t : TypeId) (a b : Value) : M Nx := match closed a && closed b with
 | true => binC P op t a b
 | false => match op with
  | .eql => bnd (lft (eqA P t a b)) fun r => val (.bool r)
  | .neq => bnd (lft (eqA P t a b)) fun r => val (.bool (!r))
  | _ => die
def binA (P : Program) (op : BinOp) (t : TypeId) (a b : Value) : M Nx := match a with
 | .int k x => match b with
  | .int k' y => sel (decide (k = k')) (intOp P op t k x y) (binB P op t a b)
  | _ => binB P op t a b
 | _ => binB P op t a b
def convF (P : Program) (a : Addr) (t : TypeId) : M Nx := opt (sizeOf? P t) fun k => grd (Nat.blt 0 k) (val (.pointer (some a)))
def convT (P : Program) (a : Addr) (e n : Nat) (u : TypeId) : M Nx := opt (sizeOf? P u) fun k => grd (Nat.blt 0 k && liesAt P P.depth e (n / P.cellsOf e) a.off u 1) (val (.pointer (some a)))
def convD (P : Program) (a : Addr) (e n : Nat) (d f : TypeDesc) : M Nx := match d with
 | .pointer t => grd (isUpD f) (convF P a t)
 | d => match f with
  | .pointer u => grd (isUpD d) (convT P a e n u)
  | _ => die
def convP (P : Program) (src dst : TypeId) (a : Addr) : M Nx := grd a.spot.isNone <| bnd (geto a.block) fun o => opt (cellsO o) fun c => grd (Nat.beq c.2.2 0 && Nat.blt a.off c.1.length) <|
 opt (P.underlying src) fun d => opt (P.underlying dst) fun e => convD P a c.2.1 c.1.length d e
def convA (P : Program) (src dst : TypeId) (v : Value) : M Nx := match v with
 | .slice (some a) len _ => grd ((elemOf? P src).any (der P · isU8D) && der P dst isStrD) <| bnd (loadN a len) fun l => opt (u8s l) fun z => val (.string ⟨z.toArray⟩)
 | .pointer (some a) => convP P src dst a
 | v => grd (closed v) <| clo P (convert src dst v)
def makeSl (P : Program) (t : TypeId) (l c : Value) : M Nx := opt (elemOf? P t) fun e => opt (sizeOf? P e) fun k => opt (zeroOf P e) fun z => opt (bytesOf P e) fun by_ =>
 opt (natOf? l) fun n => opt (natOf? c) fun m => grd (Nat.ble n m && Nat.ble (m * by_) 1048576 && Nat.ble m 1048576) <|
  bnd (newo (.cells (rep m z.cells.toList).toArray e (0, 0))) fun b => val (.slice (some ⟨b, 0, none⟩) n m)
def fieldA (P : Program) (t : TypeId) (x : Value) (i : Nat) : M Nx := match x with
 | .pointer (some a) => opt (P.underlying t) fun d => match d with
  | .struct fs => opt (nth fs.toList i) fun f => opt (sizeOf? P f.type) fun k => grd (Nat.blt 0 k) (val (.pointer (some (a.add f.offset))))
  | _ => die
 | _ => die
def indexP (P : Program) (e : TypeId) (a : Addr) (len j : Nat) : M Nx := opt (sizeOf? P e) fun k => grd (Nat.blt j len) (val (.pointer (some (a.add (j * k)))))
def indexA (P : Program) (t : TypeId) (x i : Value) : M Nx := opt (natOf? i) fun j => opt (P.underlying t) fun d => match d, x with
 | .array len e, .pointer (some a) => indexP P e a len j
 | .slice e, .slice (some a) len _ => indexP P e a len j
 | _, _ => die
def extrA (v : Value) (i : Nat) : M Nx := match v with
 | .tuple vs => opt (nth vs.toList i) val
 | _ => die
def buildSl (P : Program) (t : TypeId) (len : Nat) (parts : List (Nat × Value)) : M Nx := opt (elemOf? P t) fun e => opt (sizeOf? P e) fun k => opt (zeroOf P e) fun z =>
 grd (Nat.ble (len * k) 4096) <| opt (Instr.fill (fun i => some (i * k, k)) (rep len z.cells.toList).toArray parts) fun cells =>
  bnd (newo (.cells cells e (0, 0))) fun b => val (.slice (some ⟨b, 0, none⟩) len len)
def copyTo (base : Option Addr) (m : Nat) (cells : List Value) : M Nx := match base with
 | some a => bnd (storeN a cells) fun _ => val (.int .i64 m)
 | none => grd (Nat.beq m 0) (val (.int .i64 m))
def copyA (P : Program) (t : TypeId) (d x : Value) : M Nx := opt (elemOf? P t) fun e => opt (sizeOf? P e) fun k => match d with
 | .slice base n _ => match x with
  | .slice (some a) l _ => bnd (loadN a (Nat.min l n * k)) fun c => copyTo base (Nat.min l n) c
  | .slice none l _ => grd (Nat.beq l 0) (val (.int .i64 0))
  | .string z => grd (Nat.beq k 1) (copyTo base (Nat.min z.size n) (strCells (z.extract 0 (Nat.min z.size n))))
  | _ => die
 | _ => die
def strOf (P : Program) (u : TypeId) (a : Addr) (n : Nat) : M Nx := grd (!Nat.beq n 0 && Nat.beq a.off 0 && Nat.ble n 1048576) <| bnd (loadN a n) fun l => opt (u8s l) fun z => bnd (geto a.block) fun o => opt (cellsO o) fun c =>
 grd (Nat.beq (P.cellsOf u) 1 && Nat.beq c.2.1 u) <| bnd (seto a.block (some (.cells c.1.toArray c.2.1 (2, 0)))) fun _ => val (.string ⟨z.toArray⟩)
def i64Of? : Value -> Option Nat
 | .int .i64 (.ofNat n) => some n
 | _ => none
def strP (P : Program) (l : List TypeId) (a : Addr) (y : Value) : M Nx := match l with
 | [pt, _] => opt (ptrElem P pt) fun u => opt (i64Of? y) fun n => strOf P u a n
 | _ => die
def builtS (b : Builtin) (ts : Array TypeId) (t : TypeId) (cs : Array Bool) (args : List Value) : Sem Value := do
 match ← builtin b ts t cs args.toArray with
 | .value v => pure v
 | _ => stuck ""
def plainB (P : Program) (b : Builtin) (ts : Array TypeId) (t : TypeId) (cs : Array Bool) (args : List Value) : M Nx := grd (args.all closed) <| clo P (builtS b ts t cs args)
def lenA (P : Program) (t : TypeId) (v : Value) (k : M Nx) : M Nx := match v with
 | .slice (some _) n _ => grd (der P t isSlD) (val (.int .i64 n))
 | .map (some r) => grd (der P t isMapD) <| bnd (geto r) fun o => opt (mapO o) fun e => val (.int .i64 e.1.length)
 | _ => k
def isRowOf (b : Builtin) : Bool := Nat.beq b.ctorIdx 20
def isTextOf (b : Builtin) : Bool := Nat.beq b.ctorIdx 21
def rowA (x : Value) : M Nx := match x with
 | .slice (some a) _ c => grd (!Nat.beq c 0) (val (.pointer (some a)))
 | _ => die
def textA (P : Program) (ts : Array TypeId) (x y : Value) : M Nx := match x with
 | .pointer (some a) => strP P ts.toList a y
 | _ => die
def builtA (P : Program) (b : Builtin) (ts : Array TypeId) (t : TypeId) (cs : Array Bool) (args : List Value) : M Nx := match args with
 | [x] => match b with
  | .len => opt (nth ts.toList 0) fun t0 => lenA P t0 x (plainB P b ts t cs args)
  | b => sel (isRowOf b) (rowA x) (plainB P b ts t cs args)
 | [x, y] => match b with
  | .append => opt (nth ts.toList 0) fun t0 => opt (nth ts.toList 1) fun t1 => bnd (appendA P t0 t1 x y) val
  | .copy => opt (nth ts.toList 0) fun t0 => copyA P t0 x y
  | .delete => opt (nth ts.toList 0) fun t0 => delA P t0 x y
  | b => sel (isTextOf b) (textA P ts x y) (plainB P b ts t cs args)
 | _ => plainB P b ts t cs args
def callV (v : Value) (args : List Value) : M Nx := match v with
 | .func (.func f) first captured => ret (.call f (first.toList ++ (args ++ captured.toList)))
 | _ => die
def isConstB : Operand -> Bool
 | .const _ => true
 | _ => false
def callA (P : Program) (c : Call) (t : TypeId) (ρ : Operand -> Value) : M Nx := match c.callee with
 | .value f => callV (ρ f) (c.args.toList.map ρ)
 | .invoke _ _ => die
 | .builtin b => builtA P b c.argTypes t (c.args.map isConstB) (c.args.toList.map ρ)
def pickA (c a b : Value) : M Nx := match c with
 | .bool true => val a
 | .bool false => val b
 | _ => die
def nilA (v : Value) : M Nx := match v with
 | .pointer (some a) => val (.pointer (some a))
 | .func (.func f) a b => val (.func (.func f) a b)
 | _ => die
def unB (P : Program) (op : UnOp) (v : Value) : M Nx := grd (closed v) <| clo P (Op.unary op v)
def unA (P : Program) (op : UnOp) (v : Value) : M Nx := match op with
 | .not => match v with
  | .bool b => val (.bool (!b))
  | _ => unB P op v
 | _ => unB P op v
def pureA (P : Program) (s : Sem Value) : M Nx := bnd (lft (pureRun P s)) val
def idxD (P : Program) (j : Nat) : TypeDesc -> Value -> M Nx
 | .array len e, .agg cs => grd (Nat.blt j len) (opt (sizeOf? P e) fun k => pureA P (part e cs (j * k)))
 | .string, .string z => opt (nth z.data.toList j) fun b => val (.int .u8 b.toNat)
 | _, _ => die
def idxA (P : Program) (t : TypeId) (v i : Value) : M Nx := opt (natOf? i) fun j => opt (P.underlying t) fun d => idxD P j d v
def exA (P : Program) (o : Oper) (ρ : Operand -> Value) : M Nx :=
 match o.op with
 | .move x => val (ρ x)
 | .assign x => val (ρ x)
 | .pick c a b => pickA (ρ c) (ρ a) (ρ b)
 | .alloc t => opt (zeroOf P t) fun z => newv (.cells z.cells t (0, 0))
 | .box t x => newv (.cells (ρ x).cells t (0, 0))
 | .build t parts => opt (zeroOf P t) fun _ => opt (P.built t (parts.toList.map fun p => (p.1, ρ p.2))) fun c => val (.agg c)
 | .buildSlice t len parts => buildSl P t len (parts.toList.map fun p => (p.1, ρ p.2))
 | .load t x => bnd (loadA P t (ρ x)) val
 | .store t x y => storeA P t (ρ x) (ρ y)
 | .nilCheck x => nilA (ρ x)
 | .binOp op t x y _ => binA P op t (ρ x) (ρ y)
 | .unOp op _ x => unA P op (ρ x)
 | .convert src dst x => convA P src dst (ρ x)
 | .makeFunc fn first captured => val (.func fn (first.map ρ) (captured.map ρ))
 | .makeMap _ none => bnd (newo (.map #[] 0)) fun n => val (.map (some n))
 | .makeSlice t l c => makeSl P t (ρ l) (ρ c)
 | .slice t x lo hi none => sliceV P t (ρ x) (lo.map ρ) (hi.map ρ)
 | .fieldAddr t x i => fieldA P t (ρ x) i
 | .field t x i => pureA P (Instr.field t (ρ x) i)
 | .indexAddr t x i => indexA P t (ρ x) (ρ i)
 | .index t x i => idxA P t (ρ x) (ρ i)
 | .lookup t m k ok => lookA P t (ρ m) (ρ k) ok
 | .mapUpdate t m k x => updA P t (ρ m) (ρ k) (ρ x)
 | .range t x => rangeA P t (ρ x)
 | .next x false => nextA (ρ x)
 | .extract t i => extrA (ρ t) i
 | .call c => callA P c o.type ρ
 | _ => die
inductive Ex where
 | normal
 | exit (id : Nat)
 | ret
def evA (tm : Tr Value) (x : Operand) : Value := match x with
 | .tmp t => (tm.get t).getD undef
 | .const v => v
 | .func f => .func (.func f) #[] #[]
 | .global _ => .chan (some 0)
def okOpd : Operand -> Bool
 | .const v => closed v
 | .global _ => false
 | _ => true
def opOk (o : Oper) : Bool := o.op.operands.toList.all okOpd
def putA (tm : Tr Value) (n : Nat) (d : Option Tmp) (v : Value) : Option (Tr Value) := match d with
 | none => some tm
 | some d => sel (Nat.blt d n) (some (tm.set (some v) d)) none
def yldV : Option Value -> Option Bool
 | some (.bool b) => some b
 | _ => none
def yld (ops : List Oper) (tm : Tr Value) (j : Nat) : Option Bool := yldV (((nth ops j).bind (·.dst)).bind tm.get)
def wantedA (ops : List Oper) (tm : Tr Value) (g : Option (Nat × Bool)) : Bool := match g with
 | none => true
 | some p => match yld ops tm p.1 with
  | some b => b == p.2
  | none => false
section
variable (P : Program) (ne : FuncId) (plug : FuncId -> List Value -> Option Value) (call : FuncId -> List Value -> M Value)
def doCall (f : FuncId) (args : List Value) : M Value := match Nat.beq f ne with
 | true => match args with
  | [v] => ret v
  | _ => die
 | false => match plug f args with
 | some v => ret v
 | none => call f args
def contA (x : Nx) : M Value := match x with
 | .val v => ret v
 | .call f args => doCall ne plug call f args
def stepA (o : Oper) (tm : Tr Value) : M Value := grd (opOk o) <| bnd (exA P o (evA tm)) (contA ne plug call)
def valA (ops : List Oper) (o : Oper) (tm : Tr Value) : M Value := Bool.rec (ret undef) (stepA P ne plug call o tm) (wantedA ops tm o.guard)
def oneA (n : Nat) (ops : List Oper) (o : Oper) (tm : Tr Value) : M (Tr Value) := bnd (valA P ne plug call ops o tm) fun v => lft (putA tm n o.dst v)
def runOps (n : Nat) (ops l : List Oper) : Tr Value -> M (Tr Value) :=
 List.rec (fun tm => ret tm) (fun o _ k tm => bnd (oneA P ne plug call n ops o tm) k) l
structure Lg where
 i : Nat
 rd : List Nat
 wr : List Nat
 lo : Nat
 hi : Nat
def meets (a b : List Nat) : Bool := a.any b.contains
def meet2 (x y : Lg) : Bool := meets x.wr y.wr || (meets x.wr y.rd || meets x.rd y.wr)
def depsA (o : Oper) : List Nat := (o.after.toList.filter (Region.binds .any)).map (·.on)
def ancOf (acc : List (List Nat)) (o : Oper) : List Nat := (depsA o).flatMap fun e => e :: (nth acc e).getD []
def ancs : List Oper -> List (List Nat) -> List (List Nat)
 | [], acc => acc
 | o :: l, acc => ancs l (acc ++ [ancOf acc o])
def stands (an : List (List Nat)) (i j : Nat) : Bool := ((nth an j).getD []).contains i
def pairOk (an : List (List Nat)) (x y : Lg) : Bool := Bool.rec true (stands an y.i x.i) (meet2 x y)
def pairsOk (an : List (List Nat)) (x : Lg) (l : List Lg) : Bool := match x.wr with
 | [] => l.all fun y => match y.wr with
  | [] => true
  | _ => pairOk an x y
 | _ => l.all (pairOk an x)
def madeBy (nw : List Nat) (y : Lg) : Bool := nw.any fun b => Nat.ble y.lo b && Nat.blt b y.hi
def madeOk (an : List (List Nat)) (i : Nat) (nw : List Nat) (l : List Lg) : Bool := match nw with
 | [] => true
 | _ => l.all fun y => Bool.rec true (stands an y.i i) (madeBy nw y)
def newOf (nx : Nat) (x : Lg) : List Nat := x.rd.filter (Nat.ble nx) ++ x.wr.filter (Nat.ble nx)
def logsOk (nx : Nat) (an : List (List Nat)) : List Lg -> Bool
 | [] => true
 | x :: l => pairsOk an x l && (madeOk an x.i (newOf nx x) l && logsOk nx an l)
def tmpsOk (ops : Array Oper) (an : List (List Nat)) : List Oper -> Nat -> List (Nat × Oper) -> Bool
 | [], _, _ => true
 | o :: l, i, ps => (ps.all fun p => o.apart ops p.2 || stands an p.1 i) && tmpsOk ops an l (i + 1) ((i, o) :: ps)
def edgesOk : List Oper -> Nat -> Bool
 | [], _ => true
 | o :: l, i => (depsA o).all (Nat.blt · i) && edgesOk l (i + 1)
def regOk (ops : Array Oper) : Bool := Region.noSelect ops && edgesOk ops.toList 0 && tmpsOk ops (ancs ops.toList []) ops.toList 0 []
def under (nx : Nat) (l : List Nat) : List Nat := l.filter (Nat.blt · nx)
def logEnd {α : Type} (nx : Nat) (lg : Bool) (rd wr : List Nat) (a : α) (s : St) : Option ((α × List Nat × List Nat × Nat × Nat) × St) := match s with
 | ⟨h, nx', _, rd', wr'⟩ => some ((a, under nx rd', under nx wr', nx, nx'), ⟨h, nx', lg, Bool.rec [] (under nx rd' ++ rd) lg, Bool.rec [] (under nx wr' ++ wr) lg⟩)
def logS {α : Type} (x : M α) (s : St) : Option ((α × List Nat × List Nat × Nat × Nat) × St) := match s with
 | ⟨h, nx, lg, rd, wr⟩ => Option.rec none (fun p => Prod.rec (fun a s' => logEnd nx lg rd wr a s') p) (x ⟨h, nx, true, [], []⟩)
def logOn {α : Type} (x : M α) : M (α × List Nat × List Nat × Nat × Nat) := fun s => logS x s
def runDraw (n : Nat) (ops : List Oper) : List Oper -> Nat -> Tr Value -> List Lg -> M (Tr Value × List Lg)
 | [], _, tm, ls => ret (tm, ls)
 | o :: l, i, tm, ls => bnd (logOn (valA P ne plug call ops o tm)) fun p => bnd (lft (putA tm n o.dst p.1)) fun tm' => runDraw n ops l (i + 1) tm' (⟨i, p.2.1, p.2.2.1, p.2.2.2.1, p.2.2.2.2⟩ :: ls)
def nxOf : M Nat := fun s => match s with
 | ⟨h, nx, lg, rd, wr⟩ => some (nx, ⟨h, nx, lg, rd, wr⟩)
def drawA (n : Nat) (ops : Array Oper) (tm : Tr Value) : M (Ex × Tr Value) := grd (regOk ops) <| bnd nxOf fun nx => bnd (runDraw P ne plug call n ops.toList ops.toList 0 tm []) fun p => grd (logsOk nx (ancs ops.toList []) p.2) (ret (.normal, p.1))
def exSeq (k : Tr Value -> M (Ex × Tr Value)) (p : Ex × Tr Value) : M (Ex × Tr Value) := match p.1 with
 | .normal => k p.2
 | _ => ret p
def exBlock (id : Nat) (p : Ex × Tr Value) : M (Ex × Tr Value) := match p.1 with
 | .exit i => ret (sel (Nat.beq i id) .normal (.exit i), p.2)
 | _ => ret p
def exCond (v : Value) (a b : M (Ex × Tr Value)) : M (Ex × Tr Value) := match v with
 | .bool true => a
 | .bool false => b
 | _ => die
def codeStep (n : Nat) (self : Code -> Tr Value -> M (Ex × Tr Value)) (c : Code) (tm : Tr Value) : M (Ex × Tr Value) := match c with
 | .skip => ret (.normal, tm)
 | .region _ ops d => match d with
  | false => bnd (runOps P ne plug call n ops.toList ops.toList tm) fun tm => ret (.normal, tm)
  | true => drawA P ne plug call n ops tm
 | .seq a b => bnd (self a tm) (exSeq (self b))
 | .cond x a b => exCond (evA tm x) (self a tm) (self b tm)
 | .block id c => bnd (self c tm) (exBlock id)
 | .loop c => bnd (self c tm) (exSeq (self (.loop c)))
 | .exit id => ret (.exit id, tm)
 | .ret => ret (.ret, tm)
 | _ => die
def runCode (n f : Nat) : Code -> Tr Value -> M (Ex × Tr Value) := Nat.rec (fun _ _ => die) (fun _ self c tm => codeStep P ne plug call n self c tm) f
def res1 (tm : Tr Value) (r : ResultVar) : M Value := match r with
 | .tmp t => ret ((tm.get t).getD undef)
 | .cell a t => loadA P t ((tm.get a).getD undef)
def resL (tm : Tr Value) (l : List ResultVar) : M (List Value) := List.rec (ret []) (fun r _ k => bnd (res1 P tm r) fun v => bnd k fun vs => ret (v :: vs)) l
def tup (l : List Value) : Value := match l with
 | [v] => v
 | l => .tuple l.toArray
def seqTr (l : List Value) : Nat -> Tr Value -> Tr Value := List.rec (fun _ t => t) (fun v _ k i t => k (i + 1) (t.set (some v) i)) l
def trimEnd {α : Type} (nx : Nat) (rd wr : List Nat) (a : α) (s : St) : Option (α × St) := match s with
 | ⟨h, nx', lg, rd', wr'⟩ => some (a, ⟨h, nx', lg, under nx rd' ++ rd, under nx wr' ++ wr⟩)
def trimS {α : Type} (x : M α) (s : St) : Option (α × St) := match s with
 | ⟨h, nx, lg, rd, wr⟩ => Bool.rec (x ⟨h, nx, false, rd, wr⟩) (Option.rec none (fun p => Prod.rec (fun a s' => trimEnd nx rd wr a s') p) (x ⟨h, nx, true, [], []⟩)) lg
def trim {α : Type} (x : M α) : M α := fun s => trimS x s
def exRet (fn : Func) (p : Ex × Tr Value) : M Value := match p.1 with
 | .exit _ => die
 | _ => bnd (resL P p.2 fn.results.toList) fun l => ret (tup l)
def fnStep (fn : Func) (args : List Value) : M Value := match fn.body with
 | none => die
 | some c => trim (bnd (runCode P ne plug call (Nat.max fn.ntmps args.length) 100000 c (seqTr args 0 .leaf)) (exRet P fn))
end
def runFn (P : Program) (ne : FuncId) (plug : FuncId -> List Value -> Option Value) (f : Nat) : FuncId -> List Value -> M Value :=
 Nat.rec (fun _ _ => die) (fun _ self g args => opt (nth P.funcs.toList g) fun fn => fnStep P ne plug self fn args) f
def run0 (P : Program) (ne : FuncId) (plug : FuncId -> List Value -> Option Value) (f : FuncId) (args : List Value) : Option (Value × St) := runFn P ne plug 200 f args ⟨.leaf, 0, false, [], []⟩
end Go.Proofs.YtmdlgfnibjcgmaaGreatDoor.Rn
