/-
  A deterministic evaluator for the model's code over an abstract heap: regions that draw their order, code, calls; no condition.
-/
import Derived.Test.YtahbpehdjbmndaaGreatDoorEvDefs
namespace Go.Ev
noncomputable section

/-! ### A region that draws its order: carried out in the text's order; every operation that reads is asked again wherever it may come -/
inductive Kind where
  | eff | read | pure
  deriving DecidableEq

def kindOf (P : Program) (o : Oper) : Kind := match o.op with
  | .alloc _ => .eff
  | .box _ _ => .eff
  | .buildSlice _ _ _ => .eff
  | .store _ _ _ => .eff
  | .makeMap _ _ => .eff
  | .makeSlice _ _ _ => .eff
  | .mapUpdate _ _ _ _ => .eff
  | .insert _ _ _ _ => .eff
  | .call c => match c.callee with
    | .builtin b => match b with
      | .len => .read
      | .cap => .read
      | .min => .pure
      | .max => .pure
      | _ => .eff
    | _ => .eff
  | .convert s d _ => match tk P s with
    | .str => match tk P d with
      | .slc _ => .eff
      | _ => .pure
    | .int _ => .pure
    | _ => .read
  | .load _ _ => .read
  | .lookup _ _ _ _ => .read
  | .slice _ _ _ _ _ => .read
  | _ => .pure
def isEff (P : Program) (o : Oper) : Bool := match kindOf P o with
  | .eff => true
  | _ => false

def bindsAny (e : Edge) : Bool := match e.ground with
  | .textOnly _ => false
  | .gcOnly _ => false
  | _ => true
def maskE (acc : List Nat) : List Edge → Nat
  | [] => 0
  | e :: es => bif bindsAny e then (1 <<< e.on) ||| ((acc.getD e.on 0) ||| maskE acc es) else maskE acc es
def befs : List Oper → List Nat → List Nat
  | [], acc => acc
  | o :: rest, acc => befs rest (acc ++ [maskE acc o.after.toList])

/-- the temporaries that an operation names: its operands, its guard -/
def opdTmps : List Operand → List Nat
  | [] => []
  | x :: l => match x with
    | .tmp t => t :: opdTmps l
    | _ => opdTmps l
def guardTmps (ops : List Oper) (g : Option (Nat × Bool)) : List Nat := match g with
  | none => []
  | some jw => match dstOf ops jw.1 with
    | some t => [t]
    | none => []
def tmpsOf (ops : List Oper) (o : Oper) : List Nat := opdTmps o.op.operands.toList ++ guardTmps ops o.guard

def forallIdx (p : Nat → Oper → Bool) : List Oper → Nat → Bool
  | [], _ => true
  | o :: rest, i => p i o && forallIdx p rest (i + 1)
def memN (t : Nat) : List Nat → Bool
  | [] => false
  | x :: l => Nat.beq t x || memN t l

def apartDst (o o' : Oper) : Bool := match o.dst with
  | none => true
  | some d => match o'.dst with
    | none => true
    | some d' => !Nat.beq d d'
/-- what o names and o' writes is ordered -/
def tmpOrdered (ops : List Oper) (b : List Nat) (j i : Nat) (o o' : Oper) : Bool := match o'.dst with
  | none => true
  | some d => !memN d (tmpsOf ops o) || ((b.getD j 0).testBit i || (b.getD i 0).testBit j)
def effOrdered (P : Program) (b : List Nat) (j i : Nat) (o o' : Oper) : Bool := !Nat.blt i j || (!isEff P o || (!isEff P o' || (b.getD j 0).testBit i))
def edgesBack (j : Nat) : List Edge → Bool
  | [] => true
  | e :: es => (!bindsAny e || Nat.blt e.on j) && edgesBack j es
/-- an order of all operations that fits the edges of one mode -/
def fitsMode (md : Region.Mode) (ops : List Oper) (seen : List Nat) : List Nat → Bool
  | [] => forallIdx (fun i _ => memN i seen) ops 0
  | i :: l => (match nthL i ops with
      | some o => o.after.toList.all fun e => !Region.binds md e || memN e.on seen
      | none => false) && fitsMode md ops (i :: seen) l
def drawOk (P : Program) (ops : List Oper) : Bool :=
  let b := befs ops []
  (fitsMode .text ops [] (Region.linearise .text ops.toArray 0) && fitsMode .gc ops [] (Region.linearise .gc ops.toArray 0)) &&
  fitsMode .any ops [] (Region.linearise .any ops.toArray 0) &&
  forallIdx (fun j o => edgesBack j o.after.toList && forallIdx (fun i o' =>
      Nat.beq i j || (apartDst o o' && (tmpOrdered ops b j i o o' && effOrdered P b j i o o'))) ops 0) ops 0

/-- a read, as the text's order met it -/
structure Met where
  o : Oper
  tm : T Value
  v : Value
  lo : Nat
  hi : Nat

mutual
def sameV : Value → Value → Bool
  | .bool a, .bool b => a == b
  | .int k a, .int k' b => sameKind k k' && intBeq a b
  | .string ⟨⟨a⟩⟩, .string ⟨⟨b⟩⟩ => eqBytes a b
  | .pointer none, .pointer none => true
  | .pointer (some ⟨i, o, none⟩), .pointer (some ⟨j, o', none⟩) => Nat.beq i j && Nat.beq o o'
  | .slice none l c, .slice none l' c' => Nat.beq l l' && Nat.beq c c'
  | .slice (some ⟨i, o, none⟩) l c, .slice (some ⟨j, o', none⟩) l' c' => Nat.beq i j && Nat.beq o o' && Nat.beq l l' && Nat.beq c c'
  | .map none, .map none => true
  | .map (some a), .map (some b) => Nat.beq a b
  | .nilFunc, .nilFunc => true
  | .nilIface, .nilIface => true
  | .func (.func f) a b, .func (.func g) a' b' => Nat.beq f g && sameA a a' && sameA b b'
  | .func (.yield f) a b, .func (.yield g) a' b' => Nat.beq f g && sameA a a' && sameA b b'
  | .iface t v, .iface u w => Nat.beq t u && sameV v w
  | .agg a, .agg b => sameA a b
  | .tuple a, .tuple b => sameA a b
  | _, _ => false
def sameA : Array Value → Array Value → Bool
  | ⟨a⟩, ⟨b⟩ => sameL a b
def sameL : List Value → List Value → Bool
  | [], [] => true
  | a :: x, b :: y => sameV a b && sameL x y
  | _, _ => false
end

def ihNone : IH := fun _ => none
/-- the same value: looked at, or else said -/
def sameOr (a b : Value) : Bool := sameV a b || @decide (a = b) (Classical.propDecidable _)
/-- the read's value in a heap -/
def holdsAt (P : Program) (m : Met) (h : AHeap) : Bool := match m with
  | ⟨o, tm, v, _, _⟩ => match evOper o.op ihNone P o tm h with
    | some r => sameOr r.1 v
    | none => false
def holdsIn (P : Program) (m : Met) : List AHeap → Nat → Bool
  | [], _ => true
  | h :: hs, k => (!(Nat.ble m.lo k && Nat.ble k m.hi) || holdsAt P m h) && holdsIn P m hs (k + 1)
def allHold (P : Program) (hs : List AHeap) : List Met → Bool
  | [] => true
  | m :: ms => holdsIn P m hs 0 && allHold P hs ms

def countEff (P : Program) (p : Nat → Bool) : List Oper → Nat → Nat
  | [], _ => 0
  | o :: rest, i => bif isEff P o && p i then countEff P p rest (i + 1) + 1 else countEff P p rest (i + 1)
def loOf (P : Program) (ops : List Oper) (b : List Nat) (i : Nat) : Nat := countEff P (fun e => (b.getD i 0).testBit e) ops 0
def hiOf (P : Program) (ops : List Oper) (b : List Nat) (i : Nat) : Nat := countEff P (fun e => !(b.getD e 0).testBit i) ops 0

/-- what is kept of the operations so far: the heaps (the last one first), the reads -/
def noteOp (P : Program) (ops : List Oper) (b : List Nat) (i : Nat) (o : Oper) (w : Bool) (tm : T Value) (v : Value) (h : AHeap) (hs : List AHeap) (ms : List Met) (k : List AHeap → List Met → Option Res) : Option Res := match kindOf P o with
  | .eff => k (h :: hs) ms
  | .read => bif w then k hs (⟨o, tm, v, loOf P ops b i, hiOf P ops b i⟩ :: ms) else k hs ms
  | .pure => k hs ms
abbrev TextK := T Value → AHeap → List AHeap → List Met → Option Res
def contText (P : Program) (ops : List Oper) (b : List Nat) (n : Nat) (i : Nat) (o : Oper) (tm : T Value) (hs : List AHeap) (ms : List Met) (r : Out) (k : TextK) : Option Res := match r with
  | some vh => match vh with
    | (v, h') => putK n tm o.dst v fun tm' => noteOp P ops b i o true tm v h' hs ms (k tm' h')
  | none => none
def stepText (P : Program) (ih : IH) (ops : List Oper) (b : List Nat) (n : Nat) (i : Nat) (o : Oper) (tm : T Value) (h : AHeap) (hs : List AHeap) (ms : List Met) (k : TextK) : Option Res :=
  bif wantedA ops tm o.guard then contText P ops b n i o tm hs ms (evOper o.op ih P o tm h) k
  else putK n tm o.dst undef fun tm' => noteOp P ops b i o false tm undef h hs ms (k tm' h)
/-- The text's order. -/
def evText (P : Program) (ih : IH) (ops : List Oper) (b : List Nat) (n : Nat) (k : T Value → AHeap → Option Res) : List Oper → Nat → T Value → AHeap → List AHeap → List Met → Option Res
  | [], _, tm, h, hs, ms => bif allHold P hs.reverse ms then k tm h else none
  | o :: rest, i, tm, h, hs, ms => stepText P ih ops b n i o tm h hs ms fun tm' h' hs' ms' => evText P ih ops b n k rest (i + 1) tm' h' hs' ms'

def evDraw (P : Program) (ih : IH) (ops : List Oper) (n : Nat) (tm : T Value) (h : AHeap) (k : T Value → AHeap → Option Res) : Option Res :=
  bif drawOk P ops then evText P ih ops (befs ops []) n k ops 0 tm h [h] [] else none

/-! ### Code -/
abbrev CodeF := IH → Program → Nat → Option Nat → T Value → List Nat → AHeap → Option Res
def endLoopA (h : AHeap) (l : Nat) (k : Option Code → AHeap → Option Res) : Option Res := match h.get l with
  | some o => match o with
    | .loop s pe n tm ps a b d => bif decide (s = .busy) then none else h.setK l (.loop .exhausted pe n tm ps a b d) fun h' => k pe h'
    | _ => none
  | none => none
def endRange (ih : IH) (n : Nat) (ro : Option Nat) (tm : T Value) (mk : List Nat) (l : Nat) (r : Out) : Option Res := match r with
  | some vh => endLoopA vh.2 l fun pe h3 => match pe with
    | none => some (.code .normal tm mk h3)
    | some c => ih (.code c n ro tm mk h3)
  | none => none
def evRange (ih : IH) (f : FuncId) (first cap : List Value) (ps : Array Tmp) (assign body : Code) (n : Nat) (ro : Option Nat) (tm : T Value) (d : Nat) (mk : List Nat) (h : AHeap) : Option Res :=
  h.newK (.loop .ready none n tm ps assign body d) fun l h1 => endRange ih n ro tm mk l (valRes (ih (.call f (first ++ (.func (.yield l) #[] #[] :: cap)) h1)))
def defersOf (h : AHeap) (l : Nat) : Option Nat := match h.get l with
  | some o => match o with
    | .loop _ _ _ _ _ _ _ d => some d
    | _ => none
  | none => none
def rangeAt (ih : IH) (f : FuncId) (first cap : List Value) (ps : Array Tmp) (assign body : Code) (n : Nat) (ro : Option Nat) (tm : T Value) (mk : List Nat) (h : AHeap) : Option Res := match ro with
  | none => h.newK (.deferred false) fun d h' => evRange ih f first cap ps assign body n ro tm d (d :: mk) h'
  | some l => match defersOf h l with
    | some d => evRange ih f first cap ps assign body n ro tm d mk h
    | none => none

def cRegion (ops : Array Oper) (draw : Bool) : CodeF := fun ih P n _ tm mk h =>
  bif draw then evDraw P ih ops.toList n tm h fun tm' h' => some (.code .normal tm' mk h')
  else evOps P ih ops.toList n ops.toList tm h fun tm' h' => some (.code .normal tm' mk h')
def thenRes (k : T Value → List Nat → AHeap → Option Res) (e : AExit) (tm : T Value) (mk : List Nat) (h : AHeap) : Option Res :=
  AExit.rec (motive := fun _ => Option Res) (k tm mk h) (fun id => some (.code (.exit id) tm mk h)) (fun l => some (.code (.goto l) tm mk h)) (some (.code .ret tm mk h)) e
def thenCode (r : Option Res) (k : T Value → List Nat → AHeap → Option Res) : Option Res :=
  Option.rec (motive := fun _ => Option Res) none (fun r => Res.rec (motive := fun _ => Option Res) (thenRes k) (fun _ _ => none) r) r
def cSeq (a b : Code) : CodeF := fun ih _ n ro tm mk h => thenCode (ih (.code a n ro tm mk h)) fun tm' mk' h' => ih (.code b n ro tm' mk' h')
def cCond (x : Operand) (t e : Code) : CodeF := fun ih P n ro tm mk h => match val? P x tm with
  | some v => match v with
    | .bool b => match b with
      | true => ih (.code t n ro tm mk h)
      | false => ih (.code e n ro tm mk h)
    | _ => none
  | none => none
def blockEnd (id : Nat) (r : Option Res) : Option Res := match r with
  | some r => match r with
    | .code e tm mk h => match e with
      | .exit id' => bif Nat.beq id' id then some (.code .normal tm mk h) else some (.code (.exit id') tm mk h)
      | e => some (.code e tm mk h)
    | _ => none
  | none => none
def cBlock (id : Nat) (b : Code) : CodeF := fun ih _ n ro tm mk h => blockEnd id (ih (.code b n ro tm mk h))
def cLoop (b : Code) : CodeF := fun ih _ n ro tm mk h => thenCode (ih (.code b n ro tm mk h)) fun tm' mk' h' => ih (.code (.loop b) n ro tm' mk' h')
def cRange (g : Operand) (ps : Array Tmp) (assign body : Code) : CodeF := fun ih P n ro tm mk h => match val? P g tm with
  | some v => match v with
    | .func fn first cap => match fn with
      | .func f => bif isGo P f then rangeAt ih f first.toList cap.toList ps assign body n ro tm mk h else none
      | _ => none
    | _ => none
  | none => none
def cEnd (e : AExit) : CodeF := fun _ _ _ _ tm mk h => some (.code e tm mk h)
def cNone : CodeF := fun _ _ _ _ _ _ _ => none
def evCode (c : Code) : CodeF := Code.rec (motive := fun _ => CodeF) (cEnd .normal) (fun _ ops draw => cRegion ops draw) (fun a b _ _ => cSeq a b) (fun x t e _ _ => cCond x t e)
  (fun id b _ => cBlock id b) (fun b _ => cLoop b) (fun g ps a b _ _ => cRange g ps a b) (fun id => cEnd (.exit id)) (fun _ _ => cNone) (fun _ => cEnd .normal) (fun l => cEnd (.goto l)) (cEnd .ret) (fun _ => cNone) c

/-! ### A call -/
def initK {β : Type} : List Value → Nat → T Value → (T Value → Option β) → Option β
  | [], _, tm, k => k tm
  | v :: vs, i, tm, k => T.setK v tm i fun tm' => initK vs (i + 1) tm' k
def resultA (P : Program) (tm : T Value) (h : AHeap) (r : ResultVar) : Option Value := match r with
  | .tmp t => some (getT tm t)
  | .cell a t => loadA P t (getT tm a) h
def resultsA (P : Program) (tm : T Value) (h : AHeap) : List ResultVar → Option (List Value)
  | [] => some []
  | r :: rs => match resultA P tm h r with
    | some v => match resultsA P tm h rs with
      | some vs => some (v :: vs)
      | none => none
    | none => none
def isOpen (h : AHeap) (d : Nat) : Bool := match h.get d with
  | some o => match o with
    | .deferred b => !b
    | _ => false
  | none => false
def shutAll : List Nat → AHeap → (AHeap → Option Res) → Option Res
  | [], h, k => k h
  | d :: ds, h, k => bif isOpen h d then h.setK d (.deferred true) fun h' => shutAll ds h' k else none
def oneOrAll (vs : List Value) : Value := match vs with
  | [] => .tuple ⟨[]⟩
  | v :: l => match l with
    | [] => v
    | w :: l => .tuple ⟨v :: w :: l⟩
def retVal (P : Program) (rs : List ResultVar) (tm : T Value) (h : AHeap) : Option Res := match resultsA P tm h rs with
  | some vs => some (.val (oneOrAll vs) h)
  | none => none
def isLeave (e : AExit) : Bool := match e with
  | .normal => true
  | .ret => true
  | _ => false
def leave (P : Program) (rs : List ResultVar) (r : Option Res) : Option Res := match r with
  | some r => match r with
    | .code e tm mk h => bif isLeave e then shutAll mk h fun h2 => retVal P rs tm h2 else none
    | _ => none
  | none => none
/-- the temporaries at the start: all places there, nothing in them -/
def blank (d : Nat) : T Value := Nat.rec (motive := fun _ => T Value) .leaf (fun _ t => .node none t t) d
def enter (P : Program) (ih : IH) (fn : Func) (args : List Value) (h : AHeap) : Option Res := match fn.body with
  | some c => bif Nat.ble args.length fn.ntmps then initK args 0 (blank (Nat.log2 fn.ntmps + 1)) fun tm0 => leave P fn.results.toList (ih (.code c fn.ntmps none tm0 [] h)) else none
  | none => none
def evFn (P : Program) (ih : IH) (f : FuncId) (args : List Value) (h : AHeap) : Option Res := match P.funcs[f]? with
  | none => none
  | some fn => enter P ih fn args h
/-- what is known of a function's calls without carrying them out: the value and the memory behind it; or which other call they are -/
inductive OrcR where
  | val (v : Value) (h : AHeap)
  | to (g : FuncId) (args : List Value)
abbrev Orc := FuncId → List Value → AHeap → Option OrcR
def evCall (P : Program) (orc : Orc) (ih : IH) (f : FuncId) (args : List Value) (h : AHeap) : Option Res := match orc f args h with
  | some r => match r with
    | .val v h' => some (.val v h')
    | .to g args' => ih (.call g args' h)
  | none => evFn P ih f args h

def evBody (P : Program) (orc : Orc) (ih : IH) (t : Task) : Option Res := Task.rec (motive := fun _ => Option Res) (fun c n ro tm mk h => evCode c ih P n ro tm mk h) (fun f args h => evCall P orc ih f args h) t

def ev (P : Program) (orc : Orc) (fuel : Nat) : Task → Option Res := Nat.rec (motive := fun _ => Task → Option Res) (fun _ => none) (fun _ ih => evBody P orc ih) fuel

end
end Go.Ev
